/-
  Products and commutators of words.
-/
import Derived.Test.YtjefjhbnkcokhaaHelpB
namespace Go.Proofs.Ytjefjhbnkcokhaa
set_option linter.unusedVariables false
set_option linter.unusedSimpArgs false
set_option maxRecDepth 100000
open Go.RowKit

def okC (c0 c1 : Int) : Int := if c0 = 0 then c1 else c0
theorem okC_zero {c0 c1 : Int} (h : c0 = 0) : okC c0 c1 = c1 := if_pos h
theorem okC_ne {c0 c1 : Int} (h : ¬ c0 = 0) : okC c0 c1 = c0 := if_neg h
theorem small_append {xs ys : List Int} (h : Small xs) (h' : Small ys) : Small (xs ++ ys) := fun x hx => (List.mem_append.1 hx).elim (h x) (h' x)
theorem shortW_len (xs : List Int) : (shortW xs).length ≤ 64 := by unfold shortW; split <;> simp_all
theorem okW_short_len (c : Int) (xs : List Int) : (okW c (shortW xs)).length ≤ 1000000000 := by
  have := shortW_len xs
  unfold okW; split
  · omega
  · simp
/-- the outcome of a product: the short reduced form of the letters, and the code -/
def prodL (c0 : Int) (xs : List Int) : List Int := okW c0 (shortW (redW xs))
def prodC (c0 : Int) (xs : List Int) : Int := okC c0 (codeS (redW xs))
theorem prodL_len (c : Int) (xs : List Int) : (prodL c xs).length ≤ 1000000000 := okW_short_len _ _
theorem prodL_zero {c0 : Int} (xs : List Int) (h : c0 = 0) : prodL c0 xs = shortW (redW xs) ∧ prodC c0 xs = codeS (redW xs) := ⟨okW_zero h, okC_zero h⟩
theorem prodL_ne {c0 : Int} (xs : List Int) (h : ¬ c0 = 0) : prodL c0 xs = [] ∧ prodC c0 xs = c0 := ⟨okW_ne h, okC_ne h⟩
def commL (a b : List Int) : List Int := invW a ++ (invW b ++ (a ++ b))
theorem cat2 (a b : List Int) : cat [a, b] = a ++ b := by simp [cat]
theorem cat4 (a b c d : List Int) : cat [a, b, c, d] = a ++ (b ++ (c ++ d)) := by simp [cat]
