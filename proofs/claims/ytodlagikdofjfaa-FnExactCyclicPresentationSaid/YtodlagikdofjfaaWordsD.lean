/-
  Words: the exported functions; joins.
-/
import Derived.Test.YtodlagikdofjfaaWordsC
namespace Go.Proofs.Ytodlagikdofjfaa
set_option linter.unusedVariables false
set_option linter.unusedSimpArgs false
set_option maxRecDepth 100000
open Go.RowKit

def okW (c : Int) (r : List Int) : List Int := if c = 0 then r else []
theorem okW_zero {c : Int} {r : List Int} (h : c = 0) : okW c r = r := if_pos h
theorem okW_ne {c : Int} {r : List Int} (h : ¬ c = 0) : okW c r = [] := if_neg h
theorem below_allocd {w w' : World} {o : Obj} (h : Below (w.alloc o).heap.size (w.alloc o) w') : Below w.heap.size w w' := (below_alloc w o).trans (h.mono (by simp))
theorem Ints.allocd {w w' : World} {o : Obj} {v : Value} {xs : List Int} (h : Ints w' (w.alloc o).heap.size v xs) : Ints w' w.heap.size v xs := h.mono (by simp)
theorem wf_len {xs : List Int} (h : xs.length ≤ 64) : xs.length ≤ 100000000 := by omega

theorem okW_len {k : Int} {xs r : List Int} (h : r.length ≤ xs.length) : (okW (codeOf k [xs]) r).length ≤ 1000000000 := by
  by_cases hc : codeOf k [xs] = 0
  · obtain ⟨⟨_, h6⟩, hw⟩ := codeOf_zero hc
    have := (wordB_small h6 (hw xs (by simp))).2
    rw [okW_zero hc]; omega
  · rw [okW_ne hc]; simp
theorem len_ReduceWord (k : Int) (xs : List Int) : (okW (codeOf k [xs]) (redW xs)).length ≤ 1000000000 := okW_len (redW_length xs)
theorem len_InvertWord (k : Int) (xs : List Int) : (okW (codeOf k [xs]) (invW xs)).length ≤ 1000000000 := okW_len (Nat.le_of_eq (invW_length xs))

--== IsReducedWord
def isRedB (k : Int) (w : List Int) : Bool := isWordB k w && decide (redW w = w)
theorem redW_fix (xs : List Int) : redW xs = xs ↔ (redW xs).length = xs.length := by
  constructor
  · intro h; rw [h]
  · intro h
    -- a fold that never gets shorter only ever appends
    suffices g : ∀ (ys out : List Int), (ys.foldl redStep out).length = out.length + ys.length → ys.foldl redStep out = out ++ ys by
      simpa [redW] using g xs [] (by simpa [redW] using h)
    intro ys
    induction ys with
    | nil => intro out _; simp
    | cons y ys ih =>
      intro out ho
      have hle : ∀ (zs o : List Int), (zs.foldl redStep o).length ≤ o.length + zs.length := by
        intro zs
        induction zs with
        | nil => simp
        | cons z zs ih => intro o; have := ih (redStep o z); have := redStep_length o z; simp only [List.foldl_cons, List.length_cons]; omega
      simp only [List.foldl_cons, List.length_cons] at ho ⊢
      have h1 := hle ys (redStep out y)
      have h2 := redStep_length out y
      have h3 : redStep out y = out ++ [y] := by
        unfold redStep
        split
        · rename_i hq
          exfalso
          have : (redStep out y).length ≤ out.length := by unfold redStep; rw [if_pos hq]; simp
          omega
        · rfl
      rw [h3] at ho h1 ⊢
      rw [ih (out ++ [y]) (by simp at ho ⊢; omega)]
      simp
theorem isRedB_no {k : Int} {w : List Int} (h : isWordB k w = false) : isRedB k w = false := by simp [isRedB, h]
theorem isWordB_in {k : Int} {w : List Int} (h : isWordB k w = true) : (0 ≤ k ∧ k ≤ 6) ∧ wordB k w = true ∧ Small w ∧ w.length ≤ 64 := by
  simp only [isWordB, Bool.and_eq_true] at h
  have hk := inB_true.1 h.1
  exact ⟨hk, h.2, wordB_small hk.2 h.2⟩
