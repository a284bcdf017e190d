/-
  Words: is a list a word; its reduced form; its inverse.
-/
import Derived.Test.YtbhjbfgkohgiiaaLeaf
namespace Go.Proofs.Ytbhjbfgkohgiiaa
set_option linter.unusedVariables false
set_option linter.unusedSimpArgs false
set_option maxRecDepth 100000
open Go.RowKit

/-- a letter over k generators -/
def letB (k l : Int) : Bool := (l != 0) && inB l (-k) k
/-- a word over k generators -/
def wordB (k : Int) (w : List Int) : Bool := w.all (letB k) && decide (w.length ≤ 64)

theorem all_take_succ (f : Int → Bool) (xs : List Int) (k : Nat) (h : k < xs.length) : (xs.take (k + 1)).all f = ((xs.take k).all f && f (xs.getD k 0)) := by
  rw [take_snoc xs k 0 h]; simp
theorem all_false_of (f : Int → Bool) (xs : List Int) (k : Nat) (h : k < xs.length) (hf : f (xs.getD k 0) = false) : xs.all f = false := by
  rw [List.all_eq_false]; exact ⟨_, getD_mem h, by rw [hf]; simp⟩
theorem letB_zero (k : Int) : letB k 0 = false := by simp [letB]
theorem letB_of {k l : Int} (h : l ≠ 0) : letB k l = inB l (-k) k := by simp [letB, h]

--== IsWord
def isWordB (k : Int) (w : List Int) : Bool := inB k 0 6 && wordB k w
