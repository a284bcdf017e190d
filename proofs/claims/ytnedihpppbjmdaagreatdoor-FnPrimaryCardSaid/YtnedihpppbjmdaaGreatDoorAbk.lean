/-
  The reference's test for quotients.
-/
import Derived.Test.YtnedihpppbjmdaaGreatDoorAbj
namespace Go.Proofs.YtnedihpppbjmdaaGreatDoor
set_option linter.unusedVariables false
set_option linter.unusedSimpArgs false
set_option maxRecDepth 100000
open Go.RowKit

/-- a call that tells whether one group is a quotient of another -/
def HasO (fa : List Nat) (ra : Int) (fb : List Nat) (rb : Int) (ok : Bool) (k : Int) : Prop :=
  (abP fa ra ∧ abP fb rb ∧ k = 0 ∧ (ok = true ↔ QD fa fb ra.toNat rb.toNat)) ∨ (¬ (abP fa ra ∧ abP fb rb) ∧ ok = false ∧ k = 1)
def RetHas (w : World) (fa : List Nat) (ra : Int) (fb : List Nat) (rb : Int) (e : Ending) (w' : World) : Prop := ∃ ok k, e = .returned (.tuple #[.bool ok, .int .i64 k]) ∧ HasO fa ra fb rb ok k ∧ Below w.heap.size w w'
def dnL (fs : List Nat) (r : Nat) : List Nat := List.replicate r 0 ++ fs.reverse
theorem rev_drop {fs : List Nat} {j : Nat} (h : j < fs.length) : (fs.drop j).reverse = (fs.drop (j + 1)).reverse ++ [fs.getD j 0] := by
  rw [split_drop h, List.reverse_cons]
