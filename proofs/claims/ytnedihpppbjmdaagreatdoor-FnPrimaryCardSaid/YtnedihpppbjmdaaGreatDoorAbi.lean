/-
  The reference's factors, round by round.
-/
import Derived.Test.YtnedihpppbjmdaaGreatDoorAbh
namespace Go.Proofs.YtnedihpppbjmdaaGreatDoor
set_option linter.unusedVariables false
set_option linter.unusedSimpArgs false
set_option maxRecDepth 100000
open Go.RowKit

/-- the factors and whether they are within the limits -/
def RetFrom (w : World) (S : List Nat) (e : Ending) (w' : World) : Prop := ∃ v b fs, e = .returned (.tuple #[v, .bool b]) ∧ Ints w' w.heap.size v (nI fs) ∧ ((okU (colS S) ∧ b = true ∧ fs = (colS S).reverse) ∨ (¬ okU (colS S) ∧ b = false ∧ fs = [])) ∧ Below w.heap.size w w'
theorem lim_int {pr x : Nat} (h1 : 1 ≤ pr) : (1000000 : Int) / (pr : Int) < (x : Int) ↔ 1000000 / pr < x := by
  have e : (1000000 : Int) / (pr : Int) = ((1000000 / pr : Nat) : Int) := (Int.natCast_ediv 1000000 pr).symm
  rw [e]; omega
def lenS : Value → Nat
  | .slice _ n _ => n
  | _ => 0
