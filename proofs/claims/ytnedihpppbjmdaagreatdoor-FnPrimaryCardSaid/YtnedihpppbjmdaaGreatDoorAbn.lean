/-
  The program's direct product.
-/
import Derived.Test.YtnedihpppbjmdaaGreatDoorAbj
import Derived.Test.YtnedihpppbjmdaaGreatDoorAbm
namespace Go.Proofs.YtnedihpppbjmdaaGreatDoor
set_option linter.unusedVariables false
set_option linter.unusedSimpArgs false
set_option maxRecDepth 100000
open Go.RowKit

theorem cell_set2 {w : World} {b k : Nat} (h : k ≠ b) (o : Nat) (x y : Value) : ((w.setCell ⟨b, 0, none⟩ x).setCell ⟨b, 1, none⟩ y).cell? ⟨k, o, none⟩ = w.cell? ⟨k, o, none⟩ :=
  World.cell?_of_block (by rw [heap_setCell_other _ _ _ _ (by exact h), heap_setCell_other _ _ _ _ (by exact h)])
