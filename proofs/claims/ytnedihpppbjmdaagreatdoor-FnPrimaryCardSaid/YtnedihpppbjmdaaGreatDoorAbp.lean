/-
  The program's test for quotients.
-/
import Derived.Test.YtnedihpppbjmdaaGreatDoorAbo
namespace Go.Proofs.YtnedihpppbjmdaaGreatDoor
set_option linter.unusedVariables false
set_option linter.unusedSimpArgs false
set_option maxRecDepth 100000
open Go.RowKit Go.Maps

