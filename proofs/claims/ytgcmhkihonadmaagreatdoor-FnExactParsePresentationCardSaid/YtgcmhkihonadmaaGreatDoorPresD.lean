/-
  The order of a presentation; normal words, exported.
-/
import Derived.Test.YtgcmhkihonadmaaGreatDoorPresC
namespace Go.Proofs.YtgcmhkihonadmaaGreatDoor
set_option linter.unusedVariables false
set_option linter.unusedSimpArgs false
set_option maxRecDepth 100000
open Go.RowKit

def okI (c : Bool) (n : Int) : Int := if c then n else 0
def cod1 (c : Bool) : Int := if c then 0 else 1
def okX (c : Bool) (xs : List Int) : List Int := if c then xs else []
theorem ret_ii {a b c d : Int} (h : a = b) (h' : c = d) : Ending.returned (.tuple #[.int .i64 a, .int .i64 c]) = .returned (.tuple #[.int .i64 b, .int .i64 d]) := by rw [h, h']
