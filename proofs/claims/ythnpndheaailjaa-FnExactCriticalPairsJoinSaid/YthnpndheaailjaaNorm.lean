/-
  Positive words; normal words, tested.
-/
import Derived.Test.YthnpndheaailjaaRed
namespace Go.Proofs.Ythnpndheaailjaa
set_option linter.unusedVariables false
set_option linter.unusedSimpArgs false
set_option maxRecDepth 100000
open Go.RowKit

--== plain (posM)
def posM (n : Nat) (xs : List Int) (m : Nat) : Bool := posB n xs && decide (xs.length ≤ m)
theorem posM_len {n : Nat} {xs : List Int} {m : Nat} (h : ¬ xs.length ≤ m) : posM n xs m = false := by simp [posM, h]
theorem posM_in {n : Nat} {xs : List Int} {m : Nat} (h : xs.length ≤ m) : posM n xs m = posB n xs := by simp [posM, h]
--== normal
def posV (p : Pres) (xs : List Int) : Bool := validB p && posM p.n xs 64
def norB (p : Pres) (xs : List Int) : Bool := posV p xs && decide (firstR p.orders xs < 0)
