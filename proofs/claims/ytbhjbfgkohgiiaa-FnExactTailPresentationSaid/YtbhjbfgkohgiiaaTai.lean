/-
  The tail of a presentation: the plain part (the walks are to come).
-/
import Derived.Test.YtbhjbfgkohgiiaaLev
import Derived.Test.YtbhjbfgkohgiiaaRow
namespace Go.Proofs.Ytbhjbfgkohgiiaa
set_option linter.unusedVariables false
set_option linter.unusedSimpArgs false
set_option maxRecDepth 100000
open Go.RowKit

/-- the first m conjugates of row k, each from f on -/
def tlR (p : Pres) (f k m : Nat) : List (List Int) := (List.range m).map fun c => (p.C k (k + 1 + c)).drop f
theorem tlR_succ (p : Pres) (f k m : Nat) : tlR p f k (m + 1) = tlR p f k m ++ [(p.C k (k + 1 + m)).drop f] := by simp [tlR, List.range_succ]
theorem tlR_len (p : Pres) (f k m : Nat) : (tlR p f k m).length = m := by simp [tlR]
/-- the tail from f on, with j of its levels -/
def tlP (p : Pres) (f j : Nat) : Pres := ⟨p.orders.drop f, (List.range j).map fun t => (p.P (f + t)).drop f, (List.range j).map fun t => tlR p f (f + t) (p.n - (f + t + 1))⟩
theorem tlP_succ (p : Pres) (f j : Nat) : tlP p f (j + 1) = ⟨(tlP p f j).orders, (tlP p f j).powers ++ [(p.P (f + j)).drop f], (tlP p f j).conj ++ [tlR p f (f + j) (p.n - (f + j + 1))]⟩ := by simp [tlP, List.range_succ]
theorem tlP_pl (p : Pres) (f j : Nat) : (tlP p f j).powers.length = j := by simp [tlP]
theorem tlP_cl (p : Pres) (f j : Nat) : (tlP p f j).conj.length = j := by simp [tlP]
theorem tlP_ol (p : Pres) (f j : Nat) : (tlP p f j).orders.length = p.n - f := by simp [tlP, Pres.n]
def tailK (p : Pres) (f : Int) : Int := if validB p = true then (if inB f 0 p.n = true then 0 else 2) else 1
def tailX (p : Pres) (f : Int) : Pres := if tailK p f = 0 then tlP p f.toNat (p.n - f.toNat) else ⟨[], [], []⟩
theorem tailK_1 {p : Pres} {f : Int} (h : validB p = false) : tailK p f = 1 := by unfold tailK; rw [h]; rfl
theorem tailK_2 {p : Pres} {f : Int} (h : validB p = true) (h2 : inB f 0 p.n = false) : tailK p f = 2 := by unfold tailK; rw [h, h2]; rfl
theorem tailK_0 {p : Pres} {f : Int} (h : validB p = true) (h2 : inB f 0 p.n = true) : tailK p f = 0 := by unfold tailK; rw [h, h2]; rfl
end Go.Proofs.Ytbhjbfgkohgiiaa
