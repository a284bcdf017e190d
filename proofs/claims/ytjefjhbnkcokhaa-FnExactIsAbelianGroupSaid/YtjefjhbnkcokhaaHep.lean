/-
  The head of a presentation: the plain part.
-/
import Derived.Test.YtjefjhbnkcokhaaLev
namespace Go.Proofs.Ytjefjhbnkcokhaa
set_option linter.unusedVariables false
set_option linter.unusedSimpArgs false
set_option maxRecDepth 100000
open Go.RowKit

/-- the first m conjugates of row k, each up to f -/
def hdR (p : Pres) (f k m : Nat) : List (List Int) := (List.range m).map fun c => (p.C k (k + 1 + c)).take f
theorem hdR_succ (p : Pres) (f k m : Nat) : hdR p f k (m + 1) = hdR p f k m ++ [(p.C k (k + 1 + m)).take f] := by simp [hdR, List.range_succ]
theorem hdR_len (p : Pres) (f k m : Nat) : (hdR p f k m).length = m := by simp [hdR]
/-- the head up to f, with j of its levels -/
def hdP (p : Pres) (f j : Nat) : Pres := ⟨p.orders.take f, (List.range j).map fun t => (p.P t).take f, (List.range j).map fun t => hdR p f t (f - (t + 1))⟩
theorem hdP_succ (p : Pres) (f j : Nat) : hdP p f (j + 1) = ⟨(hdP p f j).orders, (hdP p f j).powers ++ [(p.P j).take f], (hdP p f j).conj ++ [hdR p f j (f - (j + 1))]⟩ := by simp [hdP, List.range_succ]
theorem hdP_pl (p : Pres) (f j : Nat) : (hdP p f j).powers.length = j := by simp [hdP]
theorem hdP_cl (p : Pres) (f j : Nat) : (hdP p f j).conj.length = j := by simp [hdP]
theorem hdP_ol (p : Pres) {f : Nat} (hf : f ≤ p.n) (j : Nat) : (hdP p f j).orders.length = f := by
  have : p.orders.length = p.n := rfl
  simp only [hdP, List.length_take]; omega
/-- a row of conjugates has room for its length -/
theorem conj_cap {w : World} {p : Pres} (hV : ValidP p) {b o q : Nat} (h3 : Rd3 w (.slice (some ⟨b, o, none⟩) p.n q) p.conj) {i : Nat} (hi : i < p.n) {a : Option Addr} {n z : Nat} (hc : w.cell? ⟨b, o + i, none⟩ = some (.slice a n z)) : n ≤ z := by
  have hl3 := hV.cl
  obtain ⟨b3, o3, r3, he, k3, RC⟩ := h3.at (j := i) (by omega)
  cases he
  rw [hc] at k3
  obtain ⟨a', z', he', h1, _⟩ := RC.formN (n := (p.conj.getD i []).length) rfl
  have : (Value.slice a n z) = .slice a' (p.conj.getD i []).length z' := by
    rw [← he']; exact Option.some.inj k3
  simp only [Value.slice.injEq] at this
  omega
end Go.Proofs.Ytjefjhbnkcokhaa
