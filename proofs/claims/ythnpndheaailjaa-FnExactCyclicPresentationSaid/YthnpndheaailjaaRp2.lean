/-
  Calls that return a presentation and a code.
-/
import Derived.Test.YthnpndheaailjaaTriv
namespace Go.Proofs.Ythnpndheaailjaa
set_option linter.unusedVariables false
set_option linter.unusedSimpArgs false
set_option maxRecDepth 100000
open Go.RowKit

--== results
/-- what a call leaves that returns a presentation and a code -/
def RetP2 (w : World) (p : Pres) (c : Int) (e : Ending) (w' : World) : Prop := ∃ v1 v2 v3, e = .returned (.tuple #[.agg #[v1, v2, v3], .int .i64 c]) ∧ OP w' (win w.heap.size w'.heap.size) v1 v2 v3 p ∧ Below w.heap.size w w'
def noP : Pres := ⟨[], [], []⟩
def okP (c : Int) (p : Pres) : Pres := if c = 0 then p else noP
theorem okP_zero (p : Pres) : okP 0 p = p := rfl
theorem okP_ne {c : Int} (p : Pres) (h : ¬ c = 0) : okP c p = noP := if_neg h
theorem OP.none (w : World) (S : Nat → Prop) : OP w S (.slice none 0 0) (.slice none 0 0) (.slice none 0 0) noP := ⟨fun _ => False, fun _ => False, fun _ => False, local_O1.nil _ _, local_O2.nil _ _, local_O3.nil _ _, fun _ hk => hk.elim, fun _ hk => hk.elim, fun _ hk => hk.elim, fun _ _ h => h, fun _ _ h => h, fun _ _ h => h⟩
theorem set3 {w0 w : World} {b : Nat} (h : Below w0.heap.size w0 w) (hb : w0.heap.size ≤ b) (a c d : Value) : Below w0.heap.size w0 (((w.setCell ⟨b, 0, none⟩ a).setCell ⟨b, 1, none⟩ c).setCell ⟨b, 2, none⟩ d) :=
  ((h.setCell (p := ⟨b, 0, none⟩) hb a).setCell (p := ⟨b, 1, none⟩) hb c).setCell (p := ⟨b, 2, none⟩) hb d
theorem op_set3 {w : World} {S : Nat → Prop} {v1 v2 v3 : Value} {p : Pres} (h : OP w S v1 v2 v3 p) {b : Nat} (hb : ¬ S b) (a c d : Value) : OP (((w.setCell ⟨b, 0, none⟩ a).setCell ⟨b, 1, none⟩ c).setCell ⟨b, 2, none⟩ d) S v1 v2 v3 p :=
  OP.sets (OP.sets (OP.sets h hb 0 a) hb 1 c) hb 2 d
/-- what a call has made lies in what its caller's call makes -/
theorem op_wide {w0 w1 w2 : World} {v1 v2 v3 : Value} {p : Pres} {W : World} (h : OP W (win w1.heap.size w2.heap.size) v1 v2 v3 p) (h0 : w0.heap.size ≤ w1.heap.size) (h2 : w2.heap.size ≤ W.heap.size) : OP W (win w0.heap.size W.heap.size) v1 v2 v3 p :=
  OP.sub h fun k hk hh => ⟨by have := hh.1; omega, hk⟩
end Go.Proofs.Ythnpndheaailjaa
