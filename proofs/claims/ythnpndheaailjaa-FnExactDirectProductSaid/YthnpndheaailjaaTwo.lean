/-
  A call of two copies of presentations whose result goes to a new box: one region that draws its order.
-/
import Derived.Test.YthnpndheaailjaaRp2
import Derived.Test.YthnpndheaailjaaOpen
import Derived.Deep.DeepCutAuto
import Derived.Deep.DrawnRows
namespace Go.Proofs.Ythnpndheaailjaa
set_option linter.unusedVariables false
set_option linter.unusedSimpArgs false
set_option maxRecDepth 100000
open Go.RowKit

/-- box b, laid behind W, holds a presentation -/
def PBox (W wx : World) (b : Nat) (P : Pres) : Prop := ∃ v1 v2 v3, Bx wx b v1 v2 v3 ∧ OP wx (fun k => W.heap.size ≤ k ∧ k ≠ b) v1 v2 v3 P ∧ W.heap.size ≤ b ∧ Below W.heap.size W wx
theorem pbox1 {W w3 : World} {b : Nat} {S : Nat → Prop} {u1 u2 u3 v1 v2 v3 : Value} {P : Pres} (X : Bx w3 b u1 u2 u3) (h : OP w3 S v1 v2 v3 P) (hS : ∀ k, S k → W.heap.size ≤ k ∧ k ≠ b) (be : Below W.heap.size W w3) (hb : W.heap.size ≤ b) :
    PBox W (((w3.setCell ⟨b, 0, none⟩ v1).setCell ⟨b, 1, none⟩ v2).setCell ⟨b, 2, none⟩ v3) b P :=
  ⟨v1, v2, v3, ((X.set0 _).set1 _).set2 _, OP.sub (op_set3 h (fun h => (hS _ h).2 rfl) _ _ _) fun k _ hk => hS k hk, hb, set3 be hb _ _ _⟩
theorem pbox2 {W w3 : World} {S : Nat → Prop} {v1 v2 v3 : Value} {P : Pres} (h : OP w3 S v1 v2 v3 P) (hS : ∀ k, S k → W.heap.size ≤ k) (be : Below W.heap.size W w3) :
    PBox W (w3.alloc (.cells #[v1, v2, v3] 32)) w3.heap.size P :=
  ⟨v1, v2, v3, Bx.new w3 _ _ _, OP.sub (OP.below (OP.sub (S' := fun k => S k ∧ k < w3.heap.size) h fun k hk hs => ⟨hs, hk⟩) (below_alloc w3 _)) fun k _ hk => ⟨hS k hk.1, by omega⟩, be.size, be.alloc be.size _⟩
theorem ballocT {w0 w : World} (h : Below w0.heap.size w0 w) (o : Obj) : Below w0.heap.size w0 (w.alloc o) := h.alloc h.size o
end Go.Proofs.Ythnpndheaailjaa
