/-
  A presentation that a call builds level by level in a box of its own: what an append to its powers or to its conjugates leaves.
-/

import Derived.Test.YthnpndheaailjaaTriv
namespace Go.Proofs.Ythnpndheaailjaa
set_option linter.unusedVariables false
set_option linter.unusedSimpArgs false
set_option maxRecDepth 100000
open Go.RowKit

/-- box b2 is empty yet (the result's), box b4 holds the presentation P -/
def BInv (w : World) (b2 b4 : Nat) (P : Pres) (wx : World) : Prop :=
  ∃ v1 v2 v3, Bx wx b2 (.slice none 0 0) (.slice none 0 0) (.slice none 0 0) ∧ Bx wx b4 v1 v2 v3 ∧ OP wx (fun k => w.heap.size ≤ k ∧ k ≠ b2 ∧ k ≠ b4) v1 v2 v3 P ∧ Below w.heap.size w wx
/-- what is known of a box and what it holds, its slices open -/
structure BOpen (w : World) (b2 b4 : Nat) (P : Pres) (a1 : Option Addr) (c1 : Nat) (a2 : Option Addr) (n2 c2 : Nat) (a3 : Option Addr) (n3 c3 : Nat) (wx : World) : Prop where
  x2 : Bx wx b2 (.slice none 0 0) (.slice none 0 0) (.slice none 0 0)
  x4 : Bx wx b4 (.slice a1 P.orders.length c1) (.slice a2 n2 c2) (.slice a3 n3 c3)
  op : OP wx (fun k => w.heap.size ≤ k ∧ k ≠ b2 ∧ k ≠ b4) (.slice a1 P.orders.length c1) (.slice a2 n2 c2) (.slice a3 n3 c3) P
  be : Below w.heap.size w wx
  l2 : P.powers.length = n2
  l3 : P.conj.length = n3
theorem BInv.open {w wx : World} {b2 b4 : Nat} {P : Pres} (h : BInv w b2 b4 P wx) {n2 n3 : Nat} (e2 : P.powers.length = n2) (e3 : P.conj.length = n3) :
    ∃ a1 c1 a2 c2 a3 c3, BOpen w b2 b4 P a1 c1 a2 n2 c2 a3 n3 c3 wx := by
  obtain ⟨v1, v2, v3, X2, X4, hP, hW⟩ := h
  obtain ⟨⟨a1, c1, rfl⟩, ⟨a2, c2, rfl⟩, ⟨a3, c3, rfl⟩⟩ := hP.formsN rfl e2 e3
  exact ⟨a1, c1, a2, c2, a3, c3, X2, X4, hP, hW, e2, e3⟩
theorem BOpen.below {w wx wy : World} {b2 b4 : Nat} {P : Pres} {a1 c1 a2 n2 c2 a3 n3 c3} (h : BOpen w b2 b4 P a1 c1 a2 n2 c2 a3 n3 c3 wx) (hb : Below wx.heap.size wx wy) : BOpen w b2 b4 P a1 c1 a2 n2 c2 a3 n3 c3 wy where
  x2 := h.x2.below hb h.x2.lt
  x4 := h.x4.below hb h.x4.lt
  op := (OP.below (OP.sub h.op fun k hk hh => (⟨hh, hk⟩ : (w.heap.size ≤ k ∧ k ≠ b2 ∧ k ≠ b4) ∧ k < wx.heap.size)) hb).sub fun k _ hh => hh.1
  be := h.be.trans (hb.mono h.be.size)
  l2 := h.l2
  l3 := h.l3
theorem BOpen.grow_pow {w wx w3 : World} {b2 b4 : Nat} {P : Pres} {a1 c1 a2 n2 c2 a3 n3 c3} (h : BOpen w b2 b4 P a1 c1 a2 n2 c2 a3 n3 c3 wx) (hb2 : w.heap.size ≤ b2) (hb4 : w.heap.size ≤ b4) (hne : b2 ≠ b4) (ty : TypeId)
    (hB : Below wx.heap.size wx w3) {u : Value} {row : List Int} (hI : Ints w3 wx.heap.size u row) (hone : u.oneCell' = true) (hn : n2 ≤ 1000000) :
    ∃ a' c' w4, (Builtin.append_ #[29, 29] ty #[.slice a2 n2 c2, .slice (some ⟨w3.heap.size, 0, none⟩) 1 1]).run Try.prog (w3.alloc (.cells #[u] 22)) = .ok (.slice a' (n2 + 1) c') w4 ∧
      w4.cell? ⟨b4, 1, none⟩ = some (.slice a2 n2 c2) ∧ w4.frozen? ⟨b4, 1, none⟩ = false ∧ BInv w b2 b4 ⟨P.orders, P.powers ++ [row], P.conj⟩ (w4.setCell ⟨b4, 1, none⟩ (.slice a' (n2 + 1) c')) := by
  have h3 := h.below hB
  have hop := OP.sub h3.op (S' := fun k => (w.heap.size ≤ k ∧ k ≠ b2 ∧ k ≠ b4) ∧ k < w3.heap.size) fun k hk hh => ⟨hh, hk⟩
  have hop2 : OP w3 (fun k => (w.heap.size ≤ k ∧ k ≠ b2 ∧ k ≠ b4) ∧ k < wx.heap.size) (.slice a1 P.orders.length c1) (.slice a2 n2 c2) (.slice a3 n3 c3) P := OP.below (OP.sub h.op fun k hk hh => ⟨hh, hk⟩) hB
  have l2 := h.x2.lt
  have l4 := h.x4.lt
  have sz := hB.size
  obtain ⟨v2', w4, hr, hP4, hC4⟩ := run_appPow w3 ty _ (fun k => wx.heap.size ≤ k) _ _ _ _ hop2 u row ⟨hI.mono (Nat.zero_le _), fun g hg => (hI.lt g hg).1⟩ hone (fun k hk hh => by omega) (by rw [h.l2]; omega)
  have sz4 := hC4.size
  obtain ⟨_, ⟨a', c', rfl⟩, _⟩ := hP4.formsN (n1 := P.orders.length) (n2 := n2 + 1) (n3 := n3) rfl (by simp [h.l2]) h.l3
  have X2 := h3.x2.chg hC4 (fun hh => hh.1.2.1 rfl)
  have X4 := h3.x4.chg hC4 (fun hh => hh.1.2.2 rfl)
  have W4 : Below w.heap.size w w4 := h3.be.trans (hC4.below (fun k hk => hk.1.1) h3.be.size)
  refine ⟨a', c', w4, hr, X4.c1, X4.fr 1, _, _, _, X2.other hne 1 _, X4.set1 _, OP.sets (b := b4) (OP.sub hP4 fun k hk hh => ?_) (fun hh => hh.2.2 rfl) 1 _, W4.setCell (p := ⟨b4, 1, none⟩) hb4 _⟩
  have := h.be.size
  rcases hh with ⟨hh | hh, h5⟩ | ⟨h5, _⟩
  · exact hh.1
  · have hh' : wx.heap.size ≤ k := hh
    exact ⟨by omega, by omega, by omega⟩
  · exact ⟨by omega, by omega, by omega⟩
theorem BOpen.grow_conj {w wx w3 : World} {b2 b4 : Nat} {P : Pres} {a1 c1 a2 n2 c2 a3 n3 c3} (h : BOpen w b2 b4 P a1 c1 a2 n2 c2 a3 n3 c3 wx) (hb2 : w.heap.size ≤ b2) (hb4 : w.heap.size ≤ b4) (hne : b2 ≠ b4) (ty : TypeId)
    (hB : Below wx.heap.size wx w3) {u : Value} {rows : List (List Int)} (hI : O2 w3 (win wx.heap.size w3.heap.size) u rows) (hone : u.oneCell' = true) (hn : n3 ≤ 1000000) :
    ∃ a' c' w4, (Builtin.append_ #[30, 30] ty #[.slice a3 n3 c3, .slice (some ⟨w3.heap.size, 0, none⟩) 1 1]).run Try.prog (w3.alloc (.cells #[u] 29)) = .ok (.slice a' (n3 + 1) c') w4 ∧
      w3.cell? ⟨b4, 2, none⟩ = some (.slice a3 n3 c3) ∧ w4.cell? ⟨b4, 2, none⟩ = some (.slice a3 n3 c3) ∧ w4.frozen? ⟨b4, 2, none⟩ = false ∧ BInv w b2 b4 ⟨P.orders, P.powers, P.conj ++ [rows]⟩ (w4.setCell ⟨b4, 2, none⟩ (.slice a' (n3 + 1) c')) := by
  have h3 := h.below hB
  have hop2 : OP w3 (fun k => (w.heap.size ≤ k ∧ k ≠ b2 ∧ k ≠ b4) ∧ k < wx.heap.size) (.slice a1 P.orders.length c1) (.slice a2 n2 c2) (.slice a3 n3 c3) P := OP.below (OP.sub h.op fun k hk hh => ⟨hh, hk⟩) hB
  have l2 := h.x2.lt
  have l4 := h.x4.lt
  have sz := hB.size
  obtain ⟨v3', w4, hr, hP4, hC4⟩ := run_appConj w3 ty _ _ _ _ _ _ hop2 u rows hI hone (fun k hk hh => by have := hk.1; omega) (by rw [h.l3]; omega)
  have sz4 := hC4.size
  obtain ⟨_, _, ⟨a', c', rfl⟩⟩ := hP4.formsN (n1 := P.orders.length) (n2 := n2) (n3 := n3 + 1) rfl h.l2 (by simp [h.l3])
  have X2 := h3.x2.chg hC4 (fun hh => hh.1.2.1 rfl)
  have X4 := h3.x4.chg hC4 (fun hh => hh.1.2.2 rfl)
  have W4 : Below w.heap.size w w4 := h3.be.trans (hC4.below (fun k hk => hk.1.1) h3.be.size)
  refine ⟨a', c', w4, hr, h3.x4.c2, X4.c2, X4.fr 2, _, _, _, X2.other hne 2 _, X4.set2 _, OP.sets (b := b4) (OP.sub hP4 fun k hk hh => ?_) (fun hh => hh.2.2 rfl) 2 _, W4.setCell (p := ⟨b4, 2, none⟩) hb4 _⟩
  have := h.be.size
  rcases hh with ⟨hh | hh, h5⟩ | ⟨h5, _⟩
  · exact hh.1
  · have := hh.1
    exact ⟨by omega, by omega, by omega⟩
  · exact ⟨by omega, by omega, by omega⟩
/-- the three stores of the whole struct into the result's box -/
theorem BOpen.out {w wx : World} {b2 b4 : Nat} {P : Pres} {a1 c1 a2 n2 c2 a3 n3 c3} (h : BOpen w b2 b4 P a1 c1 a2 n2 c2 a3 n3 c3 wx) (hb2 : w.heap.size ≤ b2) :
    OP (((wx.setCell ⟨b2, 0, none⟩ (.slice a1 P.orders.length c1)).setCell ⟨b2, 1, none⟩ (.slice a2 n2 c2)).setCell ⟨b2, 2, none⟩ (.slice a3 n3 c3)) (win w.heap.size (((wx.setCell ⟨b2, 0, none⟩ (.slice a1 P.orders.length c1)).setCell ⟨b2, 1, none⟩ (.slice a2 n2 c2)).setCell ⟨b2, 2, none⟩ (.slice a3 n3 c3)).heap.size) (.slice a1 P.orders.length c1) (.slice a2 n2 c2) (.slice a3 n3 c3) P ∧
      Below w.heap.size w (((wx.setCell ⟨b2, 0, none⟩ (.slice a1 P.orders.length c1)).setCell ⟨b2, 1, none⟩ (.slice a2 n2 c2)).setCell ⟨b2, 2, none⟩ (.slice a3 n3 c3)) :=
  ⟨OP.sub (OP.sets (OP.sets (OP.sets h.op (b := b2) (fun hh => hh.2.1 rfl) 0 _) (b := b2) (fun hh => hh.2.1 rfl) 1 _) (b := b2) (fun hh => hh.2.1 rfl) 2 _) (fun k hk hh => ⟨hh.1, hk⟩),
    ((h.be.setCell (p := ⟨b2, 0, none⟩) hb2 _).setCell (p := ⟨b2, 1, none⟩) hb2 _).setCell (p := ⟨b2, 2, none⟩) hb2 _⟩
end Go.Proofs.Ythnpndheaailjaa
