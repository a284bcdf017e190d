/-
  The direct product: the program's side.
-/
import Derived.Test.YtgcmhkihonadmaaGreatDoorApz
import Derived.Deep.DeepCutAuto
import Derived.Deep.DrawnRows
namespace Go.Proofs.YtgcmhkihonadmaaGreatDoor
set_option linter.unusedVariables false
set_option linter.unusedSimpArgs false
set_option maxRecDepth 100000
open Go.RowKit
attribute [local go_sem ↓] Go.wp_at_zero Go.wp_at_succ

theorem ballocD {w0 w : World} (h : Below w0.heap.size w0 w) (o : Obj) : Below w0.heap.size w0 (w.alloc o) := h.alloc h.size o
theorem BInv.mk1 {w wx : World} {b2 b4 : Nat} {S : Nat → Prop} {v1 v2 v3 : Value} {P : Pres} (X2 : Bx wx b2 (.slice none 0 0) (.slice none 0 0) (.slice none 0 0)) {u1 u2 u3 : Value} (X4 : Bx wx b4 u1 u2 u3) (h : OP wx S v1 v2 v3 P)
    (hS : ∀ k, S k → w.heap.size ≤ k ∧ k ≠ b2 ∧ k ≠ b4) (be : Below w.heap.size w wx) (hb4 : w.heap.size ≤ b4) (hne : b2 ≠ b4) : BInv w b2 b4 P (((wx.setCell ⟨b4, 0, none⟩ v1).setCell ⟨b4, 1, none⟩ v2).setCell ⟨b4, 2, none⟩ v3) := by
  have n4 : ¬ S b4 := fun h => (hS _ h).2.2 rfl
  exact ⟨v1, v2, v3, ((X2.other hne 0 _).other hne 1 _).other hne 2 _, ((X4.set0 _).set1 _).set2 _, OP.sub (OP.sets (OP.sets (OP.sets h n4 0 _) n4 1 _) n4 2 _) fun k _ hk => hS k hk,
    ((be.setCell (p := ⟨b4, 0, none⟩) hb4 _).setCell (p := ⟨b4, 1, none⟩) hb4 _).setCell (p := ⟨b4, 2, none⟩) hb4 _⟩
theorem BInv.mk2 {w wx : World} {b2 : Nat} {S : Nat → Prop} {v1 v2 v3 : Value} {P : Pres} (X2 : Bx wx b2 (.slice none 0 0) (.slice none 0 0) (.slice none 0 0)) (h : OP wx S v1 v2 v3 P)
    (hS : ∀ k, S k → w.heap.size ≤ k ∧ k ≠ b2) (be : Below w.heap.size w wx) : BInv w b2 wx.heap.size P (wx.alloc (.cells #[v1, v2, v3] 26)) :=
  ⟨v1, v2, v3, X2.old _, Bx.new wx _ _ _, OP.sub (OP.below (OP.sub (S' := fun k => S k ∧ k < wx.heap.size) h fun k hk hs => ⟨hs, hk⟩) (below_alloc wx _)) fun k _ hk => ⟨(hS k hk.1).1, (hS k hk.1).2, by omega⟩, be.alloc be.size _⟩
/-- the argument of Concat, in a world where the new box comes late, ahead of it, or behind it -/
theorem cat_lit1 (w : World) (o : Obj) (va vb : Value) (xs ys : List Int) (h1 : Rd w va xs) (h2 : Rd w vb ys) :
    Rd2 ((w.alloc o).alloc (.cells #[va, vb] 22)).drew.drew (.slice (some ⟨w.heap.size + 1, 0, none⟩) 2 2) [xs, ys] ∧ Below w.heap.size w ((w.alloc o).alloc (.cells #[va, vb] 22)).drew.drew := by
  have hl := Rd2.lit2 (w := w.alloc o) 22 va vb xs ys (h1.below (below_alloc w o)) (h2.below (below_alloc w o))
  rw [show (w.alloc o).heap.size = w.heap.size + 1 by simp] at hl
  exact ⟨hl, (below_allocs2 w _ _).drew.drew⟩
theorem cat_lit2 (w : World) (o o' : Obj) (va vb : Value) (xs ys : List Int) (h1 : Rd w va xs) (h2 : Rd w vb ys) :
    Rd2 (((w.alloc o).alloc o').alloc (.cells #[va, vb] 22)).drew.drew (.slice (some ⟨w.heap.size + 1 + 1, 0, none⟩) 2 2) [xs, ys] ∧ Below w.heap.size w (((w.alloc o).alloc o').alloc (.cells #[va, vb] 22)).drew.drew := by
  have hl := Rd2.lit2 (w := (w.alloc o).alloc o') 22 va vb xs ys (h1.below (below_allocs2 w o o')) (h2.below (below_allocs2 w o o'))
  rw [show ((w.alloc o).alloc o').heap.size = w.heap.size + 1 + 1 by simp] at hl
  exact ⟨hl, (below_allocs3 w _ _ _).drew.drew⟩
theorem cat_lit3 (w : World) (o o' : Obj) (va vb : Value) (xs ys : List Int) (h1 : Rd w va xs) (h2 : Rd w vb ys) :
    Rd2 (((w.alloc o).alloc (.cells #[va, vb] 22)).alloc o').drew.drew (.slice (some ⟨w.heap.size + 1, 0, none⟩) 2 2) [xs, ys] ∧ Below w.heap.size w (((w.alloc o).alloc (.cells #[va, vb] 22)).alloc o').drew.drew := by
  have hl := (cat_lit1 w o va vb xs ys h1 h2).1
  have hb : Below ((w.alloc o).alloc (.cells #[va, vb] 22)).heap.size ((w.alloc o).alloc (.cells #[va, vb] 22)) (((w.alloc o).alloc (.cells #[va, vb] 22)).alloc o').drew.drew := (below_alloc _ o').drew.drew
  exact ⟨Rd2.below (w := ((w.alloc o).alloc (.cells #[va, vb] 22))) hl hb, (below_allocs3 w _ _ _).drew.drew⟩
theorem BInv.bel {w wx : World} {b2 b4 : Nat} {P : Pres} (h : BInv w b2 b4 P wx) : Below w.heap.size w wx := by
  obtain ⟨_, _, _, _, _, _, h⟩ := h; exact h
