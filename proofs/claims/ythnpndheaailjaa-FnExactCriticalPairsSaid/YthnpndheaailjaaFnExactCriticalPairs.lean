/-
  The law FnExactCriticalPairs: for every input the call returns true, and each argument reads behind the call as it read before. No condition.
-/
import Derived.Test.YthnpndheaailjaaOpen
import Derived.Test.YthnpndheaailjaaCrh
namespace Go.Proofs.Ythnpndheaailjaa.fnExactCriticalPairs
set_option linter.unusedVariables false
set_option linter.unusedSimpArgs false
set_option maxRecDepth 100000
open Go.ChangeShapes Go.WideShapes Go.ChangeAt Go.RowKit
open Go.ChangeMaps (open_string shut_string)
set_option linter.unusedVariables false

set_option maxHeartbeats 8000000 in
set_option maxRecDepth 100000 in
theorem core (v1aP v2aP v3aP : Value) (aP : Pres) (w : World) (haP : RdP w v1aP v2aP v3aP aP) :
    Calls Try.prog 12 #[.agg #[v1aP, v2aP, v3aP]] w (RetV w (.bool true)) := by
  have HEaP := Lib.hid haP
  clear haP
  by_cases gaP : ((psize aP : Nat) : Int) ≤ 1048576
  case neg =>
    have SNaP := Lib.hid (szI_out gaP)
    have hbx : Below w.heap.size w (w.alloc (Obj.cells #[v1aP, v2aP, v3aP] 38)) := below_alloc w _
    have zaP : w.heap.size < ((w.alloc (Obj.cells #[v1aP, v2aP, v3aP] 38))).heap.size := by simp <;> omega
    have M0aP : Hid (((w.alloc (Obj.cells #[v1aP, v2aP, v3aP] 38))).cell? ⟨w.heap.size, 0, none⟩ = some v1aP) := by show _ = _; simp [go_sem]
    have M1aP : Hid (((w.alloc (Obj.cells #[v1aP, v2aP, v3aP] 38))).cell? ⟨w.heap.size, 1, none⟩ = some v2aP) := by show _ = _; simp [go_sem]
    have M2aP : Hid (((w.alloc (Obj.cells #[v1aP, v2aP, v3aP] 38))).cell? ⟨w.heap.size, 2, none⟩ = some v3aP) := by show _ = _; simp [go_sem]
    go_enter Try.func12, Try.ntmps12
    go_wp2_with fail
    generalize (w.alloc (Obj.cells #[v1aP, v2aP, v3aP] 38)) = w0 at *
    have m0aP := M0aP.out
    have m1aP := M1aP.out
    have m2aP := M2aP.out
    have hb0 := Below.refl w0.heap.size w0
    go_wp2_with fail
    refine (l_szPresentation _ _ _ aP _ _ ((HEaP.out.below hbx).below hb0) (by omega) (by omega)).mono ?_
    rintro e w1 ⟨rfl, hb⟩
    have hb0x := below_size hb0 hb
    clear hb0
    have hb0 := hb0x
    clear hb0x
    have s1 : w0.heap.size ≤ w1.heap.size := hb.size
    have t := (hb.cell (p := ⟨w.heap.size, 0, none⟩) (show w.heap.size < _ by omega)).trans m0aP
    clear m0aP
    have m0aP := t
    clear t
    have t := (hb.cell (p := ⟨w.heap.size, 1, none⟩) (show w.heap.size < _ by omega)).trans m1aP
    clear m1aP
    have m1aP := t
    clear t
    have t := (hb.cell (p := ⟨w.heap.size, 2, none⟩) (show w.heap.size < _ by omega)).trans m2aP
    clear m2aP
    have m2aP := t
    clear t
    clear hb
    rw [SNaP.out]
    go_wp2_with fail
    go_ret
    exact ⟨rfl, hbx.trans (hb0.mono hbx.size)⟩
  have SZaP := Lib.hid (szI_in gaP)
  have laP : psize aP ≤ 1048576 := by omega
  have hbx : Below w.heap.size w (w.alloc (Obj.cells #[v1aP, v2aP, v3aP] 38)) := below_alloc w _
  have zaP : w.heap.size < ((w.alloc (Obj.cells #[v1aP, v2aP, v3aP] 38))).heap.size := by simp <;> omega
  have M0aP : Hid (((w.alloc (Obj.cells #[v1aP, v2aP, v3aP] 38))).cell? ⟨w.heap.size, 0, none⟩ = some v1aP) := by show _ = _; simp [go_sem]
  have M1aP : Hid (((w.alloc (Obj.cells #[v1aP, v2aP, v3aP] 38))).cell? ⟨w.heap.size, 1, none⟩ = some v2aP) := by show _ = _; simp [go_sem]
  have M2aP : Hid (((w.alloc (Obj.cells #[v1aP, v2aP, v3aP] 38))).cell? ⟨w.heap.size, 2, none⟩ = some v3aP) := by show _ = _; simp [go_sem]
  go_enter Try.func12, Try.ntmps12
  go_wp2_with fail
  generalize (w.alloc (Obj.cells #[v1aP, v2aP, v3aP] 38)) = w0 at *
  have m0aP := M0aP.out
  have m1aP := M1aP.out
  have m2aP := M2aP.out
  have hb0 := Below.refl w0.heap.size w0
  go_wp2_with fail
  refine (l_szPresentation _ _ _ aP _ _ ((HEaP.out.below hbx).below hb0) (by omega) (by omega)).mono ?_
  rintro e w1 ⟨rfl, hb⟩
  have hb0x := below_size hb0 hb
  clear hb0
  have hb0 := hb0x
  clear hb0x
  have s1 : w0.heap.size ≤ w1.heap.size := hb.size
  have t := (hb.cell (p := ⟨w.heap.size, 0, none⟩) (show w.heap.size < _ by omega)).trans m0aP
  clear m0aP
  have m0aP := t
  clear t
  have t := (hb.cell (p := ⟨w.heap.size, 1, none⟩) (show w.heap.size < _ by omega)).trans m1aP
  clear m1aP
  have m1aP := t
  clear t
  have t := (hb.cell (p := ⟨w.heap.size, 2, none⟩) (show w.heap.size < _ by omega)).trans m2aP
  clear m2aP
  have m2aP := t
  clear t
  clear hb
  rw [SZaP.out]
  go_wp2_with fail
  refine (l_toPresentation _ _ _ aP _ ((HEaP.out.below hbx).below hb0) (by omega)).mono ?_
  rintro e w2 ⟨v1c1, v2c1, v3c1, rfl, hc1, hb⟩
  have hb0x := below_size hb0 hb
  clear hb0
  have hb0 := hb0x
  clear hb0x
  have s2 : w1.heap.size ≤ w2.heap.size := hb.size
  have t := (hb.cell (p := ⟨w.heap.size, 0, none⟩) (show w.heap.size < _ by omega)).trans m0aP
  clear m0aP
  have m0aP := t
  clear t
  have t := (hb.cell (p := ⟨w.heap.size, 1, none⟩) (show w.heap.size < _ by omega)).trans m1aP
  clear m1aP
  have m1aP := t
  clear t
  have t := (hb.cell (p := ⟨w.heap.size, 2, none⟩) (show w.heap.size < _ by omega)).trans m2aP
  clear m2aP
  have m2aP := t
  clear t
  clear hb
  go_wp2_with fail
  refine (s_CriticalPairs _ _ _ _ _ hc1.rd).mono ?_
  rintro e w3 ⟨vw0, rfl, hw0, hb⟩
  have hb0x := below_size hb0 hb
  clear hb0
  have hb0 := hb0x
  clear hb0x
  have s3 : w2.heap.size ≤ w3.heap.size := hb.size
  have t := (hb.cell (p := ⟨w.heap.size, 0, none⟩) (show w.heap.size < _ by omega)).trans m0aP
  clear m0aP
  have m0aP := t
  clear t
  have t := (hb.cell (p := ⟨w.heap.size, 1, none⟩) (show w.heap.size < _ by omega)).trans m1aP
  clear m1aP
  have m1aP := t
  clear t
  have t := (hb.cell (p := ⟨w.heap.size, 2, none⟩) (show w.heap.size < _ by omega)).trans m2aP
  clear m2aP
  have m2aP := t
  clear t
  have t := OP.below hc1 hb
  clear hc1
  have hc1 := t
  clear t
  clear hb
  obtain ⟨aw0, qw0, rfl, _, _⟩ := (OT.rt hw0).form
  go_wp2_with fail
  refine (l_toPresentation _ _ _ aP _ ((HEaP.out.below hbx).below hb0) (by omega)).mono ?_
  rintro e w4 ⟨v1c2, v2c2, v3c2, rfl, hc2, hb⟩
  have hb0x := below_size hb0 hb
  clear hb0
  have hb0 := hb0x
  clear hb0x
  have s4 : w3.heap.size ≤ w4.heap.size := hb.size
  have t := (hb.cell (p := ⟨w.heap.size, 0, none⟩) (show w.heap.size < _ by omega)).trans m0aP
  clear m0aP
  have m0aP := t
  clear t
  have t := (hb.cell (p := ⟨w.heap.size, 1, none⟩) (show w.heap.size < _ by omega)).trans m1aP
  clear m1aP
  have m1aP := t
  clear t
  have t := (hb.cell (p := ⟨w.heap.size, 2, none⟩) (show w.heap.size < _ by omega)).trans m2aP
  clear m2aP
  have m2aP := t
  clear t
  have t := OP.below hc1 hb
  clear hc1
  have hc1 := t
  clear t
  have t := OT.below hw0 hb
  clear hw0
  have hw0 := t
  clear t
  clear hb
  obtain ⟨a1c2, n1c2, q1c2, a2c2, n2c2, q2c2, a3c2, n3c2, q3c2, rfl, rfl, rfl⟩ := hc2.formsE
  have llc2 : psize aP ≤ 1000000000 := by omega
  have yaP : w.heap.size < w4.heap.size := by omega
  go_wp2_with fail
  clear yaP
  have hb := below_alloc w4 (Obj.cells #[Value.slice a1c2 n1c2 q1c2, Value.slice a2c2 n2c2 q2c2, Value.slice a3c2 n3c2 q3c2] 32)
  have zc2 : w4.heap.size < (w4.alloc (Obj.cells #[Value.slice a1c2 n1c2 q1c2, Value.slice a2c2 n2c2 q2c2, Value.slice a3c2 n3c2 q3c2] 32)).heap.size := by simp
  have M0c2 : Hid ((w4.alloc (Obj.cells #[Value.slice a1c2 n1c2 q1c2, Value.slice a2c2 n2c2 q2c2, Value.slice a3c2 n3c2 q3c2] 32)).cell? ⟨w4.heap.size, 0, none⟩ = some (Value.slice a1c2 n1c2 q1c2)) := by show _ = _; simp [go_sem]
  have M1c2 : Hid ((w4.alloc (Obj.cells #[Value.slice a1c2 n1c2 q1c2, Value.slice a2c2 n2c2 q2c2, Value.slice a3c2 n3c2 q3c2] 32)).cell? ⟨w4.heap.size, 1, none⟩ = some (Value.slice a2c2 n2c2 q2c2)) := by show _ = _; simp [go_sem]
  have M2c2 : Hid ((w4.alloc (Obj.cells #[Value.slice a1c2 n1c2 q1c2, Value.slice a2c2 n2c2 q2c2, Value.slice a3c2 n3c2 q3c2] 32)).cell? ⟨w4.heap.size, 2, none⟩ = some (Value.slice a3c2 n3c2 q3c2)) := by show _ = _; simp [go_sem]
  generalize (w4.alloc (Obj.cells #[Value.slice a1c2 n1c2 q1c2, Value.slice a2c2 n2c2 q2c2, Value.slice a3c2 n3c2 q3c2] 32)) = w5 at *
  have hb0x := below_size hb0 hb
  clear hb0
  have hb0 := hb0x
  clear hb0x
  have s5 : w4.heap.size ≤ w5.heap.size := hb.size
  have t := (hb.cell (p := ⟨w.heap.size, 0, none⟩) (show w.heap.size < _ by omega)).trans m0aP
  clear m0aP
  have m0aP := t
  clear t
  have t := (hb.cell (p := ⟨w.heap.size, 1, none⟩) (show w.heap.size < _ by omega)).trans m1aP
  clear m1aP
  have m1aP := t
  clear t
  have t := (hb.cell (p := ⟨w.heap.size, 2, none⟩) (show w.heap.size < _ by omega)).trans m2aP
  clear m2aP
  have m2aP := t
  clear t
  have t := OP.below hc1 hb
  clear hc1
  have hc1 := t
  clear t
  have t := OT.below hw0 hb
  clear hw0
  have hw0 := t
  clear t
  have t := OP.below hc2 hb
  clear hc2
  have hc2 := t
  clear t
  clear hb
  have m0c2 := M0c2.out
  have m1c2 := M1c2.out
  have m2c2 := M2c2.out
  refine (i_CriticalPairs _ _ _ _ _ hc2.rd).mono ?_
  rintro e w6 ⟨vg0, rfl, hg0, hb⟩
  have hb0x := below_size hb0 hb
  clear hb0
  have hb0 := hb0x
  clear hb0x
  have s6 : w5.heap.size ≤ w6.heap.size := hb.size
  have t := (hb.cell (p := ⟨w.heap.size, 0, none⟩) (show w.heap.size < _ by omega)).trans m0aP
  clear m0aP
  have m0aP := t
  clear t
  have t := (hb.cell (p := ⟨w.heap.size, 1, none⟩) (show w.heap.size < _ by omega)).trans m1aP
  clear m1aP
  have m1aP := t
  clear t
  have t := (hb.cell (p := ⟨w.heap.size, 2, none⟩) (show w.heap.size < _ by omega)).trans m2aP
  clear m2aP
  have m2aP := t
  clear t
  have t := (hb.cell (p := ⟨w4.heap.size, 0, none⟩) (show w4.heap.size < _ by omega)).trans m0c2
  clear m0c2
  have m0c2 := t
  clear t
  have t := (hb.cell (p := ⟨w4.heap.size, 1, none⟩) (show w4.heap.size < _ by omega)).trans m1c2
  clear m1c2
  have m1c2 := t
  clear t
  have t := (hb.cell (p := ⟨w4.heap.size, 2, none⟩) (show w4.heap.size < _ by omega)).trans m2c2
  clear m2c2
  have m2c2 := t
  clear t
  have t := OP.below hc1 hb
  clear hc1
  have hc1 := t
  clear t
  have t := OT.below hw0 hb
  clear hw0
  have hw0 := t
  clear t
  have t := OP.below hc2 hb
  clear hc2
  have hc2 := t
  clear t
  clear hb
  have llg0 : _ ≤ 1000000000 := len_CriticalPairs aP
  have llg0n : _ ≤ 1000000000 := len_CriticalPairsN aP
  obtain ⟨ag0, qg0, rfl, _, _⟩ := (OT.rt hg0).form
  go_wp2_with fail
  refine (l_eqCriticalPairS _ _ _ _ _ (OT.rt hg0) (OT.rt hw0)).mono ?_
  rintro e w7 ⟨rfl, hb⟩
  have hb0x := below_size hb0 hb
  clear hb0
  have hb0 := hb0x
  clear hb0x
  have s7 : w6.heap.size ≤ w7.heap.size := hb.size
  have t := (hb.cell (p := ⟨w.heap.size, 0, none⟩) (show w.heap.size < _ by omega)).trans m0aP
  clear m0aP
  have m0aP := t
  clear t
  have t := (hb.cell (p := ⟨w.heap.size, 1, none⟩) (show w.heap.size < _ by omega)).trans m1aP
  clear m1aP
  have m1aP := t
  clear t
  have t := (hb.cell (p := ⟨w.heap.size, 2, none⟩) (show w.heap.size < _ by omega)).trans m2aP
  clear m2aP
  have m2aP := t
  clear t
  have t := (hb.cell (p := ⟨w4.heap.size, 0, none⟩) (show w4.heap.size < _ by omega)).trans m0c2
  clear m0c2
  have m0c2 := t
  clear t
  have t := (hb.cell (p := ⟨w4.heap.size, 1, none⟩) (show w4.heap.size < _ by omega)).trans m1c2
  clear m1c2
  have m1c2 := t
  clear t
  have t := (hb.cell (p := ⟨w4.heap.size, 2, none⟩) (show w4.heap.size < _ by omega)).trans m2c2
  clear m2c2
  have m2c2 := t
  clear t
  have t := OP.below hc1 hb
  clear hc1
  have hc1 := t
  clear t
  have t := OT.below hw0 hb
  clear hw0
  have hw0 := t
  clear t
  have t := OP.below hc2 hb
  clear hc2
  have hc2 := t
  clear t
  have t := OT.below hg0 hb
  clear hg0
  have hg0 := t
  clear t
  clear hb
  go_wp2_with fail
  have HR := Lib.hid ((HEaP.out.below hbx).below hb0)
  have HX := Lib.hid hc2.rd
  have lt0 : w4.heap.size < w7.heap.size := by omega
  have lt3 : w.heap.size < w7.heap.size := by omega
  have KEEP : Hid (∀ wx, Below w7.heap.size w7 wx → Below w7.heap.size w7 wx ∧ wx.cell? ⟨w4.heap.size, 0, none⟩ = some (Value.slice a1c2 n1c2 q1c2) ∧ wx.cell? ⟨w4.heap.size, 1, none⟩ = some (Value.slice a2c2 n2c2 q2c2) ∧ wx.cell? ⟨w4.heap.size, 2, none⟩ = some (Value.slice a3c2 n3c2 q3c2) ∧ wx.cell? ⟨w.heap.size, 0, none⟩ = some (v1aP) ∧ wx.cell? ⟨w.heap.size, 1, none⟩ = some (v2aP) ∧ wx.cell? ⟨w.heap.size, 2, none⟩ = some (v3aP)) := fun wx hb => ⟨hb, ((hb).cell (p := ⟨w4.heap.size, 0, none⟩) (by omega)).trans m0c2, ((hb).cell (p := ⟨w4.heap.size, 1, none⟩) (by omega)).trans m1c2, ((hb).cell (p := ⟨w4.heap.size, 2, none⟩) (by omega)).trans m2c2, ((hb).cell (p := ⟨w.heap.size, 0, none⟩) (by omega)).trans m0aP, ((hb).cell (p := ⟨w.heap.size, 1, none⟩) (by omega)).trans m1aP, ((hb).cell (p := ⟨w.heap.size, 2, none⟩) (by omega)).trans m2aP⟩
  go_region_held3 (fun wx => Below w7.heap.size w7 wx ∧ wx.cell? ⟨w4.heap.size, 0, none⟩ = some (Value.slice a1c2 n1c2 q1c2) ∧ wx.cell? ⟨w4.heap.size, 1, none⟩ = some (Value.slice a2c2 n2c2 q2c2) ∧ wx.cell? ⟨w4.heap.size, 2, none⟩ = some (Value.slice a3c2 n3c2 q3c2) ∧ wx.cell? ⟨w.heap.size, 0, none⟩ = some (v1aP) ∧ wx.cell? ⟨w.heap.size, 1, none⟩ = some (v2aP) ∧ wx.cell? ⟨w.heap.size, 2, none⟩ = some (v3aP))
    (first | exact KEEP.out _ (Below.refl _ _).drew | exact KEEP.out _ (below_size (And.left (by assumption)) (by assumption)))
    (first
      | ((go_at_call 27); (refine (l_toPresentation _ _ _ aP _ (HR.out.below (And.left (by assumption))) (by omega)).mono ?_); (rintro e wy ⟨yv1, yv2, yv3, rfl, hy, hb⟩))
      | ((go_at_call 22); (refine (l_eqPresentation _ _ _ _ _ _ aP _ (HX.out.below (And.left (by assumption))) hy.rd).mono ?_); (rintro e w8 ⟨rfl, hb2⟩)))
  have hb : Below w7.heap.size w7 w8 := And.left (by assumption)
  clear KEEP HR HX
  have hb0x := below_size hb0 hb
  clear hb0
  have hb0 := hb0x
  clear hb0x
  have s8 : w7.heap.size ≤ w8.heap.size := hb.size
  have t := (hb.cell (p := ⟨w.heap.size, 0, none⟩) (show w.heap.size < _ by omega)).trans m0aP
  clear m0aP
  have m0aP := t
  clear t
  have t := (hb.cell (p := ⟨w.heap.size, 1, none⟩) (show w.heap.size < _ by omega)).trans m1aP
  clear m1aP
  have m1aP := t
  clear t
  have t := (hb.cell (p := ⟨w.heap.size, 2, none⟩) (show w.heap.size < _ by omega)).trans m2aP
  clear m2aP
  have m2aP := t
  clear t
  have t := (hb.cell (p := ⟨w4.heap.size, 0, none⟩) (show w4.heap.size < _ by omega)).trans m0c2
  clear m0c2
  have m0c2 := t
  clear t
  have t := (hb.cell (p := ⟨w4.heap.size, 1, none⟩) (show w4.heap.size < _ by omega)).trans m1c2
  clear m1c2
  have m1c2 := t
  clear t
  have t := (hb.cell (p := ⟨w4.heap.size, 2, none⟩) (show w4.heap.size < _ by omega)).trans m2c2
  clear m2c2
  have m2c2 := t
  clear t
  have t := OP.below hc1 hb
  clear hc1
  have hc1 := t
  clear t
  have t := OT.below hw0 hb
  clear hw0
  have hw0 := t
  clear t
  have t := OP.below hc2 hb
  clear hc2
  have hc2 := t
  clear t
  have t := OT.below hg0 hb
  clear hg0
  have hg0 := t
  clear t
  clear hb
  go_wp2_with fail
  have pcc2 := (psize_le laP).2.2.2.2.2.2
  refine (l_markPresentation _ _ _ _ _ _ _ hc2 (by omega) (by omega) llc2).mono ?_
  rintro e w9 ⟨rfl, hnc2, hg⟩
  clear hc2
  have hc2 := hnc2
  clear hnc2
  have s9 : w8.heap.size ≤ w9.heap.size := hg.size
  have t := hb0.trans (hg.below (B := w0.heap.size) (fun k hk => by have := hk.1; omega) (by omega))
  clear hb0
  have hb0 := t
  clear t
  have t := ((hg.at (b := w.heap.size) (by omega) (fun hk => by have := hk.1; have := hk.2; omega)).1 0).trans m0aP
  clear m0aP
  have m0aP := t
  clear t
  have t := ((hg.at (b := w.heap.size) (by omega) (fun hk => by have := hk.1; have := hk.2; omega)).1 1).trans m1aP
  clear m1aP
  have m1aP := t
  clear t
  have t := ((hg.at (b := w.heap.size) (by omega) (fun hk => by have := hk.1; have := hk.2; omega)).1 2).trans m2aP
  clear m2aP
  have m2aP := t
  clear t
  have t := ((hg.at (b := w4.heap.size) (by omega) (fun hk => by have := hk.1; have := hk.2; omega)).1 0).trans m0c2
  clear m0c2
  have m0c2 := t
  clear t
  have t := ((hg.at (b := w4.heap.size) (by omega) (fun hk => by have := hk.1; have := hk.2; omega)).1 1).trans m1c2
  clear m1c2
  have m1c2 := t
  clear t
  have t := ((hg.at (b := w4.heap.size) (by omega) (fun hk => by have := hk.1; have := hk.2; omega)).1 2).trans m2c2
  clear m2c2
  have m2c2 := t
  clear t
  have t := OP.chg hc1 hg (fun k hk hk2 => by have := hk.1; have := hk.2; have := hk2.1; have := hk2.2; omega)
  clear hc1
  have hc1 := t
  clear t
  have t := OT.chg hw0 hg (fun k hk hk2 => by have := hk.1; have := hk.2; have := hk2.1; have := hk2.2; omega)
  clear hw0
  have hw0 := t
  clear t
  have t := OT.chg hg0 hg (fun k hk hk2 => by have := hk.1; have := hk.2; have := hk2.1; have := hk2.2; omega)
  clear hg0
  have hg0 := t
  clear t
  clear hg
  go_wp2_with fail
  refine (l_eqCriticalPairS _ _ _ _ _ (OT.rt hg0) (OT.rt hw0)).mono ?_
  rintro e w10 ⟨rfl, hb⟩
  have hb0x := below_size hb0 hb
  clear hb0
  have hb0 := hb0x
  clear hb0x
  have s10 : w9.heap.size ≤ w10.heap.size := hb.size
  have t := (hb.cell (p := ⟨w.heap.size, 0, none⟩) (show w.heap.size < _ by omega)).trans m0aP
  clear m0aP
  have m0aP := t
  clear t
  have t := (hb.cell (p := ⟨w.heap.size, 1, none⟩) (show w.heap.size < _ by omega)).trans m1aP
  clear m1aP
  have m1aP := t
  clear t
  have t := (hb.cell (p := ⟨w.heap.size, 2, none⟩) (show w.heap.size < _ by omega)).trans m2aP
  clear m2aP
  have m2aP := t
  clear t
  have t := (hb.cell (p := ⟨w4.heap.size, 0, none⟩) (show w4.heap.size < _ by omega)).trans m0c2
  clear m0c2
  have m0c2 := t
  clear t
  have t := (hb.cell (p := ⟨w4.heap.size, 1, none⟩) (show w4.heap.size < _ by omega)).trans m1c2
  clear m1c2
  have m1c2 := t
  clear t
  have t := (hb.cell (p := ⟨w4.heap.size, 2, none⟩) (show w4.heap.size < _ by omega)).trans m2c2
  clear m2c2
  have m2c2 := t
  clear t
  have t := OP.below hc1 hb
  clear hc1
  have hc1 := t
  clear t
  have t := OT.below hw0 hb
  clear hw0
  have hw0 := t
  clear t
  have t := OP.below hc2 hb
  clear hc2
  have hc2 := t
  clear t
  have t := OT.below hg0 hb
  clear hg0
  have hg0 := t
  clear t
  clear hb
  go_wp2_with fail
  refine (l_markCriticalPairS _ _ _ _ _ _ hg0 (by omega) (by omega) llg0n llg0).mono ?_
  rintro e w11 ⟨rfl, hng0, hg⟩
  clear hg0
  have hg0 := hng0
  clear hng0
  have s11 : w10.heap.size ≤ w11.heap.size := hg.size
  have t := hb0.trans (hg.below (B := w0.heap.size) (fun k hk => by have := hk.1; omega) (by omega))
  clear hb0
  have hb0 := t
  clear t
  have t := ((hg.at (b := w.heap.size) (by omega) (fun hk => by have := hk.1; have := hk.2; omega)).1 0).trans m0aP
  clear m0aP
  have m0aP := t
  clear t
  have t := ((hg.at (b := w.heap.size) (by omega) (fun hk => by have := hk.1; have := hk.2; omega)).1 1).trans m1aP
  clear m1aP
  have m1aP := t
  clear t
  have t := ((hg.at (b := w.heap.size) (by omega) (fun hk => by have := hk.1; have := hk.2; omega)).1 2).trans m2aP
  clear m2aP
  have m2aP := t
  clear t
  have t := ((hg.at (b := w4.heap.size) (by omega) (fun hk => by have := hk.1; have := hk.2; omega)).1 0).trans m0c2
  clear m0c2
  have m0c2 := t
  clear t
  have t := ((hg.at (b := w4.heap.size) (by omega) (fun hk => by have := hk.1; have := hk.2; omega)).1 1).trans m1c2
  clear m1c2
  have m1c2 := t
  clear t
  have t := ((hg.at (b := w4.heap.size) (by omega) (fun hk => by have := hk.1; have := hk.2; omega)).1 2).trans m2c2
  clear m2c2
  have m2c2 := t
  clear t
  have t := OP.chg hc1 hg (fun k hk hk2 => by have := hk.1; have := hk.2; have := hk2.1; have := hk2.2; omega)
  clear hc1
  have hc1 := t
  clear t
  have t := OT.chg hw0 hg (fun k hk hk2 => by have := hk.1; have := hk.2; have := hk2.1; have := hk2.2; omega)
  clear hw0
  have hw0 := t
  clear t
  have t := OP.chg hc2 hg (fun k hk hk2 => by have := hk.1; have := hk.2; have := hk2.1; have := hk2.2; omega)
  clear hc2
  have hc2 := t
  clear t
  clear hg
  go_wp2_with fail
  refine (l_heldCriticalPairS _ _ _ _ _ (OT.rt hg0) (by omega) (by omega) llg0).mono ?_
  rintro e w' ⟨rfl, rfl⟩
  go_wp2_with fail
  refine (l_toPresentation _ _ _ aP _ ((HEaP.out.below hbx).below hb0) (by omega)).mono ?_
  rintro e w12 ⟨v1c3, v2c3, v3c3, rfl, hc3, hb⟩
  have hb0x := below_size hb0 hb
  clear hb0
  have hb0 := hb0x
  clear hb0x
  have s12 : w11.heap.size ≤ w12.heap.size := hb.size
  have t := (hb.cell (p := ⟨w.heap.size, 0, none⟩) (show w.heap.size < _ by omega)).trans m0aP
  clear m0aP
  have m0aP := t
  clear t
  have t := (hb.cell (p := ⟨w.heap.size, 1, none⟩) (show w.heap.size < _ by omega)).trans m1aP
  clear m1aP
  have m1aP := t
  clear t
  have t := (hb.cell (p := ⟨w.heap.size, 2, none⟩) (show w.heap.size < _ by omega)).trans m2aP
  clear m2aP
  have m2aP := t
  clear t
  have t := (hb.cell (p := ⟨w4.heap.size, 0, none⟩) (show w4.heap.size < _ by omega)).trans m0c2
  clear m0c2
  have m0c2 := t
  clear t
  have t := (hb.cell (p := ⟨w4.heap.size, 1, none⟩) (show w4.heap.size < _ by omega)).trans m1c2
  clear m1c2
  have m1c2 := t
  clear t
  have t := (hb.cell (p := ⟨w4.heap.size, 2, none⟩) (show w4.heap.size < _ by omega)).trans m2c2
  clear m2c2
  have m2c2 := t
  clear t
  have t := OP.below hc1 hb
  clear hc1
  have hc1 := t
  clear t
  have t := OT.below hw0 hb
  clear hw0
  have hw0 := t
  clear t
  have t := OP.below hc2 hb
  clear hc2
  have hc2 := t
  clear t
  have t := OT.below hg0 hb
  clear hg0
  have hg0 := t
  clear t
  clear hb
  go_wp2_with fail
  refine (i_CriticalPairs _ _ _ _ _ hc3.rd).mono ?_
  rintro e w13 ⟨vh0, rfl, hh0, hb⟩
  have hb0x := below_size hb0 hb
  clear hb0
  have hb0 := hb0x
  clear hb0x
  have s13 : w12.heap.size ≤ w13.heap.size := hb.size
  have t := (hb.cell (p := ⟨w.heap.size, 0, none⟩) (show w.heap.size < _ by omega)).trans m0aP
  clear m0aP
  have m0aP := t
  clear t
  have t := (hb.cell (p := ⟨w.heap.size, 1, none⟩) (show w.heap.size < _ by omega)).trans m1aP
  clear m1aP
  have m1aP := t
  clear t
  have t := (hb.cell (p := ⟨w.heap.size, 2, none⟩) (show w.heap.size < _ by omega)).trans m2aP
  clear m2aP
  have m2aP := t
  clear t
  have t := (hb.cell (p := ⟨w4.heap.size, 0, none⟩) (show w4.heap.size < _ by omega)).trans m0c2
  clear m0c2
  have m0c2 := t
  clear t
  have t := (hb.cell (p := ⟨w4.heap.size, 1, none⟩) (show w4.heap.size < _ by omega)).trans m1c2
  clear m1c2
  have m1c2 := t
  clear t
  have t := (hb.cell (p := ⟨w4.heap.size, 2, none⟩) (show w4.heap.size < _ by omega)).trans m2c2
  clear m2c2
  have m2c2 := t
  clear t
  have t := OP.below hc1 hb
  clear hc1
  have hc1 := t
  clear t
  have t := OT.below hw0 hb
  clear hw0
  have hw0 := t
  clear t
  have t := OP.below hc2 hb
  clear hc2
  have hc2 := t
  clear t
  have t := OT.below hg0 hb
  clear hg0
  have hg0 := t
  clear t
  have t := OP.below hc3 hb
  clear hc3
  have hc3 := t
  clear t
  clear hb
  have llh0 : _ ≤ 1000000000 := len_CriticalPairs aP
  have llh0n : _ ≤ 1000000000 := len_CriticalPairsN aP
  obtain ⟨ah0, qh0, rfl, _, _⟩ := (OT.rt hh0).form
  go_wp2_with fail
  refine (l_eqCriticalPairS _ _ _ _ _ (OT.rt hh0) (OT.rt hw0)).mono ?_
  rintro e w14 ⟨rfl, hb⟩
  have hb0x := below_size hb0 hb
  clear hb0
  have hb0 := hb0x
  clear hb0x
  have s14 : w13.heap.size ≤ w14.heap.size := hb.size
  have t := (hb.cell (p := ⟨w.heap.size, 0, none⟩) (show w.heap.size < _ by omega)).trans m0aP
  clear m0aP
  have m0aP := t
  clear t
  have t := (hb.cell (p := ⟨w.heap.size, 1, none⟩) (show w.heap.size < _ by omega)).trans m1aP
  clear m1aP
  have m1aP := t
  clear t
  have t := (hb.cell (p := ⟨w.heap.size, 2, none⟩) (show w.heap.size < _ by omega)).trans m2aP
  clear m2aP
  have m2aP := t
  clear t
  have t := (hb.cell (p := ⟨w4.heap.size, 0, none⟩) (show w4.heap.size < _ by omega)).trans m0c2
  clear m0c2
  have m0c2 := t
  clear t
  have t := (hb.cell (p := ⟨w4.heap.size, 1, none⟩) (show w4.heap.size < _ by omega)).trans m1c2
  clear m1c2
  have m1c2 := t
  clear t
  have t := (hb.cell (p := ⟨w4.heap.size, 2, none⟩) (show w4.heap.size < _ by omega)).trans m2c2
  clear m2c2
  have m2c2 := t
  clear t
  have t := OP.below hc1 hb
  clear hc1
  have hc1 := t
  clear t
  have t := OT.below hw0 hb
  clear hw0
  have hw0 := t
  clear t
  have t := OP.below hc2 hb
  clear hc2
  have hc2 := t
  clear t
  have t := OT.below hg0 hb
  clear hg0
  have hg0 := t
  clear t
  have t := OP.below hc3 hb
  clear hc3
  have hc3 := t
  clear t
  have t := OT.below hh0 hb
  clear hh0
  have hh0 := t
  clear t
  clear hb
  go_wp2_with fail
  refine (l_heldCriticalPairS _ _ _ _ _ (OT.rt hg0) (by omega) (by omega) llg0).mono ?_
  rintro e w' ⟨rfl, rfl⟩
  go_wp2_with fail
  go_ret
  exact ⟨rfl, hbx.trans (hb0.mono hbx.size)⟩

theorem own : ownKnob Try.prog.godebug = none := by kernel_rfl
theorem laidOut : laidOutB Try.prog = true := by kernel_rfl

set_option maxRecDepth 100000 in
theorem lifted (os : Os) (started : os.Started) (H : Type) (enc : TypeId × Value → H) :
    ReturnsInHanded {} Try.checked os 12 .any (Rows.fnExactCriticalPairsSpec.pre6 enc Try.prog Try.f12 Rows.fnExactCriticalPairsRow.domain false) (Rows.fnExactCriticalPairsSpec.post enc Try.prog Try.f12 false true false false) := by
  refine returnsInHanded_of_change (C := Try.checked) own started (by kernel_rfl) Try.func12
    (ChangeSpec.witness6 (enc := enc) (C := Try.checked) false ⟨#[], #[.agg #[.slice none 0 0, .slice none 0 0, .slice none 0 0]], []⟩ 8 (by kernel_rfl) (by kernel_rfl) (by kernel_rfl) (by kernel_rfl)) ?_
  intro W base args ds gs before hval0 hW hcnd _
  have hval : ∀ (j : Nat) t v, Try.f12.params[j]? = some t → args[j]? = some v → Value.okWide Try.prog W .any base t v := hval0
  have hW' := hW
  obtain ⟨p, q, hA0, hV, rfl, hfz, hnd⟩ := hW
  have hA : DataW.TrodAll enc Try.prog W 0 (fun _ => true) true Try.f12.params.toList args.toList ds p := hA0
  rw [Try.params12] at hA hval
  obtain ⟨v0, vs0, d0, ds0, p0, q0, hargs, rfl, rfl, h0, r0⟩ := trodAll_cons hA
  obtain ⟨rfl, rfl, rfl⟩ := trodAll_nil r0
  obtain rfl : args = #[v0] := by cases args; simp_all
  obtain ⟨rfl, rfl⟩ := trodVars_none hV
  have k0 := h0
  have lt0 : ∀ x ∈ p0, x.block < W.heap.size := by obtain ⟨m, hm⟩ := k0; exact DataW.trod_lt m _ _ _ hm
  obtain ⟨x10, x20, x30, xs0, rfl, f0⟩ := rdP_of (hval 0 38 v0 rfl rfl) h0
  clear hA0 hval0
  refine (core _ _ _ xs0 W f0).mono fun e W' ⟨he, bel⟩ => ?_
  subst he
  exact ⟨_, rfl, _, _, _, [], _, [], hW', trodAll_mk1 (shut_bool Try.underlying4 _), (trodAll_cons_mk (Below.trod laidOut (by kernel_rfl) (of_decide_eq_true (by kernel_rfl)) k0 bel lt0) trodAll_mk0), rfl, bel.frame _, fun h => by cases h⟩

theorem and_i {a b : Bool} (ha : a = true) (hb : b = true) : (a && b) = true := by rw [ha, hb]; rfl
set_option maxHeartbeats 8000000 in
theorem closed : joinedFacts Try.pinned.checked.prog 12 Try.f12 Rows.fnExactCriticalPairsSpec Rows.fnExactCriticalPairsRow = true := by
  unfold joinedFacts
  repeat' with_reducible apply and_i
  all_goals as_aux_lemma => kernel_rfl

theorem over : Rows.fnExactCriticalPairsRow.holds Try.pinned (OpenSpec.ofChange Rows.fnExactCriticalPairsSpec) :=
  OpenClaim.holds_of_wide 12 Try.f12 rfl rfl rfl rfl rfl rfl rfl ⟨rfl, rfl, rfl, rfl, rfl⟩ rfl rfl rfl rfl rfl (by kernel_rfl) Try.func12 closed
    (of_decide_eq_true (by kernel_rfl)) (by unfold Func.isWrapper; first | (rw [if_pos (by decide +kernel)]; kernel_rfl) | (rw [if_neg (by decide +kernel)]; exact ⟨rfl, rfl⟩))
    (fun os started H enc _ => lifted os started H enc)

/-- The given statement. -/
theorem proved : Rows.FnExactCriticalPairsSaid := over
#print axioms proved
end Go.Proofs.Ythnpndheaailjaa.fnExactCriticalPairs
