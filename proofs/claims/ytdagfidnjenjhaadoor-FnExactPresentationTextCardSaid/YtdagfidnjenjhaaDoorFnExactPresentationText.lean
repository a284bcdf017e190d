/-
  The law FnExactPresentationText: for every input the call returns true, and each argument reads behind the call as it read before. No condition.
-/
import Derived.Test.YtdagfidnjenjhaaDoorCards
import Derived.Test.YtdagfidnjenjhaaDoorTie
import Derived.Test.YtdagfidnjenjhaaDoorOpen
import Derived.ProofKit
import Derived.LaidMore
import Derived.OpenShut
import Derived.Stop.Joined
import Derived.SevenTiedAt
import Derived.Test.YtdagfidnjenjhaaDoorPtd
namespace Go.Proofs.YtdagfidnjenjhaaDoor.fnExactPresentationText
set_option linter.unusedVariables false
set_option linter.unusedSimpArgs false
set_option maxRecDepth 100000
open Go.ChangeShapes Go.WideShapes Go.ChangeAt Go.RowKit
open Go.ChangeMaps (open_string shut_string)
set_option linter.unusedVariables false

set_option maxHeartbeats 8000000 in
set_option maxRecDepth 100000 in
theorem core (v1aP v2aP v3aP : Value) (aP : Pres) (w : World) (haP : RdP w v1aP v2aP v3aP aP) :
    Calls Tryd.prog 3 #[.agg #[v1aP, v2aP, v3aP]] w (RetV w (.bool true)) := by
  have HEaP := Lib.hid haP
  clear haP
  by_cases gaP : ((psize aP : Nat) : Int) ≤ 1048576
  case neg =>
    have SNaP := Lib.hid (szI_out gaP)
    have hbx : Below w.heap.size w (w.alloc (Obj.cells #[v1aP, v2aP, v3aP] 26)) := below_alloc w _
    have zaP : w.heap.size < ((w.alloc (Obj.cells #[v1aP, v2aP, v3aP] 26))).heap.size := by simp <;> omega
    have M0aP : Hid (((w.alloc (Obj.cells #[v1aP, v2aP, v3aP] 26))).cell? ⟨w.heap.size, 0, none⟩ = some v1aP) := by show _ = _; simp [go_sem]
    have M1aP : Hid (((w.alloc (Obj.cells #[v1aP, v2aP, v3aP] 26))).cell? ⟨w.heap.size, 1, none⟩ = some v2aP) := by show _ = _; simp [go_sem]
    have M2aP : Hid (((w.alloc (Obj.cells #[v1aP, v2aP, v3aP] 26))).cell? ⟨w.heap.size, 2, none⟩ = some v3aP) := by show _ = _; simp [go_sem]
    go_enter Tryd.func3, Tryd.ntmps3
    go_wp2_with fail
    generalize (w.alloc (Obj.cells #[v1aP, v2aP, v3aP] 26)) = w0 at *
    have m0aP := M0aP.out
    have m1aP := M1aP.out
    have m2aP := M2aP.out
    have hb0 := Below.refl w0.heap.size w0
    go_wp2_with fail
    refine (l_szPresentation _ _ _ aP _ _ ((HEaP.out.below hbx).below hb0) (by omega) (by omega)).mono ?_
    rintro e w1 ⟨rfl, hb⟩
    have hb0x := below_size hb0 hb
    clear hb0
    have hb0 := hb0x
    clear hb0x
    have s1 : w0.heap.size ≤ w1.heap.size := hb.size
    have t := (hb.cell (p := ⟨w.heap.size, 0, none⟩) (show w.heap.size < _ by omega)).trans m0aP
    clear m0aP
    have m0aP := t
    clear t
    have t := (hb.cell (p := ⟨w.heap.size, 1, none⟩) (show w.heap.size < _ by omega)).trans m1aP
    clear m1aP
    have m1aP := t
    clear t
    have t := (hb.cell (p := ⟨w.heap.size, 2, none⟩) (show w.heap.size < _ by omega)).trans m2aP
    clear m2aP
    have m2aP := t
    clear t
    clear hb
    rw [SNaP.out]
    go_wp2_with fail
    go_ret
    exact ⟨rfl, hbx.trans (hb0.mono hbx.size)⟩
  have SZaP := Lib.hid (szI_in gaP)
  have laP : psize aP ≤ 1048576 := by omega
  have hbx : Below w.heap.size w (w.alloc (Obj.cells #[v1aP, v2aP, v3aP] 26)) := below_alloc w _
  have zaP : w.heap.size < ((w.alloc (Obj.cells #[v1aP, v2aP, v3aP] 26))).heap.size := by simp <;> omega
  have M0aP : Hid (((w.alloc (Obj.cells #[v1aP, v2aP, v3aP] 26))).cell? ⟨w.heap.size, 0, none⟩ = some v1aP) := by show _ = _; simp [go_sem]
  have M1aP : Hid (((w.alloc (Obj.cells #[v1aP, v2aP, v3aP] 26))).cell? ⟨w.heap.size, 1, none⟩ = some v2aP) := by show _ = _; simp [go_sem]
  have M2aP : Hid (((w.alloc (Obj.cells #[v1aP, v2aP, v3aP] 26))).cell? ⟨w.heap.size, 2, none⟩ = some v3aP) := by show _ = _; simp [go_sem]
  go_enter Tryd.func3, Tryd.ntmps3
  go_wp2_with fail
  generalize (w.alloc (Obj.cells #[v1aP, v2aP, v3aP] 26)) = w0 at *
  have m0aP := M0aP.out
  have m1aP := M1aP.out
  have m2aP := M2aP.out
  have hb0 := Below.refl w0.heap.size w0
  go_wp2_with fail
  refine (l_szPresentation _ _ _ aP _ _ ((HEaP.out.below hbx).below hb0) (by omega) (by omega)).mono ?_
  rintro e w1 ⟨rfl, hb⟩
  have hb0x := below_size hb0 hb
  clear hb0
  have hb0 := hb0x
  clear hb0x
  have s1 : w0.heap.size ≤ w1.heap.size := hb.size
  have t := (hb.cell (p := ⟨w.heap.size, 0, none⟩) (show w.heap.size < _ by omega)).trans m0aP
  clear m0aP
  have m0aP := t
  clear t
  have t := (hb.cell (p := ⟨w.heap.size, 1, none⟩) (show w.heap.size < _ by omega)).trans m1aP
  clear m1aP
  have m1aP := t
  clear t
  have t := (hb.cell (p := ⟨w.heap.size, 2, none⟩) (show w.heap.size < _ by omega)).trans m2aP
  clear m2aP
  have m2aP := t
  clear t
  clear hb
  rw [SZaP.out]
  go_wp2_with fail
  refine (l_toPresentation _ _ _ aP _ ((HEaP.out.below hbx).below hb0) (by omega)).mono ?_
  rintro e w2 ⟨v1c1, v2c1, v3c1, rfl, hc1, hb⟩
  have hb0x := below_size hb0 hb
  clear hb0
  have hb0 := hb0x
  clear hb0x
  have s2 : w1.heap.size ≤ w2.heap.size := hb.size
  have t := (hb.cell (p := ⟨w.heap.size, 0, none⟩) (show w.heap.size < _ by omega)).trans m0aP
  clear m0aP
  have m0aP := t
  clear t
  have t := (hb.cell (p := ⟨w.heap.size, 1, none⟩) (show w.heap.size < _ by omega)).trans m1aP
  clear m1aP
  have m1aP := t
  clear t
  have t := (hb.cell (p := ⟨w.heap.size, 2, none⟩) (show w.heap.size < _ by omega)).trans m2aP
  clear m2aP
  have m2aP := t
  clear t
  clear hb
  go_wp2_with fail
  refine (s_PresentationText _ _ _ _ _ hc1.rd).mono ?_
  rintro e w3 ⟨rfl, hb⟩
  have hb0x := below_size hb0 hb
  clear hb0
  have hb0 := hb0x
  clear hb0x
  have s3 : w2.heap.size ≤ w3.heap.size := hb.size
  have t := (hb.cell (p := ⟨w.heap.size, 0, none⟩) (show w.heap.size < _ by omega)).trans m0aP
  clear m0aP
  have m0aP := t
  clear t
  have t := (hb.cell (p := ⟨w.heap.size, 1, none⟩) (show w.heap.size < _ by omega)).trans m1aP
  clear m1aP
  have m1aP := t
  clear t
  have t := (hb.cell (p := ⟨w.heap.size, 2, none⟩) (show w.heap.size < _ by omega)).trans m2aP
  clear m2aP
  have m2aP := t
  clear t
  have t := OP.below hc1 hb
  clear hc1
  have hc1 := t
  clear t
  clear hb
  go_wp2_with fail
  refine (l_toPresentation _ _ _ aP _ ((HEaP.out.below hbx).below hb0) (by omega)).mono ?_
  rintro e w4 ⟨v1c2, v2c2, v3c2, rfl, hc2, hb⟩
  have hb0x := below_size hb0 hb
  clear hb0
  have hb0 := hb0x
  clear hb0x
  have s4 : w3.heap.size ≤ w4.heap.size := hb.size
  have t := (hb.cell (p := ⟨w.heap.size, 0, none⟩) (show w.heap.size < _ by omega)).trans m0aP
  clear m0aP
  have m0aP := t
  clear t
  have t := (hb.cell (p := ⟨w.heap.size, 1, none⟩) (show w.heap.size < _ by omega)).trans m1aP
  clear m1aP
  have m1aP := t
  clear t
  have t := (hb.cell (p := ⟨w.heap.size, 2, none⟩) (show w.heap.size < _ by omega)).trans m2aP
  clear m2aP
  have m2aP := t
  clear t
  have t := OP.below hc1 hb
  clear hc1
  have hc1 := t
  clear t
  clear hb
  obtain ⟨a1c2, n1c2, q1c2, a2c2, n2c2, q2c2, a3c2, n3c2, q3c2, rfl, rfl, rfl⟩ := hc2.formsE
  have llc2 : psize aP ≤ 1000000000 := by omega
  have yaP : w.heap.size < w4.heap.size := by omega
  go_wp2_with fail
  clear yaP
  have hb := below_alloc w4 (Obj.cells #[Value.slice a1c2 n1c2 q1c2, Value.slice a2c2 n2c2 q2c2, Value.slice a3c2 n3c2 q3c2] 30)
  have zc2 : w4.heap.size < (w4.alloc (Obj.cells #[Value.slice a1c2 n1c2 q1c2, Value.slice a2c2 n2c2 q2c2, Value.slice a3c2 n3c2 q3c2] 30)).heap.size := by simp
  have M0c2 : Hid ((w4.alloc (Obj.cells #[Value.slice a1c2 n1c2 q1c2, Value.slice a2c2 n2c2 q2c2, Value.slice a3c2 n3c2 q3c2] 30)).cell? ⟨w4.heap.size, 0, none⟩ = some (Value.slice a1c2 n1c2 q1c2)) := by show _ = _; simp [go_sem]
  have M1c2 : Hid ((w4.alloc (Obj.cells #[Value.slice a1c2 n1c2 q1c2, Value.slice a2c2 n2c2 q2c2, Value.slice a3c2 n3c2 q3c2] 30)).cell? ⟨w4.heap.size, 1, none⟩ = some (Value.slice a2c2 n2c2 q2c2)) := by show _ = _; simp [go_sem]
  have M2c2 : Hid ((w4.alloc (Obj.cells #[Value.slice a1c2 n1c2 q1c2, Value.slice a2c2 n2c2 q2c2, Value.slice a3c2 n3c2 q3c2] 30)).cell? ⟨w4.heap.size, 2, none⟩ = some (Value.slice a3c2 n3c2 q3c2)) := by show _ = _; simp [go_sem]
  generalize (w4.alloc (Obj.cells #[Value.slice a1c2 n1c2 q1c2, Value.slice a2c2 n2c2 q2c2, Value.slice a3c2 n3c2 q3c2] 30)) = w5 at *
  have hb0x := below_size hb0 hb
  clear hb0
  have hb0 := hb0x
  clear hb0x
  have s5 : w4.heap.size ≤ w5.heap.size := hb.size
  have t := (hb.cell (p := ⟨w.heap.size, 0, none⟩) (show w.heap.size < _ by omega)).trans m0aP
  clear m0aP
  have m0aP := t
  clear t
  have t := (hb.cell (p := ⟨w.heap.size, 1, none⟩) (show w.heap.size < _ by omega)).trans m1aP
  clear m1aP
  have m1aP := t
  clear t
  have t := (hb.cell (p := ⟨w.heap.size, 2, none⟩) (show w.heap.size < _ by omega)).trans m2aP
  clear m2aP
  have m2aP := t
  clear t
  have t := OP.below hc1 hb
  clear hc1
  have hc1 := t
  clear t
  have t := OP.below hc2 hb
  clear hc2
  have hc2 := t
  clear t
  clear hb
  have m0c2 := M0c2.out
  have m1c2 := M1c2.out
  have m2c2 := M2c2.out
  refine (i_PresentationText _ _ _ _ _ hc2.rd).mono ?_
  rintro e w6 ⟨rfl, hb⟩
  have hb0x := below_size hb0 hb
  clear hb0
  have hb0 := hb0x
  clear hb0x
  have s6 : w5.heap.size ≤ w6.heap.size := hb.size
  have t := (hb.cell (p := ⟨w.heap.size, 0, none⟩) (show w.heap.size < _ by omega)).trans m0aP
  clear m0aP
  have m0aP := t
  clear t
  have t := (hb.cell (p := ⟨w.heap.size, 1, none⟩) (show w.heap.size < _ by omega)).trans m1aP
  clear m1aP
  have m1aP := t
  clear t
  have t := (hb.cell (p := ⟨w.heap.size, 2, none⟩) (show w.heap.size < _ by omega)).trans m2aP
  clear m2aP
  have m2aP := t
  clear t
  have t := (hb.cell (p := ⟨w4.heap.size, 0, none⟩) (show w4.heap.size < _ by omega)).trans m0c2
  clear m0c2
  have m0c2 := t
  clear t
  have t := (hb.cell (p := ⟨w4.heap.size, 1, none⟩) (show w4.heap.size < _ by omega)).trans m1c2
  clear m1c2
  have m1c2 := t
  clear t
  have t := (hb.cell (p := ⟨w4.heap.size, 2, none⟩) (show w4.heap.size < _ by omega)).trans m2c2
  clear m2c2
  have m2c2 := t
  clear t
  have t := OP.below hc1 hb
  clear hc1
  have hc1 := t
  clear t
  have t := OP.below hc2 hb
  clear hc2
  have hc2 := t
  clear t
  clear hb
  go_wp2_with fail
  have HR := Lib.hid ((HEaP.out.below hbx).below hb0)
  have HX := Lib.hid hc2.rd
  have lt0 : w4.heap.size < w6.heap.size := by omega
  have lt3 : w.heap.size < w6.heap.size := by omega
  have KEEP : Hid (∀ wx, Below w6.heap.size w6 wx → Below w6.heap.size w6 wx ∧ wx.cell? ⟨w4.heap.size, 0, none⟩ = some (Value.slice a1c2 n1c2 q1c2) ∧ wx.cell? ⟨w4.heap.size, 1, none⟩ = some (Value.slice a2c2 n2c2 q2c2) ∧ wx.cell? ⟨w4.heap.size, 2, none⟩ = some (Value.slice a3c2 n3c2 q3c2) ∧ wx.cell? ⟨w.heap.size, 0, none⟩ = some (v1aP) ∧ wx.cell? ⟨w.heap.size, 1, none⟩ = some (v2aP) ∧ wx.cell? ⟨w.heap.size, 2, none⟩ = some (v3aP)) := fun wx hb => ⟨hb, ((hb).cell (p := ⟨w4.heap.size, 0, none⟩) (by omega)).trans m0c2, ((hb).cell (p := ⟨w4.heap.size, 1, none⟩) (by omega)).trans m1c2, ((hb).cell (p := ⟨w4.heap.size, 2, none⟩) (by omega)).trans m2c2, ((hb).cell (p := ⟨w.heap.size, 0, none⟩) (by omega)).trans m0aP, ((hb).cell (p := ⟨w.heap.size, 1, none⟩) (by omega)).trans m1aP, ((hb).cell (p := ⟨w.heap.size, 2, none⟩) (by omega)).trans m2aP⟩
  go_region_held3 (fun wx => Below w6.heap.size w6 wx ∧ wx.cell? ⟨w4.heap.size, 0, none⟩ = some (Value.slice a1c2 n1c2 q1c2) ∧ wx.cell? ⟨w4.heap.size, 1, none⟩ = some (Value.slice a2c2 n2c2 q2c2) ∧ wx.cell? ⟨w4.heap.size, 2, none⟩ = some (Value.slice a3c2 n3c2 q3c2) ∧ wx.cell? ⟨w.heap.size, 0, none⟩ = some (v1aP) ∧ wx.cell? ⟨w.heap.size, 1, none⟩ = some (v2aP) ∧ wx.cell? ⟨w.heap.size, 2, none⟩ = some (v3aP))
    (first | exact KEEP.out _ (Below.refl _ _).drew | exact KEEP.out _ (below_size (And.left (by assumption)) (by assumption)))
    (first
      | ((go_at_call 6); (refine (l_toPresentation _ _ _ aP _ (HR.out.below (And.left (by assumption))) (by omega)).mono ?_); (rintro e wy ⟨yv1, yv2, yv3, rfl, hy, hb⟩))
      | ((go_at_call 8); (refine (l_eqPresentation _ _ _ _ _ _ aP _ (HX.out.below (And.left (by assumption))) hy.rd).mono ?_); (rintro e w7 ⟨rfl, hb2⟩)))
  have hb : Below w6.heap.size w6 w7 := And.left (by assumption)
  clear KEEP HR HX
  have hb0x := below_size hb0 hb
  clear hb0
  have hb0 := hb0x
  clear hb0x
  have s7 : w6.heap.size ≤ w7.heap.size := hb.size
  have t := (hb.cell (p := ⟨w.heap.size, 0, none⟩) (show w.heap.size < _ by omega)).trans m0aP
  clear m0aP
  have m0aP := t
  clear t
  have t := (hb.cell (p := ⟨w.heap.size, 1, none⟩) (show w.heap.size < _ by omega)).trans m1aP
  clear m1aP
  have m1aP := t
  clear t
  have t := (hb.cell (p := ⟨w.heap.size, 2, none⟩) (show w.heap.size < _ by omega)).trans m2aP
  clear m2aP
  have m2aP := t
  clear t
  have t := (hb.cell (p := ⟨w4.heap.size, 0, none⟩) (show w4.heap.size < _ by omega)).trans m0c2
  clear m0c2
  have m0c2 := t
  clear t
  have t := (hb.cell (p := ⟨w4.heap.size, 1, none⟩) (show w4.heap.size < _ by omega)).trans m1c2
  clear m1c2
  have m1c2 := t
  clear t
  have t := (hb.cell (p := ⟨w4.heap.size, 2, none⟩) (show w4.heap.size < _ by omega)).trans m2c2
  clear m2c2
  have m2c2 := t
  clear t
  have t := OP.below hc1 hb
  clear hc1
  have hc1 := t
  clear t
  have t := OP.below hc2 hb
  clear hc2
  have hc2 := t
  clear t
  clear hb
  go_wp2_with fail
  go_ret
  exact ⟨rfl, hbx.trans (hb0.mono hbx.size)⟩

theorem own : ownKnob Tryd.prog.godebug = none := by kernel_rfl
theorem laidOut : laidOutB Tryd.prog = true := by kernel_rfl

noncomputable def lst : List (String × DataW Unit) := Rows.fnExactPresentationTextRow.laid
theorem door_met (os : Os) (args : Array Value) : laidMetH Tryd.prog lst ((World.doorLaid Tryd.prog 400 os).forCall (fun _ _ => 0) ⟨#[], args, []⟩).memory :=
  laidMetH_of_parts3 (fuel := 8) (laidMet_of_run' 8 (by kernel_rfl) (by kernel_rfl)) (by kernel_rfl) (by kernel_rfl)
set_option maxRecDepth 100000 in
theorem lifted (os : Os) (started : os.Started) (H : Type) (enc : TypeId × Value → H) :
    ReturnsInHanded {} Tryd.checked os 3 .any (fun w args => (Rows.fnExactPresentationTextSpec.pre enc Tryd.prog Tryd.f3 [] false w args ∧ laidMetH Tryd.prog lst w) ∧ sizedMet enc Tryd.prog Tryd.f3 (OpenSpec.ofChange Rows.fnExactPresentationTextSpec) false w args)
      (Rows.fnExactPresentationTextSpec.post enc Tryd.prog Tryd.f3 false true false false) := by
  refine returnsInHanded_of_change_and (C := Tryd.checked) (X := fun w _ => laidMetH Tryd.prog lst w) (fun _ _ _ hh h => h.of_heap hh) own started (by kernel_rfl) Tryd.func3
    (ChangeSpec.witness_shaped (enc := enc) (C := Tryd.checked) (os := os) (X := fun w _ => laidMetH Tryd.prog lst w) false (World.doorLaid Tryd.prog 400 os) #[.agg #[.slice none 0 0, .slice none 0 0, .slice none 0 0]] 8 rfl (World.shaped_of_RefB (by kernel_rfl) (by kernel_rfl)) (by kernel_rfl) (by kernel_rfl) (by kernel_rfl) (door_met os _)) ?_
  intro W base args ds gs before hval0 hW _ _ _ _
  have hval : ∀ (j : Nat) t v, Tryd.f3.params[j]? = some t → args[j]? = some v → Value.okWide Tryd.prog W .any base t v := hval0
  have hW' := hW
  obtain ⟨p, q, hA0, hV, rfl, hfz, hnd⟩ := hW
  have hA : DataW.TrodAll enc Tryd.prog W 0 (fun _ => true) true Tryd.f3.params.toList args.toList ds p := hA0
  rw [Tryd.params3] at hA hval
  obtain ⟨v0, vs0, d0, ds0, p0, q0, hargs, rfl, rfl, h0, r0⟩ := trodAll_cons hA
  obtain ⟨rfl, rfl, rfl⟩ := trodAll_nil r0
  obtain rfl : args = #[v0] := by cases args; simp_all
  obtain ⟨rfl, rfl⟩ := trodVars_none hV
  have k0 := h0
  have lt0 : ∀ x ∈ p0, x.block < W.heap.size := by obtain ⟨m, hm⟩ := k0; exact DataW.trod_lt m _ _ _ hm
  obtain ⟨x10, x20, x30, xs0, rfl, f0⟩ := rdP_of (hval 0 26 v0 rfl rfl) h0
  clear hA0 hval0
  refine (core _ _ _ xs0 W f0).mono fun e W' ⟨he, bel⟩ => ?_
  subst he
  exact ⟨_, rfl, _, _, _, [], _, [], hW', trodAll_mk1 (shut_bool Tryd.underlying4 _), (trodAll_cons_mk (Below.trod laidOut (by kernel_rfl) (of_decide_eq_true (by kernel_rfl)) k0 bel lt0) trodAll_mk0), rfl, bel.frame _, fun h => by cases h⟩

theorem and_i {a b : Bool} (ha : a = true) (hb : b = true) : (a && b) = true := by rw [ha, hb]; rfl
set_option maxHeartbeats 8000000 in
theorem closed : joinedFacts Tryd.pinned.checked.prog 3 Tryd.f3 Rows.fnExactPresentationTextSpec Rows.fnExactPresentationTextRow = true := by
  unfold joinedFacts
  repeat' with_reducible apply and_i
  all_goals as_aux_lemma => kernel_rfl

theorem over : Rows.fnExactPresentationTextRow.holds Tryd.pinned (OpenSpec.ofChange Rows.fnExactPresentationTextSpec) :=
  OpenClaim.holds_of_wide 3 Tryd.f3 rfl rfl rfl rfl rfl rfl rfl ⟨rfl, rfl, rfl, rfl, rfl⟩ rfl rfl rfl rfl rfl (by kernel_rfl) Tryd.func3 closed
    (of_decide_eq_true (by kernel_rfl)) (by unfold Func.isWrapper; first | (rw [if_pos (by decide +kernel)]; kernel_rfl) | (rw [if_neg (by decide +kernel)]; exact ⟨rfl, rfl⟩))
    (fun os started H enc _ => lifted os started H enc)

theorem row : Rows.FnExactPresentationTextSaid := over
/-- The given statement: the card, closed by its tie. -/
theorem proved : Rows.FnExactPresentationTextCardSaid :=
  Claim7.holds_tied_plain_at .later [] [.data, .data, .data] true (true, "8fb0beb8fee0fc9d76ad572e31ee80df3f5332b5dc2cc8184d14299f5451d82d") false
    row (fun _ h => by cases h) (by kernel_rfl) (fun _ h => by cases h) fnExactPresentationText_row_tie rfl ⟨rfl, rfl⟩ (by kernel_rfl) rfl
    (fun f fn hf hfn => by
      obtain rfl : f = 3 := Option.some.inj ((show Tryd.prog.funcNamed Rows.fnExactPresentationTextRow.func = some 3 by kernel_rfl).symm.trans hf) |>.symm
      obtain rfl : fn = Tryd.f3 := (Option.some.inj (Tryd.func3.symm.trans hfn)).symm
      exact ⟨by kernel_rfl, fun j t ht => by
        have hm : t ∈ Tryd.f3.params.toList := by simpa using Array.mem_of_getElem? ht
        have hall : (Tryd.f3.params.toList.all fun u => !Tryd.prog.wantsStandIn u) = true := by kernel_rfl
        exact (show Tryd.prog.wantsStandIn t = false by simpa using List.all_eq_true.1 hall t hm)⟩)
    (by kernel_rfl)
#print axioms proved
end Go.Proofs.YtdagfidnjenjhaaDoor.fnExactPresentationText
