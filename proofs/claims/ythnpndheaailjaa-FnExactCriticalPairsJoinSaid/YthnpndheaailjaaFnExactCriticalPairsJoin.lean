/-
  The law FnExactCriticalPairsJoin: for every input the call returns true, and each argument reads behind the call as it read before. No condition.
-/
import Derived.Test.YthnpndheaailjaaOpen
import Derived.Test.YthnpndheaailjaaCrg
namespace Go.Proofs.Ythnpndheaailjaa.fnExactCriticalPairsJoin
set_option linter.unusedVariables false
set_option linter.unusedSimpArgs false
set_option maxRecDepth 100000
open Go.ChangeShapes Go.WideShapes Go.ChangeAt Go.RowKit
open Go.ChangeMaps (open_string shut_string)
set_option linter.unusedVariables false

set_option maxHeartbeats 8000000 in
set_option maxRecDepth 100000 in
theorem core (v1aP v2aP v3aP : Value) (aP : Pres) (aLimit : Int) (w : World) (haP : RdP w v1aP v2aP v3aP aP) (baLimit : -9223372036854775808 ≤ aLimit ∧ aLimit ≤ 9223372036854775807) :
    Calls Try.prog 13 #[.agg #[v1aP, v2aP, v3aP], .int .i64 aLimit] w (RetV w (.bool true)) := by
  have HEaP := Lib.hid haP
  clear haP
  by_cases gaP : ((psize aP : Nat) : Int) ≤ 1048576
  case neg =>
    have SNaP := Lib.hid (szI_out gaP)
    have hbx : Below w.heap.size w (w.alloc (Obj.cells #[v1aP, v2aP, v3aP] 38)) := below_alloc w _
    have zaP : w.heap.size < ((w.alloc (Obj.cells #[v1aP, v2aP, v3aP] 38))).heap.size := by simp <;> omega
    have M0aP : Hid (((w.alloc (Obj.cells #[v1aP, v2aP, v3aP] 38))).cell? ⟨w.heap.size, 0, none⟩ = some v1aP) := by show _ = _; simp [go_sem]
    have M1aP : Hid (((w.alloc (Obj.cells #[v1aP, v2aP, v3aP] 38))).cell? ⟨w.heap.size, 1, none⟩ = some v2aP) := by show _ = _; simp [go_sem]
    have M2aP : Hid (((w.alloc (Obj.cells #[v1aP, v2aP, v3aP] 38))).cell? ⟨w.heap.size, 2, none⟩ = some v3aP) := by show _ = _; simp [go_sem]
    go_enter Try.func13, Try.ntmps13
    go_wp2_with fail
    generalize (w.alloc (Obj.cells #[v1aP, v2aP, v3aP] 38)) = w0 at *
    have m0aP := M0aP.out
    have m1aP := M1aP.out
    have m2aP := M2aP.out
    have hb0 := Below.refl w0.heap.size w0
    go_wp2_with fail
    refine (l_szPresentation _ _ _ aP _ _ ((HEaP.out.below hbx).below hb0) (by omega) (by omega)).mono ?_
    rintro e w1 ⟨rfl, hb⟩
    have hb0x := below_size hb0 hb
    clear hb0
    have hb0 := hb0x
    clear hb0x
    have s1 : w0.heap.size ≤ w1.heap.size := hb.size
    have t := (hb.cell (p := ⟨w.heap.size, 0, none⟩) (show w.heap.size < _ by omega)).trans m0aP
    clear m0aP
    have m0aP := t
    clear t
    have t := (hb.cell (p := ⟨w.heap.size, 1, none⟩) (show w.heap.size < _ by omega)).trans m1aP
    clear m1aP
    have m1aP := t
    clear t
    have t := (hb.cell (p := ⟨w.heap.size, 2, none⟩) (show w.heap.size < _ by omega)).trans m2aP
    clear m2aP
    have m2aP := t
    clear t
    clear hb
    rw [SNaP.out]
    go_wp2_with fail
    go_ret
    exact ⟨rfl, hbx.trans (hb0.mono hbx.size)⟩
  have SZaP := Lib.hid (szI_in gaP)
  have laP : psize aP ≤ 1048576 := by omega
  have hbx : Below w.heap.size w (w.alloc (Obj.cells #[v1aP, v2aP, v3aP] 38)) := below_alloc w _
  have zaP : w.heap.size < ((w.alloc (Obj.cells #[v1aP, v2aP, v3aP] 38))).heap.size := by simp <;> omega
  have M0aP : Hid (((w.alloc (Obj.cells #[v1aP, v2aP, v3aP] 38))).cell? ⟨w.heap.size, 0, none⟩ = some v1aP) := by show _ = _; simp [go_sem]
  have M1aP : Hid (((w.alloc (Obj.cells #[v1aP, v2aP, v3aP] 38))).cell? ⟨w.heap.size, 1, none⟩ = some v2aP) := by show _ = _; simp [go_sem]
  have M2aP : Hid (((w.alloc (Obj.cells #[v1aP, v2aP, v3aP] 38))).cell? ⟨w.heap.size, 2, none⟩ = some v3aP) := by show _ = _; simp [go_sem]
  go_enter Try.func13, Try.ntmps13
  go_wp2_with fail
  generalize (w.alloc (Obj.cells #[v1aP, v2aP, v3aP] 38)) = w0 at *
  have m0aP := M0aP.out
  have m1aP := M1aP.out
  have m2aP := M2aP.out
  have hb0 := Below.refl w0.heap.size w0
  go_wp2_with fail
  refine (l_szPresentation _ _ _ aP _ _ ((HEaP.out.below hbx).below hb0) (by omega) (by omega)).mono ?_
  rintro e w1 ⟨rfl, hb⟩
  have hb0x := below_size hb0 hb
  clear hb0
  have hb0 := hb0x
  clear hb0x
  have s1 : w0.heap.size ≤ w1.heap.size := hb.size
  have t := (hb.cell (p := ⟨w.heap.size, 0, none⟩) (show w.heap.size < _ by omega)).trans m0aP
  clear m0aP
  have m0aP := t
  clear t
  have t := (hb.cell (p := ⟨w.heap.size, 1, none⟩) (show w.heap.size < _ by omega)).trans m1aP
  clear m1aP
  have m1aP := t
  clear t
  have t := (hb.cell (p := ⟨w.heap.size, 2, none⟩) (show w.heap.size < _ by omega)).trans m2aP
  clear m2aP
  have m2aP := t
  clear t
  clear hb
  rw [SZaP.out]
  go_wp2_with fail
  refine (l_toPresentation _ _ _ aP _ ((HEaP.out.below hbx).below hb0) (by omega)).mono ?_
  rintro e w2 ⟨v1c1, v2c1, v3c1, rfl, hc1, hb⟩
  have hb0x := below_size hb0 hb
  clear hb0
  have hb0 := hb0x
  clear hb0x
  have s2 : w1.heap.size ≤ w2.heap.size := hb.size
  have t := (hb.cell (p := ⟨w.heap.size, 0, none⟩) (show w.heap.size < _ by omega)).trans m0aP
  clear m0aP
  have m0aP := t
  clear t
  have t := (hb.cell (p := ⟨w.heap.size, 1, none⟩) (show w.heap.size < _ by omega)).trans m1aP
  clear m1aP
  have m1aP := t
  clear t
  have t := (hb.cell (p := ⟨w.heap.size, 2, none⟩) (show w.heap.size < _ by omega)).trans m2aP
  clear m2aP
  have m2aP := t
  clear t
  clear hb
  go_wp2_with fail
  refine (s_CriticalPairsJoin _ _ _ _ _ _ hc1.rd baLimit).mono ?_
  rintro e w3 ⟨rfl, hb⟩
  have hb0x := below_size hb0 hb
  clear hb0
  have hb0 := hb0x
  clear hb0x
  have s3 : w2.heap.size ≤ w3.heap.size := hb.size
  have t := (hb.cell (p := ⟨w.heap.size, 0, none⟩) (show w.heap.size < _ by omega)).trans m0aP
  clear m0aP
  have m0aP := t
  clear t
  have t := (hb.cell (p := ⟨w.heap.size, 1, none⟩) (show w.heap.size < _ by omega)).trans m1aP
  clear m1aP
  have m1aP := t
  clear t
  have t := (hb.cell (p := ⟨w.heap.size, 2, none⟩) (show w.heap.size < _ by omega)).trans m2aP
  clear m2aP
  have m2aP := t
  clear t
  have t := OP.below hc1 hb
  clear hc1
  have hc1 := t
  clear t
  clear hb
  go_wp2_with fail
  refine (l_toPresentation _ _ _ aP _ ((HEaP.out.below hbx).below hb0) (by omega)).mono ?_
  rintro e w4 ⟨v1c2, v2c2, v3c2, rfl, hc2, hb⟩
  have hb0x := below_size hb0 hb
  clear hb0
  have hb0 := hb0x
  clear hb0x
  have s4 : w3.heap.size ≤ w4.heap.size := hb.size
  have t := (hb.cell (p := ⟨w.heap.size, 0, none⟩) (show w.heap.size < _ by omega)).trans m0aP
  clear m0aP
  have m0aP := t
  clear t
  have t := (hb.cell (p := ⟨w.heap.size, 1, none⟩) (show w.heap.size < _ by omega)).trans m1aP
  clear m1aP
  have m1aP := t
  clear t
  have t := (hb.cell (p := ⟨w.heap.size, 2, none⟩) (show w.heap.size < _ by omega)).trans m2aP
  clear m2aP
  have m2aP := t
  clear t
  have t := OP.below hc1 hb
  clear hc1
  have hc1 := t
  clear t
  clear hb
  obtain ⟨a1c2, n1c2, q1c2, a2c2, n2c2, q2c2, a3c2, n3c2, q3c2, rfl, rfl, rfl⟩ := hc2.formsE
  have llc2 : psize aP ≤ 1000000000 := by omega
  have yaP : w.heap.size < w4.heap.size := by omega
  go_wp2_with fail
  clear yaP
  have hb := below_alloc w4 (Obj.cells #[Value.slice a1c2 n1c2 q1c2, Value.slice a2c2 n2c2 q2c2, Value.slice a3c2 n3c2 q3c2] 32)
  have zc2 : w4.heap.size < (w4.alloc (Obj.cells #[Value.slice a1c2 n1c2 q1c2, Value.slice a2c2 n2c2 q2c2, Value.slice a3c2 n3c2 q3c2] 32)).heap.size := by simp
  have M0c2 : Hid ((w4.alloc (Obj.cells #[Value.slice a1c2 n1c2 q1c2, Value.slice a2c2 n2c2 q2c2, Value.slice a3c2 n3c2 q3c2] 32)).cell? ⟨w4.heap.size, 0, none⟩ = some (Value.slice a1c2 n1c2 q1c2)) := by show _ = _; simp [go_sem]
  have M1c2 : Hid ((w4.alloc (Obj.cells #[Value.slice a1c2 n1c2 q1c2, Value.slice a2c2 n2c2 q2c2, Value.slice a3c2 n3c2 q3c2] 32)).cell? ⟨w4.heap.size, 1, none⟩ = some (Value.slice a2c2 n2c2 q2c2)) := by show _ = _; simp [go_sem]
  have M2c2 : Hid ((w4.alloc (Obj.cells #[Value.slice a1c2 n1c2 q1c2, Value.slice a2c2 n2c2 q2c2, Value.slice a3c2 n3c2 q3c2] 32)).cell? ⟨w4.heap.size, 2, none⟩ = some (Value.slice a3c2 n3c2 q3c2)) := by show _ = _; simp [go_sem]
  generalize (w4.alloc (Obj.cells #[Value.slice a1c2 n1c2 q1c2, Value.slice a2c2 n2c2 q2c2, Value.slice a3c2 n3c2 q3c2] 32)) = w5 at *
  have hb0x := below_size hb0 hb
  clear hb0
  have hb0 := hb0x
  clear hb0x
  have s5 : w4.heap.size ≤ w5.heap.size := hb.size
  have t := (hb.cell (p := ⟨w.heap.size, 0, none⟩) (show w.heap.size < _ by omega)).trans m0aP
  clear m0aP
  have m0aP := t
  clear t
  have t := (hb.cell (p := ⟨w.heap.size, 1, none⟩) (show w.heap.size < _ by omega)).trans m1aP
  clear m1aP
  have m1aP := t
  clear t
  have t := (hb.cell (p := ⟨w.heap.size, 2, none⟩) (show w.heap.size < _ by omega)).trans m2aP
  clear m2aP
  have m2aP := t
  clear t
  have t := OP.below hc1 hb
  clear hc1
  have hc1 := t
  clear t
  have t := OP.below hc2 hb
  clear hc2
  have hc2 := t
  clear t
  clear hb
  have m0c2 := M0c2.out
  have m1c2 := M1c2.out
  have m2c2 := M2c2.out
  refine (i_CriticalPairsJoin _ _ _ _ _ _ hc2.rd baLimit).mono ?_
  rintro e w6 ⟨rfl, hb⟩
  have hb0x := below_size hb0 hb
  clear hb0
  have hb0 := hb0x
  clear hb0x
  have s6 : w5.heap.size ≤ w6.heap.size := hb.size
  have t := (hb.cell (p := ⟨w.heap.size, 0, none⟩) (show w.heap.size < _ by omega)).trans m0aP
  clear m0aP
  have m0aP := t
  clear t
  have t := (hb.cell (p := ⟨w.heap.size, 1, none⟩) (show w.heap.size < _ by omega)).trans m1aP
  clear m1aP
  have m1aP := t
  clear t
  have t := (hb.cell (p := ⟨w.heap.size, 2, none⟩) (show w.heap.size < _ by omega)).trans m2aP
  clear m2aP
  have m2aP := t
  clear t
  have t := (hb.cell (p := ⟨w4.heap.size, 0, none⟩) (show w4.heap.size < _ by omega)).trans m0c2
  clear m0c2
  have m0c2 := t
  clear t
  have t := (hb.cell (p := ⟨w4.heap.size, 1, none⟩) (show w4.heap.size < _ by omega)).trans m1c2
  clear m1c2
  have m1c2 := t
  clear t
  have t := (hb.cell (p := ⟨w4.heap.size, 2, none⟩) (show w4.heap.size < _ by omega)).trans m2c2
  clear m2c2
  have m2c2 := t
  clear t
  have t := OP.below hc1 hb
  clear hc1
  have hc1 := t
  clear t
  have t := OP.below hc2 hb
  clear hc2
  have hc2 := t
  clear t
  clear hb
  go_wp2_with fail
  have HR := Lib.hid ((HEaP.out.below hbx).below hb0)
  have HX := Lib.hid hc2.rd
  have lt0 : w4.heap.size < w6.heap.size := by omega
  have lt3 : w.heap.size < w6.heap.size := by omega
  have KEEP : Hid (∀ wx, Below w6.heap.size w6 wx → Below w6.heap.size w6 wx ∧ wx.cell? ⟨w4.heap.size, 0, none⟩ = some (Value.slice a1c2 n1c2 q1c2) ∧ wx.cell? ⟨w4.heap.size, 1, none⟩ = some (Value.slice a2c2 n2c2 q2c2) ∧ wx.cell? ⟨w4.heap.size, 2, none⟩ = some (Value.slice a3c2 n3c2 q3c2) ∧ wx.cell? ⟨w.heap.size, 0, none⟩ = some (v1aP) ∧ wx.cell? ⟨w.heap.size, 1, none⟩ = some (v2aP) ∧ wx.cell? ⟨w.heap.size, 2, none⟩ = some (v3aP)) := fun wx hb => ⟨hb, ((hb).cell (p := ⟨w4.heap.size, 0, none⟩) (by omega)).trans m0c2, ((hb).cell (p := ⟨w4.heap.size, 1, none⟩) (by omega)).trans m1c2, ((hb).cell (p := ⟨w4.heap.size, 2, none⟩) (by omega)).trans m2c2, ((hb).cell (p := ⟨w.heap.size, 0, none⟩) (by omega)).trans m0aP, ((hb).cell (p := ⟨w.heap.size, 1, none⟩) (by omega)).trans m1aP, ((hb).cell (p := ⟨w.heap.size, 2, none⟩) (by omega)).trans m2aP⟩
  go_region_held3 (fun wx => Below w6.heap.size w6 wx ∧ wx.cell? ⟨w4.heap.size, 0, none⟩ = some (Value.slice a1c2 n1c2 q1c2) ∧ wx.cell? ⟨w4.heap.size, 1, none⟩ = some (Value.slice a2c2 n2c2 q2c2) ∧ wx.cell? ⟨w4.heap.size, 2, none⟩ = some (Value.slice a3c2 n3c2 q3c2) ∧ wx.cell? ⟨w.heap.size, 0, none⟩ = some (v1aP) ∧ wx.cell? ⟨w.heap.size, 1, none⟩ = some (v2aP) ∧ wx.cell? ⟨w.heap.size, 2, none⟩ = some (v3aP))
    (first | exact KEEP.out _ (Below.refl _ _).drew | exact KEEP.out _ (below_size (And.left (by assumption)) (by assumption)))
    (first
      | ((go_at_call 27); (refine (l_toPresentation _ _ _ aP _ (HR.out.below (And.left (by assumption))) (by omega)).mono ?_); (rintro e wy ⟨yv1, yv2, yv3, rfl, hy, hb⟩))
      | ((go_at_call 22); (refine (l_eqPresentation _ _ _ _ _ _ aP _ (HX.out.below (And.left (by assumption))) hy.rd).mono ?_); (rintro e w7 ⟨rfl, hb2⟩)))
  have hb : Below w6.heap.size w6 w7 := And.left (by assumption)
  clear KEEP HR HX
  have hb0x := below_size hb0 hb
  clear hb0
  have hb0 := hb0x
  clear hb0x
  have s7 : w6.heap.size ≤ w7.heap.size := hb.size
  have t := (hb.cell (p := ⟨w.heap.size, 0, none⟩) (show w.heap.size < _ by omega)).trans m0aP
  clear m0aP
  have m0aP := t
  clear t
  have t := (hb.cell (p := ⟨w.heap.size, 1, none⟩) (show w.heap.size < _ by omega)).trans m1aP
  clear m1aP
  have m1aP := t
  clear t
  have t := (hb.cell (p := ⟨w.heap.size, 2, none⟩) (show w.heap.size < _ by omega)).trans m2aP
  clear m2aP
  have m2aP := t
  clear t
  have t := (hb.cell (p := ⟨w4.heap.size, 0, none⟩) (show w4.heap.size < _ by omega)).trans m0c2
  clear m0c2
  have m0c2 := t
  clear t
  have t := (hb.cell (p := ⟨w4.heap.size, 1, none⟩) (show w4.heap.size < _ by omega)).trans m1c2
  clear m1c2
  have m1c2 := t
  clear t
  have t := (hb.cell (p := ⟨w4.heap.size, 2, none⟩) (show w4.heap.size < _ by omega)).trans m2c2
  clear m2c2
  have m2c2 := t
  clear t
  have t := OP.below hc1 hb
  clear hc1
  have hc1 := t
  clear t
  have t := OP.below hc2 hb
  clear hc2
  have hc2 := t
  clear t
  clear hb
  go_wp2_with fail
  go_ret
  exact ⟨rfl, hbx.trans (hb0.mono hbx.size)⟩

theorem own : ownKnob Try.prog.godebug = none := by kernel_rfl
theorem laidOut : laidOutB Try.prog = true := by kernel_rfl

set_option maxRecDepth 100000 in
theorem lifted (os : Os) (started : os.Started) (H : Type) (enc : TypeId × Value → H) :
    ReturnsInHanded {} Try.checked os 13 .any (Rows.fnExactCriticalPairsJoinSpec.pre6 enc Try.prog Try.f13 Rows.fnExactCriticalPairsJoinRow.domain false) (Rows.fnExactCriticalPairsJoinSpec.post enc Try.prog Try.f13 false true false false) := by
  refine returnsInHanded_of_change (C := Try.checked) own started (by kernel_rfl) Try.func13
    (ChangeSpec.witness6 (enc := enc) (C := Try.checked) false ⟨#[], #[.agg #[.slice none 0 0, .slice none 0 0, .slice none 0 0], .int .i64 0], []⟩ 8 (by kernel_rfl) (by kernel_rfl) (by kernel_rfl) (by kernel_rfl)) ?_
  intro W base args ds gs before hval0 hW hcnd _
  have hval : ∀ (j : Nat) t v, Try.f13.params[j]? = some t → args[j]? = some v → Value.okWide Try.prog W .any base t v := hval0
  have hW' := hW
  obtain ⟨p, q, hA0, hV, rfl, hfz, hnd⟩ := hW
  have hA : DataW.TrodAll enc Try.prog W 0 (fun _ => true) true Try.f13.params.toList args.toList ds p := hA0
  rw [Try.params13] at hA hval
  obtain ⟨v0, vs0, d0, ds0, p0, q0, hargs, rfl, rfl, h0, r0⟩ := trodAll_cons hA
  obtain ⟨v1, vs1, d1, ds1, p1, q1, rfl, rfl, rfl, h1, r1⟩ := trodAll_cons r0
  obtain ⟨rfl, rfl, rfl⟩ := trodAll_nil r1
  obtain rfl : args = #[v0, v1] := by cases args; simp_all
  obtain ⟨rfl, rfl⟩ := trodVars_none hV
  have k0 := h0
  have lt0 : ∀ x ∈ p0, x.block < W.heap.size := by obtain ⟨m, hm⟩ := k0; exact DataW.trod_lt m _ _ _ hm
  obtain ⟨x10, x20, x30, xs0, rfl, f0⟩ := rdP_of (hval 0 38 v0 rfl rfl) h0
  obtain ⟨a1, rfl, rfl, rfl, f1⟩ := open_int Try.underlying2 (hval 1 2 v1 rfl rfl) h1
  clear hA0 hval0
  refine (core _ _ _ xs0 a1 W f0 (wf_bd f1)).mono fun e W' ⟨he, bel⟩ => ?_
  subst he
  exact ⟨_, rfl, _, _, _, [], _, [], hW', trodAll_mk1 (shut_bool Try.underlying4 _), (trodAll_cons_mk (Below.trod laidOut (by kernel_rfl) (of_decide_eq_true (by kernel_rfl)) k0 bel lt0) (trodAll_cons_mk (shut_int Try.underlying2 f1) trodAll_mk0)), rfl, bel.frame _, fun h => by cases h⟩

theorem and_i {a b : Bool} (ha : a = true) (hb : b = true) : (a && b) = true := by rw [ha, hb]; rfl
set_option maxHeartbeats 8000000 in
theorem closed : joinedFacts Try.pinned.checked.prog 13 Try.f13 Rows.fnExactCriticalPairsJoinSpec Rows.fnExactCriticalPairsJoinRow = true := by
  unfold joinedFacts
  repeat' with_reducible apply and_i
  all_goals as_aux_lemma => kernel_rfl

theorem over : Rows.fnExactCriticalPairsJoinRow.holds Try.pinned (OpenSpec.ofChange Rows.fnExactCriticalPairsJoinSpec) :=
  OpenClaim.holds_of_wide 13 Try.f13 rfl rfl rfl rfl rfl rfl rfl ⟨rfl, rfl, rfl, rfl, rfl⟩ rfl rfl rfl rfl rfl (by kernel_rfl) Try.func13 closed
    (of_decide_eq_true (by kernel_rfl)) (by unfold Func.isWrapper; first | (rw [if_pos (by decide +kernel)]; kernel_rfl) | (rw [if_neg (by decide +kernel)]; exact ⟨rfl, rfl⟩))
    (fun os started H enc _ => lifted os started H enc)

/-- The given statement. -/
theorem proved : Rows.FnExactCriticalPairsJoinSaid := over
#print axioms proved
end Go.Proofs.Ythnpndheaailjaa.fnExactCriticalPairsJoin
