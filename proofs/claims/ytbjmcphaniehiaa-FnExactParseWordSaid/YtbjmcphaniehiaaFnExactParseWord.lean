/-
  The law FnExactParseWord: for every input the call returns true, and each argument reads behind the call as it read before. No condition.
-/
import Derived.Test.YtbjmcphaniehiaaLaw
import Derived.Test.YtbjmcphaniehiaaParse
namespace Go.Proofs.Ytbjmcphaniehiaa.fnExactParseWord
set_option linter.unusedVariables false
set_option linter.unusedSimpArgs false
open Go.ChangeShapes Go.WideShapes Go.ChangeAt Go.RowKit
open Go.ChangeMaps (open_string shut_string)
set_option linter.unusedVariables false

set_option maxHeartbeats 4000000 in
set_option maxRecDepth 100000 in
theorem core (aK : Int) (aText : ByteArray) (w : World) (baK : -9223372036854775808 ≤ aK ∧ aK ≤ 9223372036854775807) (baText : aText.size ≤ 9223372036854775807) :
    Calls Try.prog 7 #[.int .i64 aK, .string aText] w (RetV w (.bool true)) := by
  by_cases gaText : 1048576 < aText.size
  ·
    go_enter Try.func7, Try.ntmps7
    go_wp2_with fail
    go_ret
    exact ⟨rfl, Below.refl _ _⟩
  have laText : aText.size ≤ 1048576 := by omega
  go_enter Try.func7, Try.ntmps7
  go_wp2_with fail
  refine (s_ParseWord _ _ _ (by omega)).mono ?_
  rintro e w1 ⟨vw0, rfl, hw0, hb⟩
  have hb0 := hb
  have s1 : w.heap.size ≤ w1.heap.size := hb.size
  have kw0 := hw0.blk
  clear hb
  go_wp2_with fail
  refine (i_ParseWord _ _ _ (by omega)).mono ?_
  rintro e w2 ⟨vg0, rfl, hg0, hb⟩
  have hb0x := below_size hb0 hb
  clear hb0
  have hb0 := hb0x
  clear hb0x
  have s2 : w1.heap.size ≤ w2.heap.size := hb.size
  have t := hw0.below hb
  clear hw0
  have hw0 := t
  clear t
  have kg0 := hg0.blk
  have llg0 : _ ≤ 1000000000 := len_ParseWord aK aText
  clear hb
  go_wp2_with fail
  refine (l_eqInt64S_same _ _ _ _ hg0.rd hw0.rd).mono ?_
  rintro e w3 ⟨rfl, hb⟩
  have hb0x := below_size hb0 hb
  clear hb0
  have hb0 := hb0x
  clear hb0x
  have s3 : w2.heap.size ≤ w3.heap.size := hb.size
  have t := hw0.below hb
  clear hw0
  have hw0 := t
  clear t
  have t := hg0.below hb
  clear hg0
  have hg0 := t
  clear t
  clear hb
  go_wp2_with fail
  refine (l_markInt64S _ _ _ _ _ hg0 (by omega) (by omega) llg0).mono ?_
  rintro e w4 ⟨rfl, hng0, hg, hsz⟩
  clear hsz hg0
  have hg0 := hng0
  clear hng0
  have s4 : w3.heap.size ≤ w4.heap.size := hg.grown.size
  have t := hg.below' hb0 kg0 (by omega)
  clear hb0
  have hb0 := t
  clear t
  have t := hg.ints hw0 kw0 kg0 (by omega)
  clear hw0
  have hw0 := t
  clear t
  clear hg
  go_wp2_with fail
  refine (l_heldInt64S _ _ _ _ hg0.rd (by omega) (by omega) llg0).mono ?_
  rintro e w' ⟨rfl, rfl⟩
  go_wp2_with fail
  refine (i_ParseWord _ _ _ (by omega)).mono ?_
  rintro e w5 ⟨vh0, rfl, hh0, hb⟩
  have hb0x := below_size hb0 hb
  clear hb0
  have hb0 := hb0x
  clear hb0x
  have s5 : w4.heap.size ≤ w5.heap.size := hb.size
  have t := hw0.below hb
  clear hw0
  have hw0 := t
  clear t
  have t := hg0.below hb
  clear hg0
  have hg0 := t
  clear t
  have kh0 := hh0.blk
  have llh0 : _ ≤ 1000000000 := len_ParseWord aK aText
  clear hb
  go_wp2_with fail
  refine (l_eqInt64S_same _ _ _ _ hh0.rd hw0.rd).mono ?_
  rintro e w6 ⟨rfl, hb⟩
  have hb0x := below_size hb0 hb
  clear hb0
  have hb0 := hb0x
  clear hb0x
  have s6 : w5.heap.size ≤ w6.heap.size := hb.size
  have t := hw0.below hb
  clear hw0
  have hw0 := t
  clear t
  have t := hg0.below hb
  clear hg0
  have hg0 := t
  clear t
  have t := hh0.below hb
  clear hh0
  have hh0 := t
  clear t
  clear hb
  go_wp2_with fail
  refine (l_heldInt64S _ _ _ _ hg0.rd (by omega) (by omega) llg0).mono ?_
  rintro e w' ⟨rfl, rfl⟩
  go_wp2_with fail
  go_ret
  exact ⟨rfl, hb0⟩

theorem own : ownKnob Try.prog.godebug = none := by kernel_rfl
theorem laidOut : laidOutB Try.prog = true := by kernel_rfl

set_option maxRecDepth 100000 in
theorem lifted (os : Os) (started : os.Started) (H : Type) (enc : TypeId × Value → H) :
    ReturnsInHanded {} Try.checked os 7 .any (Rows.fnExactParseWordSpec.pre6 enc Try.prog Try.f7 Rows.fnExactParseWordRow.domain false) (Rows.fnExactParseWordSpec.post enc Try.prog Try.f7 false true false false) := by
  refine returnsInHanded_of_change (C := Try.checked) own started (by kernel_rfl) Try.func7
    (ChangeSpec.witness6 (enc := enc) (C := Try.checked) false ⟨#[], #[.int .i64 0, .string ByteArray.empty], []⟩ 8 (by kernel_rfl) (by kernel_rfl) (by kernel_rfl) (by kernel_rfl)) ?_
  intro W base args ds gs before hval0 hW hcnd _
  have hval : ∀ (j : Nat) t v, Try.f7.params[j]? = some t → args[j]? = some v → Value.okWide Try.prog W .any base t v := hval0
  have hW' := hW
  obtain ⟨p, q, hA0, hV, rfl, hfz, hnd⟩ := hW
  have hA : DataW.TrodAll enc Try.prog W 0 (fun _ => true) true Try.f7.params.toList args.toList ds p := hA0
  rw [Try.params7] at hA hval
  obtain ⟨v0, vs0, d0, ds0, p0, q0, hargs, rfl, rfl, h0, r0⟩ := trodAll_cons hA
  obtain ⟨v1, vs1, d1, ds1, p1, q1, rfl, rfl, rfl, h1, r1⟩ := trodAll_cons r0
  obtain ⟨rfl, rfl, rfl⟩ := trodAll_nil r1
  obtain rfl : args = #[v0, v1] := by cases args; simp_all
  obtain ⟨rfl, rfl⟩ := trodVars_none hV
  obtain ⟨a0, rfl, rfl, rfl, f0⟩ := open_int Try.underlying2 (hval 0 2 v0 rfl rfl) h0
  obtain ⟨a1, rfl, rfl, rfl, f1⟩ := open_string Try.underlying9 (hval 1 9 v1 rfl rfl) h1
  clear hA0 hval0
  refine (core a0 a1 W (wf_bd f0) (by have := f1; unfold maxLen at this; omega)).mono fun e W' ⟨he, bel⟩ => ?_
  subst he
  exact ⟨_, rfl, _, _, _, [], _, [], hW', trodAll_mk1 (shut_bool Try.underlying4 _), (trodAll_cons_mk (shut_int Try.underlying2 f0) (trodAll_cons_mk (shut_string Try.underlying9 f1) trodAll_mk0)), rfl, bel.frame _, fun h => by cases h⟩

theorem over : Rows.fnExactParseWordRow.holds Try.pinned (OpenSpec.ofChange Rows.fnExactParseWordSpec) :=
  OpenClaim.holds_of_wide 7 Try.f7 rfl rfl rfl rfl rfl rfl rfl ⟨rfl, rfl, rfl, rfl, rfl⟩ rfl rfl rfl rfl rfl (by kernel_rfl) Try.func7 (by kernel_rfl)
    (of_decide_eq_true (by kernel_rfl)) (by unfold Func.isWrapper; first | (rw [if_pos (by decide +kernel)]; kernel_rfl) | (rw [if_neg (by decide +kernel)]; exact ⟨rfl, rfl⟩))
    (fun os started H enc _ => lifted os started H enc)

/-- The given statement. -/
theorem proved : Rows.FnExactParseWordSaid := over
#print axioms proved
end Go.Proofs.Ytbjmcphaniehiaa.fnExactParseWord
