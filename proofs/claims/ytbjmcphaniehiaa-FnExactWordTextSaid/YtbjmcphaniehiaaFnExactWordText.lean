/-
  The law FnExactWordText: for every input the call returns true, and each argument reads behind the call as it read before. No condition.
-/
import Derived.Test.YtbjmcphaniehiaaLaw
import Derived.Test.YtbjmcphaniehiaaText
namespace Go.Proofs.Ytbjmcphaniehiaa.fnExactWordText
set_option linter.unusedVariables false
set_option linter.unusedSimpArgs false
open Go.ChangeShapes Go.WideShapes Go.ChangeAt Go.RowKit
open Go.ChangeMaps (open_string shut_string)
set_option linter.unusedVariables false

set_option maxHeartbeats 4000000 in
set_option maxRecDepth 100000 in
theorem core (aK : Int) (vaW : Value) (aW : List Int) (w : World) (haW : Rd w vaW aW) (baK : -9223372036854775808 ≤ aK ∧ aK ≤ 9223372036854775807) :
    Calls Try.prog 9 #[.int .i64 aK, vaW] w (RetV w (.bool true)) := by
  obtain ⟨aoaW, capaW, eaW, c1aW, c2aW, _⟩ := id haW
  by_cases gaW : 1048576 < aW.length
  · subst eaW
    go_enter Try.func9, Try.ntmps9
    go_wp2_with fail
    go_ret
    exact ⟨rfl, Below.refl _ _⟩
  have laW : aW.length ≤ 1048576 := by omega
  have HGaW := Lib.hid gaW
  clear gaW
  subst eaW
  have HEaW := Lib.hid haW
  clear haW
  go_enter Try.func9, Try.ntmps9
  go_wp2_with fail
  refine (l_toInt64S _ aW _ HEaW.out (by omega)).mono ?_
  rintro e w1 ⟨vc1, rfl, hc1, hb⟩
  have hb0 := hb
  have s1 : w.heap.size ≤ w1.heap.size := hb.size
  have kc1 := hc1.blk
  clear hb
  go_wp2_with fail
  refine (s_WordText _ _ _ _ hc1.rd).mono ?_
  rintro e w2 ⟨rfl, hb⟩
  have hb0x := below_size hb0 hb
  clear hb0
  have hb0 := hb0x
  clear hb0x
  have s2 : w1.heap.size ≤ w2.heap.size := hb.size
  have t := hc1.below hb
  clear hc1
  have hc1 := t
  clear t
  clear hb
  go_wp2_with fail
  refine (l_toInt64S _ aW _ (HEaW.out.below hb0) (by omega)).mono ?_
  rintro e w3 ⟨vc2, rfl, hc2, hb⟩
  have hb0x := below_size hb0 hb
  clear hb0
  have hb0 := hb0x
  clear hb0x
  have s3 : w2.heap.size ≤ w3.heap.size := hb.size
  have t := hc1.below hb
  clear hc1
  have hc1 := t
  clear t
  have kc2 := hc2.blk
  clear hb
  have llc2 : aW.length ≤ 1000000000 := by omega
  go_wp2_with fail
  refine (i_WordText _ _ _ _ hc2.rd).mono ?_
  rintro e w4 ⟨rfl, hb⟩
  have hb0x := below_size hb0 hb
  clear hb0
  have hb0 := hb0x
  clear hb0x
  have s4 : w3.heap.size ≤ w4.heap.size := hb.size
  have t := hc1.below hb
  clear hc1
  have hc1 := t
  clear t
  have t := hc2.below hb
  clear hc2
  have hc2 := t
  clear t
  clear hb
  go_wp2_with fail
  refine (l_toInt64S _ aW _ (HEaW.out.below hb0) (by omega)).mono ?_
  rintro e w5 ⟨vc3, rfl, hc3, hb⟩
  have hb0x := below_size hb0 hb
  clear hb0
  have hb0 := hb0x
  clear hb0x
  have s5 : w4.heap.size ≤ w5.heap.size := hb.size
  have t := hc1.below hb
  clear hc1
  have hc1 := t
  clear t
  have t := hc2.below hb
  clear hc2
  have hc2 := t
  clear t
  have kc3 := hc3.blk
  clear hb
  go_wp2_with fail
  refine (l_eqInt64S_same _ _ _ _ hc2.rd hc3.rd).mono ?_
  rintro e w6 ⟨rfl, hb⟩
  have hb0x := below_size hb0 hb
  clear hb0
  have hb0 := hb0x
  clear hb0x
  have s6 : w5.heap.size ≤ w6.heap.size := hb.size
  have t := hc1.below hb
  clear hc1
  have hc1 := t
  clear t
  have t := hc2.below hb
  clear hc2
  have hc2 := t
  clear t
  have t := hc3.below hb
  clear hc3
  have hc3 := t
  clear t
  clear hb
  clear hc3 kc3
  go_wp2_with fail
  go_ret
  exact ⟨rfl, hb0⟩

theorem own : ownKnob Try.prog.godebug = none := by kernel_rfl
theorem laidOut : laidOutB Try.prog = true := by kernel_rfl

set_option maxRecDepth 100000 in
theorem lifted (os : Os) (started : os.Started) (H : Type) (enc : TypeId × Value → H) :
    ReturnsInHanded {} Try.checked os 9 .any (Rows.fnExactWordTextSpec.pre6 enc Try.prog Try.f9 Rows.fnExactWordTextRow.domain false) (Rows.fnExactWordTextSpec.post enc Try.prog Try.f9 false true false false) := by
  refine returnsInHanded_of_change (C := Try.checked) own started (by kernel_rfl) Try.func9
    (ChangeSpec.witness6 (enc := enc) (C := Try.checked) false ⟨#[], #[.int .i64 0, .slice none 0 0], []⟩ 8 (by kernel_rfl) (by kernel_rfl) (by kernel_rfl) (by kernel_rfl)) ?_
  intro W base args ds gs before hval0 hW hcnd _
  have hval : ∀ (j : Nat) t v, Try.f9.params[j]? = some t → args[j]? = some v → Value.okWide Try.prog W .any base t v := hval0
  have hW' := hW
  obtain ⟨p, q, hA0, hV, rfl, hfz, hnd⟩ := hW
  have hA : DataW.TrodAll enc Try.prog W 0 (fun _ => true) true Try.f9.params.toList args.toList ds p := hA0
  rw [Try.params9] at hA hval
  obtain ⟨v0, vs0, d0, ds0, p0, q0, hargs, rfl, rfl, h0, r0⟩ := trodAll_cons hA
  obtain ⟨v1, vs1, d1, ds1, p1, q1, rfl, rfl, rfl, h1, r1⟩ := trodAll_cons r0
  obtain ⟨rfl, rfl, rfl⟩ := trodAll_nil r1
  obtain rfl : args = #[v0, v1] := by cases args; simp_all
  obtain ⟨rfl, rfl⟩ := trodVars_none hV
  obtain ⟨a0, rfl, rfl, rfl, f0⟩ := open_int Try.underlying2 (hval 0 2 v0 rfl rfl) h0
  obtain ⟨a1, len1, cap1, rfl⟩ := okWide_slice Try.underlying22 (hval 1 22 v1 rfl rfl)
  have k1 := h1
  have lt1 : ∀ x ∈ p1, x.block < W.heap.size := by obtain ⟨m, hm⟩ := k1; exact DataW.trod_lt m _ _ _ hm
  obtain ⟨z1, f1⟩ : ∃ zs, IsRow .i64 W a1 len1 cap1 zs := by
    obtain ⟨fuel, hf⟩ := h1
    rcases open_ints Try.underlying22 Try.underlying2 (by kernel_rfl) hf with ⟨hcs, _⟩ | ⟨x, l, c, zs, hcs, _, hl, hm, hz, _, hcell, hwz⟩
    · simp [Value.cells] at hcs
      obtain ⟨rfl, rfl, rfl⟩ := hcs
      exact ⟨[], .inl ⟨rfl, rfl, rfl, rfl⟩⟩
    · simp [Value.cells] at hcs
      obtain ⟨rfl, rfl, rfl⟩ := hcs
      exact ⟨zs, .inr ⟨_, rfl, hl, hm, by simpa using hz, hcell, hwz⟩⟩
  clear hA0 hval0
  refine (core a0 _ _ W f1.rd (wf_bd f0)).mono fun e W' ⟨he, bel⟩ => ?_
  subst he
  exact ⟨_, rfl, _, _, _, [], _, [], hW', trodAll_mk1 (shut_bool Try.underlying4 _), (trodAll_cons_mk (shut_int Try.underlying2 f0) (trodAll_cons_mk (Below.trod laidOut (by kernel_rfl) (of_decide_eq_true (by kernel_rfl)) k1 bel lt1) trodAll_mk0)), rfl, bel.frame _, fun h => by cases h⟩

theorem over : Rows.fnExactWordTextRow.holds Try.pinned (OpenSpec.ofChange Rows.fnExactWordTextSpec) :=
  OpenClaim.holds_of_wide 9 Try.f9 rfl rfl rfl rfl rfl rfl rfl ⟨rfl, rfl, rfl, rfl, rfl⟩ rfl rfl rfl rfl rfl (by kernel_rfl) Try.func9 (by kernel_rfl)
    (of_decide_eq_true (by kernel_rfl)) (by unfold Func.isWrapper; first | (rw [if_pos (by decide +kernel)]; kernel_rfl) | (rw [if_neg (by decide +kernel)]; exact ⟨rfl, rfl⟩))
    (fun os started H enc _ => lifted os started H enc)

/-- The given statement. -/
theorem proved : Rows.FnExactWordTextSaid := over
#print axioms proved
end Go.Proofs.Ytbjmcphaniehiaa.fnExactWordText
