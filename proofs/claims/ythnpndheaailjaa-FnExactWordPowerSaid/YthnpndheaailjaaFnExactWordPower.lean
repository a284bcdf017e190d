/-
  The law FnExactWordPower: for every input the call returns true, and each argument reads behind the call as it read before. No condition.
-/
import Derived.Test.YthnpndheaailjaaLaw
import Derived.Test.YthnpndheaailjaaPow
namespace Go.Proofs.Ythnpndheaailjaa.fnExactWordPower
set_option linter.unusedVariables false
set_option linter.unusedSimpArgs false
set_option maxRecDepth 100000
open Go.ChangeShapes Go.WideShapes Go.ChangeAt Go.RowKit
open Go.ChangeMaps (open_string shut_string)
set_option linter.unusedVariables false

set_option maxHeartbeats 4000000 in
set_option maxRecDepth 100000 in
theorem core (aK : Int) (vaW : Value) (aW : List Int) (aE : Int) (w : World) (haW : Rd w vaW aW) (baK : -9223372036854775808 ≤ aK ∧ aK ≤ 9223372036854775807) (baE : -9223372036854775808 ≤ aE ∧ aE ≤ 9223372036854775807) :
    Calls Try.prog 3 #[.int .i64 aK, vaW, .int .i64 aE] w (RetV w (.bool true)) := by
  obtain ⟨aoaW, capaW, eaW, c1aW, c2aW, _⟩ := id haW
  by_cases gaW : 1048576 < aW.length
  · subst eaW
    go_enter Try.func3, Try.ntmps3
    go_wp2_with fail
    go_ret
    exact ⟨rfl, Below.refl _ _⟩
  have laW : aW.length ≤ 1048576 := by omega
  have HGaW := Lib.hid gaW
  clear gaW
  subst eaW
  have HEaW := Lib.hid haW
  clear haW
  go_enter Try.func3, Try.ntmps3
  go_wp2_with fail
  refine (l_toInt64S _ aW _ HEaW.out (by omega)).mono ?_
  rintro e w1 ⟨vc1, rfl, hc1, hb⟩
  have hb0 := hb
  have s1 : w.heap.size ≤ w1.heap.size := hb.size
  have kc1 := hc1.blk
  clear hb
  go_wp2_with fail
  refine (s_WordPower _ _ _ _ _ hc1.rd baE).mono ?_
  rintro e w2 ⟨vw0, rfl, hw0, hb⟩
  have hb0x := below_size hb0 hb
  clear hb0
  have hb0 := hb0x
  clear hb0x
  have s2 : w1.heap.size ≤ w2.heap.size := hb.size
  have t := hc1.below hb
  clear hc1
  have hc1 := t
  clear t
  have kw0 := hw0.blk
  clear hb
  go_wp2_with fail
  refine (l_toInt64S _ aW _ (HEaW.out.below hb0) (by omega)).mono ?_
  rintro e w3 ⟨vc2, rfl, hc2, hb⟩
  have hb0x := below_size hb0 hb
  clear hb0
  have hb0 := hb0x
  clear hb0x
  have s3 : w2.heap.size ≤ w3.heap.size := hb.size
  have t := hc1.below hb
  clear hc1
  have hc1 := t
  clear t
  have t := hw0.below hb
  clear hw0
  have hw0 := t
  clear t
  have kc2 := hc2.blk
  clear hb
  have llc2 : aW.length ≤ 1000000000 := by omega
  go_wp2_with fail
  refine (i_WordPower _ _ _ _ _ hc2.rd baE).mono ?_
  rintro e w4 ⟨vg0, rfl, hg0, hb⟩
  have hb0x := below_size hb0 hb
  clear hb0
  have hb0 := hb0x
  clear hb0x
  have s4 : w3.heap.size ≤ w4.heap.size := hb.size
  have t := hc1.below hb
  clear hc1
  have hc1 := t
  clear t
  have t := hw0.below hb
  clear hw0
  have hw0 := t
  clear t
  have t := hc2.below hb
  clear hc2
  have hc2 := t
  clear t
  have kg0 := hg0.blk
  have llg0 : _ ≤ 1000000000 := prodL_len (powCode aK aW aE) (powW aW aE)
  clear hb
  go_wp2_with fail
  refine (l_eqInt64S_same _ _ _ _ hg0.rd hw0.rd).mono ?_
  rintro e w5 ⟨rfl, hb⟩
  have hb0x := below_size hb0 hb
  clear hb0
  have hb0 := hb0x
  clear hb0x
  have s5 : w4.heap.size ≤ w5.heap.size := hb.size
  have t := hc1.below hb
  clear hc1
  have hc1 := t
  clear t
  have t := hw0.below hb
  clear hw0
  have hw0 := t
  clear t
  have t := hc2.below hb
  clear hc2
  have hc2 := t
  clear t
  have t := hg0.below hb
  clear hg0
  have hg0 := t
  clear t
  clear hb
  go_wp2_with fail
  refine (l_toInt64S _ aW _ (HEaW.out.below hb0) (by omega)).mono ?_
  rintro e w6 ⟨vc3, rfl, hc3, hb⟩
  have hb0x := below_size hb0 hb
  clear hb0
  have hb0 := hb0x
  clear hb0x
  have s6 : w5.heap.size ≤ w6.heap.size := hb.size
  have t := hc1.below hb
  clear hc1
  have hc1 := t
  clear t
  have t := hw0.below hb
  clear hw0
  have hw0 := t
  clear t
  have t := hc2.below hb
  clear hc2
  have hc2 := t
  clear t
  have t := hg0.below hb
  clear hg0
  have hg0 := t
  clear t
  have kc3 := hc3.blk
  clear hb
  go_wp2_with fail
  refine (l_eqInt64S_same _ _ _ _ hc2.rd hc3.rd).mono ?_
  rintro e w7 ⟨rfl, hb⟩
  have hb0x := below_size hb0 hb
  clear hb0
  have hb0 := hb0x
  clear hb0x
  have s7 : w6.heap.size ≤ w7.heap.size := hb.size
  have t := hc1.below hb
  clear hc1
  have hc1 := t
  clear t
  have t := hw0.below hb
  clear hw0
  have hw0 := t
  clear t
  have t := hc2.below hb
  clear hc2
  have hc2 := t
  clear t
  have t := hg0.below hb
  clear hg0
  have hg0 := t
  clear t
  have t := hc3.below hb
  clear hc3
  have hc3 := t
  clear t
  clear hb
  clear hc3 kc3
  go_wp2_with fail
  refine (l_markInt64S _ _ _ _ _ hc2 (by omega) (by omega) llc2).mono ?_
  rintro e w8 ⟨rfl, hnc2, hg, hsz⟩
  clear hsz hc2
  have hc2 := hnc2
  clear hnc2
  have s8 : w7.heap.size ≤ w8.heap.size := hg.grown.size
  have t := hg.below' hb0 kc2 (by omega)
  clear hb0
  have hb0 := t
  clear t
  have t := hg.ints hc1 kc1 kc2 (by omega)
  clear hc1
  have hc1 := t
  clear t
  have t := hg.ints hw0 kw0 kc2 (by omega)
  clear hw0
  have hw0 := t
  clear t
  have t := hg.ints hg0 kg0 kc2 (by omega)
  clear hg0
  have hg0 := t
  clear t
  clear hg
  go_wp2_with fail
  refine (l_eqInt64S_same _ _ _ _ hg0.rd hw0.rd).mono ?_
  rintro e w9 ⟨rfl, hb⟩
  have hb0x := below_size hb0 hb
  clear hb0
  have hb0 := hb0x
  clear hb0x
  have s9 : w8.heap.size ≤ w9.heap.size := hb.size
  have t := hc1.below hb
  clear hc1
  have hc1 := t
  clear t
  have t := hw0.below hb
  clear hw0
  have hw0 := t
  clear t
  have t := hc2.below hb
  clear hc2
  have hc2 := t
  clear t
  have t := hg0.below hb
  clear hg0
  have hg0 := t
  clear t
  clear hb
  go_wp2_with fail
  refine (l_markInt64S _ _ _ _ _ hg0 (by omega) (by omega) llg0).mono ?_
  rintro e w10 ⟨rfl, hng0, hg, hsz⟩
  clear hsz hg0
  have hg0 := hng0
  clear hng0
  have s10 : w9.heap.size ≤ w10.heap.size := hg.grown.size
  have t := hg.below' hb0 kg0 (by omega)
  clear hb0
  have hb0 := t
  clear t
  have t := hg.ints hc1 kc1 kg0 (by omega)
  clear hc1
  have hc1 := t
  clear t
  have t := hg.ints hw0 kw0 kg0 (by omega)
  clear hw0
  have hw0 := t
  clear t
  have t := hg.ints hc2 kc2 kg0 (by omega)
  clear hc2
  have hc2 := t
  clear t
  clear hg
  go_wp2_with fail
  refine (l_heldInt64S _ _ _ _ hg0.rd (by omega) (by omega) llg0).mono ?_
  rintro e w' ⟨rfl, rfl⟩
  go_wp2_with fail
  refine (l_toInt64S _ aW _ (HEaW.out.below hb0) (by omega)).mono ?_
  rintro e w11 ⟨vc4, rfl, hc4, hb⟩
  have hb0x := below_size hb0 hb
  clear hb0
  have hb0 := hb0x
  clear hb0x
  have s11 : w10.heap.size ≤ w11.heap.size := hb.size
  have t := hc1.below hb
  clear hc1
  have hc1 := t
  clear t
  have t := hw0.below hb
  clear hw0
  have hw0 := t
  clear t
  have t := hc2.below hb
  clear hc2
  have hc2 := t
  clear t
  have t := hg0.below hb
  clear hg0
  have hg0 := t
  clear t
  have kc4 := hc4.blk
  clear hb
  go_wp2_with fail
  refine (i_WordPower _ _ _ _ _ hc4.rd baE).mono ?_
  rintro e w12 ⟨vh0, rfl, hh0, hb⟩
  have hb0x := below_size hb0 hb
  clear hb0
  have hb0 := hb0x
  clear hb0x
  have s12 : w11.heap.size ≤ w12.heap.size := hb.size
  have t := hc1.below hb
  clear hc1
  have hc1 := t
  clear t
  have t := hw0.below hb
  clear hw0
  have hw0 := t
  clear t
  have t := hc2.below hb
  clear hc2
  have hc2 := t
  clear t
  have t := hg0.below hb
  clear hg0
  have hg0 := t
  clear t
  have t := hc4.below hb
  clear hc4
  have hc4 := t
  clear t
  have kh0 := hh0.blk
  have llh0 : _ ≤ 1000000000 := prodL_len (powCode aK aW aE) (powW aW aE)
  clear hb
  go_wp2_with fail
  refine (l_eqInt64S_same _ _ _ _ hh0.rd hw0.rd).mono ?_
  rintro e w13 ⟨rfl, hb⟩
  have hb0x := below_size hb0 hb
  clear hb0
  have hb0 := hb0x
  clear hb0x
  have s13 : w12.heap.size ≤ w13.heap.size := hb.size
  have t := hc1.below hb
  clear hc1
  have hc1 := t
  clear t
  have t := hw0.below hb
  clear hw0
  have hw0 := t
  clear t
  have t := hc2.below hb
  clear hc2
  have hc2 := t
  clear t
  have t := hg0.below hb
  clear hg0
  have hg0 := t
  clear t
  have t := hc4.below hb
  clear hc4
  have hc4 := t
  clear t
  have t := hh0.below hb
  clear hh0
  have hh0 := t
  clear t
  clear hb
  go_wp2_with fail
  refine (l_heldInt64S _ _ _ _ hg0.rd (by omega) (by omega) llg0).mono ?_
  rintro e w' ⟨rfl, rfl⟩
  go_wp2_with fail
  go_ret
  exact ⟨rfl, hb0⟩

theorem own : ownKnob Try.prog.godebug = none := by kernel_rfl
theorem laidOut : laidOutB Try.prog = true := by kernel_rfl

set_option maxRecDepth 100000 in
theorem lifted (os : Os) (started : os.Started) (H : Type) (enc : TypeId × Value → H) :
    ReturnsInHanded {} Try.checked os 3 .any (Rows.fnExactWordPowerSpec.pre6 enc Try.prog Try.f3 Rows.fnExactWordPowerRow.domain false) (Rows.fnExactWordPowerSpec.post enc Try.prog Try.f3 false true false false) := by
  refine returnsInHanded_of_change (C := Try.checked) own started (by kernel_rfl) Try.func3
    (ChangeSpec.witness6 (enc := enc) (C := Try.checked) false ⟨#[], #[.int .i64 0, .slice none 0 0, .int .i64 0], []⟩ 8 (by kernel_rfl) (by kernel_rfl) (by kernel_rfl) (by kernel_rfl)) ?_
  intro W base args ds gs before hval0 hW hcnd _
  have hval : ∀ (j : Nat) t v, Try.f3.params[j]? = some t → args[j]? = some v → Value.okWide Try.prog W .any base t v := hval0
  have hW' := hW
  obtain ⟨p, q, hA0, hV, rfl, hfz, hnd⟩ := hW
  have hA : DataW.TrodAll enc Try.prog W 0 (fun _ => true) true Try.f3.params.toList args.toList ds p := hA0
  rw [Try.params3] at hA hval
  obtain ⟨v0, vs0, d0, ds0, p0, q0, hargs, rfl, rfl, h0, r0⟩ := trodAll_cons hA
  obtain ⟨v1, vs1, d1, ds1, p1, q1, rfl, rfl, rfl, h1, r1⟩ := trodAll_cons r0
  obtain ⟨v2, vs2, d2, ds2, p2, q2, rfl, rfl, rfl, h2, r2⟩ := trodAll_cons r1
  obtain ⟨rfl, rfl, rfl⟩ := trodAll_nil r2
  obtain rfl : args = #[v0, v1, v2] := by cases args; simp_all
  obtain ⟨rfl, rfl⟩ := trodVars_none hV
  obtain ⟨a0, rfl, rfl, rfl, f0⟩ := open_int Try.underlying2 (hval 0 2 v0 rfl rfl) h0
  obtain ⟨a1, len1, cap1, rfl⟩ := okWide_slice Try.underlying22 (hval 1 22 v1 rfl rfl)
  have k1 := h1
  have lt1 : ∀ x ∈ p1, x.block < W.heap.size := by obtain ⟨m, hm⟩ := k1; exact DataW.trod_lt m _ _ _ hm
  obtain ⟨z1, f1⟩ : ∃ zs, IsRow .i64 W a1 len1 cap1 zs := by
    obtain ⟨fuel, hf⟩ := h1
    rcases open_ints Try.underlying22 Try.underlying2 (by kernel_rfl) hf with ⟨hcs, _⟩ | ⟨x, l, c, zs, hcs, _, hl, hm, hz, _, hcell, hwz⟩
    · simp [Value.cells] at hcs
      obtain ⟨rfl, rfl, rfl⟩ := hcs
      exact ⟨[], .inl ⟨rfl, rfl, rfl, rfl⟩⟩
    · simp [Value.cells] at hcs
      obtain ⟨rfl, rfl, rfl⟩ := hcs
      exact ⟨zs, .inr ⟨_, rfl, hl, hm, by simpa using hz, hcell, hwz⟩⟩
  obtain ⟨a2, rfl, rfl, rfl, f2⟩ := open_int Try.underlying2 (hval 2 2 v2 rfl rfl) h2
  clear hA0 hval0
  refine (core a0 _ _ a2 W f1.rd (wf_bd f0) (wf_bd f2)).mono fun e W' ⟨he, bel⟩ => ?_
  subst he
  exact ⟨_, rfl, _, _, _, [], _, [], hW', trodAll_mk1 (shut_bool Try.underlying4 _), (trodAll_cons_mk (shut_int Try.underlying2 f0) (trodAll_cons_mk (Below.trod laidOut (by kernel_rfl) (of_decide_eq_true (by kernel_rfl)) k1 bel lt1) (trodAll_cons_mk (shut_int Try.underlying2 f2) trodAll_mk0))), rfl, bel.frame _, fun h => by cases h⟩

theorem over : Rows.fnExactWordPowerRow.holds Try.pinned (OpenSpec.ofChange Rows.fnExactWordPowerSpec) :=
  OpenClaim.holds_of_wide 3 Try.f3 rfl rfl rfl rfl rfl rfl rfl ⟨rfl, rfl, rfl, rfl, rfl⟩ rfl rfl rfl rfl rfl (by kernel_rfl) Try.func3 (by kernel_rfl)
    (of_decide_eq_true (by kernel_rfl)) (by unfold Func.isWrapper; first | (rw [if_pos (by decide +kernel)]; kernel_rfl) | (rw [if_neg (by decide +kernel)]; exact ⟨rfl, rfl⟩))
    (fun os started H enc _ => lifted os started H enc)

/-- The given statement. -/
theorem proved : Rows.FnExactWordPowerSaid := over
#print axioms proved
end Go.Proofs.Ythnpndheaailjaa.fnExactWordPower
