/-
  The law FnExactComposeBijections: for every input the call returns true, and each argument reads behind the call as it read before. No condition.
-/
import Derived.Test.YtbjmcphaniehiaaLaw
import Derived.Test.YtbjmcphaniehiaaBij
namespace Go.Proofs.Ytbjmcphaniehiaa.fnExactComposeBijections
open Go.ChangeShapes Go.WideShapes Go.ChangeAt Go.RowKit
open Go.ChangeMaps (open_string shut_string)
set_option linter.unusedVariables false

set_option maxHeartbeats 4000000 in
set_option maxRecDepth 100000 in
theorem core (vaA : Value) (aA : List Int) (vaB : Value) (aB : List Int) (w : World) (haA : Rd w vaA aA) (haB : Rd w vaB aB) :
    Calls Try.prog 8 #[vaA, vaB] w (RetV w (.bool true)) := by
  obtain ⟨aoaA, capaA, eaA, c1aA, c2aA, _⟩ := id haA
  obtain ⟨aoaB, capaB, eaB, c1aB, c2aB, _⟩ := id haB
  by_cases gaA : 1048576 < aA.length
  · subst eaA
    subst eaB
    go_enter Try.func8, Try.ntmps8
    go_wp2_with fail
    go_ret
    exact ⟨rfl, Below.refl _ _⟩
  by_cases gaB : 1048576 < aB.length
  · subst eaB
    subst eaA
    go_enter Try.func8, Try.ntmps8
    go_wp2_with fail
    go_ret
    exact ⟨rfl, Below.refl _ _⟩
  have laA : aA.length ≤ 1048576 := by omega
  have HGaA := Lib.hid gaA
  clear gaA
  subst eaA
  have HEaA := Lib.hid haA
  clear haA
  have laB : aB.length ≤ 1048576 := by omega
  have HGaB := Lib.hid gaB
  clear gaB
  subst eaB
  have HEaB := Lib.hid haB
  clear haB
  go_enter Try.func8, Try.ntmps8
  go_wp2_with fail
  refine (l_toInt64S _ aA _ HEaA.out (by omega)).mono ?_
  rintro e w1 ⟨vc1, rfl, hc1, hb⟩
  have hb0 := hb
  have s1 : w.heap.size ≤ w1.heap.size := hb.size
  have kc1 := hc1.blk
  clear hb
  go_wp2_with fail
  refine (l_toInt64S _ aB _ (HEaB.out.below hb0) (by omega)).mono ?_
  rintro e w2 ⟨vc2, rfl, hc2, hb⟩
  have hb0x := below_size hb0 hb
  clear hb0
  have hb0 := hb0x
  clear hb0x
  have s2 : w1.heap.size ≤ w2.heap.size := hb.size
  have t := hc1.below hb
  clear hc1
  have hc1 := t
  clear t
  have kc2 := hc2.blk
  clear hb
  go_wp2_with fail
  refine (s_ComposeBijections _ _ _ _ _ hc1.rd hc2.rd).mono ?_
  rintro e w3 ⟨vw0, rfl, hw0, hb⟩
  have hb0x := below_size hb0 hb
  clear hb0
  have hb0 := hb0x
  clear hb0x
  have s3 : w2.heap.size ≤ w3.heap.size := hb.size
  have t := hc1.below hb
  clear hc1
  have hc1 := t
  clear t
  have t := hc2.below hb
  clear hc2
  have hc2 := t
  clear t
  have kw0 := hw0.blk
  clear hb
  go_wp2_with fail
  refine (l_toInt64S _ aA _ (HEaA.out.below hb0) (by omega)).mono ?_
  rintro e w4 ⟨vc3, rfl, hc3, hb⟩
  have hb0x := below_size hb0 hb
  clear hb0
  have hb0 := hb0x
  clear hb0x
  have s4 : w3.heap.size ≤ w4.heap.size := hb.size
  have t := hc1.below hb
  clear hc1
  have hc1 := t
  clear t
  have t := hc2.below hb
  clear hc2
  have hc2 := t
  clear t
  have t := hw0.below hb
  clear hw0
  have hw0 := t
  clear t
  have kc3 := hc3.blk
  clear hb
  have llc3 : aA.length ≤ 1000000000 := by omega
  go_wp2_with fail
  refine (l_toInt64S _ aB _ (HEaB.out.below hb0) (by omega)).mono ?_
  rintro e w5 ⟨vc4, rfl, hc4, hb⟩
  have hb0x := below_size hb0 hb
  clear hb0
  have hb0 := hb0x
  clear hb0x
  have s5 : w4.heap.size ≤ w5.heap.size := hb.size
  have t := hc1.below hb
  clear hc1
  have hc1 := t
  clear t
  have t := hc2.below hb
  clear hc2
  have hc2 := t
  clear t
  have t := hw0.below hb
  clear hw0
  have hw0 := t
  clear t
  have t := hc3.below hb
  clear hc3
  have hc3 := t
  clear t
  have kc4 := hc4.blk
  clear hb
  have llc4 : aB.length ≤ 1000000000 := by omega
  go_wp2_with fail
  refine (i_ComposeBijections _ _ _ _ _ hc3.rd hc4.rd).mono ?_
  rintro e w6 ⟨vg0, rfl, hg0, hb⟩
  have hb0x := below_size hb0 hb
  clear hb0
  have hb0 := hb0x
  clear hb0x
  have s6 : w5.heap.size ≤ w6.heap.size := hb.size
  have t := hc1.below hb
  clear hc1
  have hc1 := t
  clear t
  have t := hc2.below hb
  clear hc2
  have hc2 := t
  clear t
  have t := hw0.below hb
  clear hw0
  have hw0 := t
  clear t
  have t := hc3.below hb
  clear hc3
  have hc3 := t
  clear t
  have t := hc4.below hb
  clear hc4
  have hc4 := t
  clear t
  have kg0 := hg0.blk
  have llg0 : _ ≤ 1000000000 := len_ComposeBijections aA aB
  clear hb
  go_wp2_with fail
  refine (l_eqInt64S_same _ _ _ _ hg0.rd hw0.rd).mono ?_
  rintro e w7 ⟨rfl, hb⟩
  have hb0x := below_size hb0 hb
  clear hb0
  have hb0 := hb0x
  clear hb0x
  have s7 : w6.heap.size ≤ w7.heap.size := hb.size
  have t := hc1.below hb
  clear hc1
  have hc1 := t
  clear t
  have t := hc2.below hb
  clear hc2
  have hc2 := t
  clear t
  have t := hw0.below hb
  clear hw0
  have hw0 := t
  clear t
  have t := hc3.below hb
  clear hc3
  have hc3 := t
  clear t
  have t := hc4.below hb
  clear hc4
  have hc4 := t
  clear t
  have t := hg0.below hb
  clear hg0
  have hg0 := t
  clear t
  clear hb
  go_wp2_with fail
  refine (l_toInt64S _ aA _ (HEaA.out.below hb0) (by omega)).mono ?_
  rintro e w8 ⟨vc5, rfl, hc5, hb⟩
  have hb0x := below_size hb0 hb
  clear hb0
  have hb0 := hb0x
  clear hb0x
  have s8 : w7.heap.size ≤ w8.heap.size := hb.size
  have t := hc1.below hb
  clear hc1
  have hc1 := t
  clear t
  have t := hc2.below hb
  clear hc2
  have hc2 := t
  clear t
  have t := hw0.below hb
  clear hw0
  have hw0 := t
  clear t
  have t := hc3.below hb
  clear hc3
  have hc3 := t
  clear t
  have t := hc4.below hb
  clear hc4
  have hc4 := t
  clear t
  have t := hg0.below hb
  clear hg0
  have hg0 := t
  clear t
  have kc5 := hc5.blk
  clear hb
  go_wp2_with fail
  refine (l_eqInt64S_same _ _ _ _ hc3.rd hc5.rd).mono ?_
  rintro e w9 ⟨rfl, hb⟩
  have hb0x := below_size hb0 hb
  clear hb0
  have hb0 := hb0x
  clear hb0x
  have s9 : w8.heap.size ≤ w9.heap.size := hb.size
  have t := hc1.below hb
  clear hc1
  have hc1 := t
  clear t
  have t := hc2.below hb
  clear hc2
  have hc2 := t
  clear t
  have t := hw0.below hb
  clear hw0
  have hw0 := t
  clear t
  have t := hc3.below hb
  clear hc3
  have hc3 := t
  clear t
  have t := hc4.below hb
  clear hc4
  have hc4 := t
  clear t
  have t := hg0.below hb
  clear hg0
  have hg0 := t
  clear t
  have t := hc5.below hb
  clear hc5
  have hc5 := t
  clear t
  clear hb
  clear hc5 kc5
  go_wp2_with fail
  refine (l_toInt64S _ aB _ (HEaB.out.below hb0) (by omega)).mono ?_
  rintro e w10 ⟨vc6, rfl, hc6, hb⟩
  have hb0x := below_size hb0 hb
  clear hb0
  have hb0 := hb0x
  clear hb0x
  have s10 : w9.heap.size ≤ w10.heap.size := hb.size
  have t := hc1.below hb
  clear hc1
  have hc1 := t
  clear t
  have t := hc2.below hb
  clear hc2
  have hc2 := t
  clear t
  have t := hw0.below hb
  clear hw0
  have hw0 := t
  clear t
  have t := hc3.below hb
  clear hc3
  have hc3 := t
  clear t
  have t := hc4.below hb
  clear hc4
  have hc4 := t
  clear t
  have t := hg0.below hb
  clear hg0
  have hg0 := t
  clear t
  have kc6 := hc6.blk
  clear hb
  go_wp2_with fail
  refine (l_eqInt64S_same _ _ _ _ hc4.rd hc6.rd).mono ?_
  rintro e w11 ⟨rfl, hb⟩
  have hb0x := below_size hb0 hb
  clear hb0
  have hb0 := hb0x
  clear hb0x
  have s11 : w10.heap.size ≤ w11.heap.size := hb.size
  have t := hc1.below hb
  clear hc1
  have hc1 := t
  clear t
  have t := hc2.below hb
  clear hc2
  have hc2 := t
  clear t
  have t := hw0.below hb
  clear hw0
  have hw0 := t
  clear t
  have t := hc3.below hb
  clear hc3
  have hc3 := t
  clear t
  have t := hc4.below hb
  clear hc4
  have hc4 := t
  clear t
  have t := hg0.below hb
  clear hg0
  have hg0 := t
  clear t
  have t := hc6.below hb
  clear hc6
  have hc6 := t
  clear t
  clear hb
  clear hc6 kc6
  go_wp2_with fail
  refine (l_markInt64S _ _ _ _ _ hc3 (by omega) (by omega) llc3).mono ?_
  rintro e w12 ⟨rfl, hnc3, hg, hsz⟩
  clear hsz hc3
  have hc3 := hnc3
  clear hnc3
  have s12 : w11.heap.size ≤ w12.heap.size := hg.grown.size
  have t := hg.below' hb0 kc3 (by omega)
  clear hb0
  have hb0 := t
  clear t
  have t := hg.ints hc1 kc1 kc3 (by omega)
  clear hc1
  have hc1 := t
  clear t
  have t := hg.ints hc2 kc2 kc3 (by omega)
  clear hc2
  have hc2 := t
  clear t
  have t := hg.ints hw0 kw0 kc3 (by omega)
  clear hw0
  have hw0 := t
  clear t
  have t := hg.ints hc4 kc4 kc3 (by omega)
  clear hc4
  have hc4 := t
  clear t
  have t := hg.ints hg0 kg0 kc3 (by omega)
  clear hg0
  have hg0 := t
  clear t
  clear hg
  go_wp2_with fail
  refine (l_markInt64S _ _ _ _ _ hc4 (by omega) (by omega) llc4).mono ?_
  rintro e w13 ⟨rfl, hnc4, hg, hsz⟩
  clear hsz hc4
  have hc4 := hnc4
  clear hnc4
  have s13 : w12.heap.size ≤ w13.heap.size := hg.grown.size
  have t := hg.below' hb0 kc4 (by omega)
  clear hb0
  have hb0 := t
  clear t
  have t := hg.ints hc1 kc1 kc4 (by omega)
  clear hc1
  have hc1 := t
  clear t
  have t := hg.ints hc2 kc2 kc4 (by omega)
  clear hc2
  have hc2 := t
  clear t
  have t := hg.ints hw0 kw0 kc4 (by omega)
  clear hw0
  have hw0 := t
  clear t
  have t := hg.ints hc3 kc3 kc4 (by omega)
  clear hc3
  have hc3 := t
  clear t
  have t := hg.ints hg0 kg0 kc4 (by omega)
  clear hg0
  have hg0 := t
  clear t
  clear hg
  go_wp2_with fail
  refine (l_eqInt64S_same _ _ _ _ hg0.rd hw0.rd).mono ?_
  rintro e w14 ⟨rfl, hb⟩
  have hb0x := below_size hb0 hb
  clear hb0
  have hb0 := hb0x
  clear hb0x
  have s14 : w13.heap.size ≤ w14.heap.size := hb.size
  have t := hc1.below hb
  clear hc1
  have hc1 := t
  clear t
  have t := hc2.below hb
  clear hc2
  have hc2 := t
  clear t
  have t := hw0.below hb
  clear hw0
  have hw0 := t
  clear t
  have t := hc3.below hb
  clear hc3
  have hc3 := t
  clear t
  have t := hc4.below hb
  clear hc4
  have hc4 := t
  clear t
  have t := hg0.below hb
  clear hg0
  have hg0 := t
  clear t
  clear hb
  go_wp2_with fail
  refine (l_markInt64S _ _ _ _ _ hg0 (by omega) (by omega) llg0).mono ?_
  rintro e w15 ⟨rfl, hng0, hg, hsz⟩
  clear hsz hg0
  have hg0 := hng0
  clear hng0
  have s15 : w14.heap.size ≤ w15.heap.size := hg.grown.size
  have t := hg.below' hb0 kg0 (by omega)
  clear hb0
  have hb0 := t
  clear t
  have t := hg.ints hc1 kc1 kg0 (by omega)
  clear hc1
  have hc1 := t
  clear t
  have t := hg.ints hc2 kc2 kg0 (by omega)
  clear hc2
  have hc2 := t
  clear t
  have t := hg.ints hw0 kw0 kg0 (by omega)
  clear hw0
  have hw0 := t
  clear t
  have t := hg.ints hc3 kc3 kg0 (by omega)
  clear hc3
  have hc3 := t
  clear t
  have t := hg.ints hc4 kc4 kg0 (by omega)
  clear hc4
  have hc4 := t
  clear t
  clear hg
  go_wp2_with fail
  refine (l_heldInt64S _ _ _ _ hg0.rd (by omega) (by omega) llg0).mono ?_
  rintro e w' ⟨rfl, rfl⟩
  go_wp2_with fail
  refine (l_toInt64S _ aA _ (HEaA.out.below hb0) (by omega)).mono ?_
  rintro e w16 ⟨vc7, rfl, hc7, hb⟩
  have hb0x := below_size hb0 hb
  clear hb0
  have hb0 := hb0x
  clear hb0x
  have s16 : w15.heap.size ≤ w16.heap.size := hb.size
  have t := hc1.below hb
  clear hc1
  have hc1 := t
  clear t
  have t := hc2.below hb
  clear hc2
  have hc2 := t
  clear t
  have t := hw0.below hb
  clear hw0
  have hw0 := t
  clear t
  have t := hc3.below hb
  clear hc3
  have hc3 := t
  clear t
  have t := hc4.below hb
  clear hc4
  have hc4 := t
  clear t
  have t := hg0.below hb
  clear hg0
  have hg0 := t
  clear t
  have kc7 := hc7.blk
  clear hb
  go_wp2_with fail
  refine (l_toInt64S _ aB _ (HEaB.out.below hb0) (by omega)).mono ?_
  rintro e w17 ⟨vc8, rfl, hc8, hb⟩
  have hb0x := below_size hb0 hb
  clear hb0
  have hb0 := hb0x
  clear hb0x
  have s17 : w16.heap.size ≤ w17.heap.size := hb.size
  have t := hc1.below hb
  clear hc1
  have hc1 := t
  clear t
  have t := hc2.below hb
  clear hc2
  have hc2 := t
  clear t
  have t := hw0.below hb
  clear hw0
  have hw0 := t
  clear t
  have t := hc3.below hb
  clear hc3
  have hc3 := t
  clear t
  have t := hc4.below hb
  clear hc4
  have hc4 := t
  clear t
  have t := hg0.below hb
  clear hg0
  have hg0 := t
  clear t
  have t := hc7.below hb
  clear hc7
  have hc7 := t
  clear t
  have kc8 := hc8.blk
  clear hb
  go_wp2_with fail
  refine (i_ComposeBijections _ _ _ _ _ hc7.rd hc8.rd).mono ?_
  rintro e w18 ⟨vh0, rfl, hh0, hb⟩
  have hb0x := below_size hb0 hb
  clear hb0
  have hb0 := hb0x
  clear hb0x
  have s18 : w17.heap.size ≤ w18.heap.size := hb.size
  have t := hc1.below hb
  clear hc1
  have hc1 := t
  clear t
  have t := hc2.below hb
  clear hc2
  have hc2 := t
  clear t
  have t := hw0.below hb
  clear hw0
  have hw0 := t
  clear t
  have t := hc3.below hb
  clear hc3
  have hc3 := t
  clear t
  have t := hc4.below hb
  clear hc4
  have hc4 := t
  clear t
  have t := hg0.below hb
  clear hg0
  have hg0 := t
  clear t
  have t := hc7.below hb
  clear hc7
  have hc7 := t
  clear t
  have t := hc8.below hb
  clear hc8
  have hc8 := t
  clear t
  have kh0 := hh0.blk
  have llh0 : _ ≤ 1000000000 := len_ComposeBijections aA aB
  clear hb
  go_wp2_with fail
  refine (l_eqInt64S_same _ _ _ _ hh0.rd hw0.rd).mono ?_
  rintro e w19 ⟨rfl, hb⟩
  have hb0x := below_size hb0 hb
  clear hb0
  have hb0 := hb0x
  clear hb0x
  have s19 : w18.heap.size ≤ w19.heap.size := hb.size
  have t := hc1.below hb
  clear hc1
  have hc1 := t
  clear t
  have t := hc2.below hb
  clear hc2
  have hc2 := t
  clear t
  have t := hw0.below hb
  clear hw0
  have hw0 := t
  clear t
  have t := hc3.below hb
  clear hc3
  have hc3 := t
  clear t
  have t := hc4.below hb
  clear hc4
  have hc4 := t
  clear t
  have t := hg0.below hb
  clear hg0
  have hg0 := t
  clear t
  have t := hc7.below hb
  clear hc7
  have hc7 := t
  clear t
  have t := hc8.below hb
  clear hc8
  have hc8 := t
  clear t
  have t := hh0.below hb
  clear hh0
  have hh0 := t
  clear t
  clear hb
  go_wp2_with fail
  refine (l_heldInt64S _ _ _ _ hg0.rd (by omega) (by omega) llg0).mono ?_
  rintro e w' ⟨rfl, rfl⟩
  go_wp2_with fail
  go_ret
  exact ⟨rfl, hb0⟩

theorem own : ownKnob Try.prog.godebug = none := by kernel_rfl
theorem laidOut : laidOutB Try.prog = true := by kernel_rfl

set_option maxRecDepth 100000 in
theorem lifted (os : Os) (started : os.Started) (H : Type) (enc : TypeId × Value → H) :
    ReturnsInHanded {} Try.checked os 8 .any (Rows.fnExactComposeBijectionsSpec.pre6 enc Try.prog Try.f8 Rows.fnExactComposeBijectionsRow.domain false) (Rows.fnExactComposeBijectionsSpec.post enc Try.prog Try.f8 false true false false) := by
  refine returnsInHanded_of_change (C := Try.checked) own started (by kernel_rfl) Try.func8
    (ChangeSpec.witness6 (enc := enc) (C := Try.checked) false ⟨#[], #[.slice none 0 0, .slice none 0 0], []⟩ 8 (by kernel_rfl) (by kernel_rfl) (by kernel_rfl) (by kernel_rfl)) ?_
  intro W base args ds gs before hval0 hW hcnd _
  have hval : ∀ (j : Nat) t v, Try.f8.params[j]? = some t → args[j]? = some v → Value.okWide Try.prog W .any base t v := hval0
  have hW' := hW
  obtain ⟨p, q, hA0, hV, rfl, hfz, hnd⟩ := hW
  have hA : DataW.TrodAll enc Try.prog W 0 (fun _ => true) true Try.f8.params.toList args.toList ds p := hA0
  rw [Try.params8] at hA hval
  obtain ⟨v0, vs0, d0, ds0, p0, q0, hargs, rfl, rfl, h0, r0⟩ := trodAll_cons hA
  obtain ⟨v1, vs1, d1, ds1, p1, q1, rfl, rfl, rfl, h1, r1⟩ := trodAll_cons r0
  obtain ⟨rfl, rfl, rfl⟩ := trodAll_nil r1
  obtain rfl : args = #[v0, v1] := by cases args; simp_all
  obtain ⟨rfl, rfl⟩ := trodVars_none hV
  obtain ⟨a0, len0, cap0, rfl⟩ := okWide_slice Try.underlying22 (hval 0 22 v0 rfl rfl)
  have k0 := h0
  have lt0 : ∀ x ∈ p0, x.block < W.heap.size := by obtain ⟨m, hm⟩ := k0; exact DataW.trod_lt m _ _ _ hm
  obtain ⟨z0, f0⟩ : ∃ zs, IsRow .i64 W a0 len0 cap0 zs := by
    obtain ⟨fuel, hf⟩ := h0
    rcases open_ints Try.underlying22 Try.underlying2 (by kernel_rfl) hf with ⟨hcs, _⟩ | ⟨x, l, c, zs, hcs, _, hl, hm, hz, _, hcell, hwz⟩
    · simp [Value.cells] at hcs
      obtain ⟨rfl, rfl, rfl⟩ := hcs
      exact ⟨[], .inl ⟨rfl, rfl, rfl, rfl⟩⟩
    · simp [Value.cells] at hcs
      obtain ⟨rfl, rfl, rfl⟩ := hcs
      exact ⟨zs, .inr ⟨_, rfl, hl, hm, by simpa using hz, hcell, hwz⟩⟩
  obtain ⟨a1, len1, cap1, rfl⟩ := okWide_slice Try.underlying22 (hval 1 22 v1 rfl rfl)
  have k1 := h1
  have lt1 : ∀ x ∈ p1, x.block < W.heap.size := by obtain ⟨m, hm⟩ := k1; exact DataW.trod_lt m _ _ _ hm
  obtain ⟨z1, f1⟩ : ∃ zs, IsRow .i64 W a1 len1 cap1 zs := by
    obtain ⟨fuel, hf⟩ := h1
    rcases open_ints Try.underlying22 Try.underlying2 (by kernel_rfl) hf with ⟨hcs, _⟩ | ⟨x, l, c, zs, hcs, _, hl, hm, hz, _, hcell, hwz⟩
    · simp [Value.cells] at hcs
      obtain ⟨rfl, rfl, rfl⟩ := hcs
      exact ⟨[], .inl ⟨rfl, rfl, rfl, rfl⟩⟩
    · simp [Value.cells] at hcs
      obtain ⟨rfl, rfl, rfl⟩ := hcs
      exact ⟨zs, .inr ⟨_, rfl, hl, hm, by simpa using hz, hcell, hwz⟩⟩
  clear hA0 hval0
  refine (core _ _ _ _ W f0.rd f1.rd).mono fun e W' ⟨he, bel⟩ => ?_
  subst he
  exact ⟨_, rfl, _, _, _, [], _, [], hW', trodAll_mk1 (shut_bool Try.underlying4 _), (trodAll_cons_mk (Below.trod laidOut (by kernel_rfl) (of_decide_eq_true (by kernel_rfl)) k0 bel lt0) (trodAll_cons_mk (Below.trod laidOut (by kernel_rfl) (of_decide_eq_true (by kernel_rfl)) k1 bel lt1) trodAll_mk0)), rfl, bel.frame _, fun h => by cases h⟩

theorem over : Rows.fnExactComposeBijectionsRow.holds Try.pinned (OpenSpec.ofChange Rows.fnExactComposeBijectionsSpec) :=
  OpenClaim.holds_of_wide 8 Try.f8 rfl rfl rfl rfl rfl rfl rfl ⟨rfl, rfl, rfl, rfl, rfl⟩ rfl rfl rfl rfl rfl (by kernel_rfl) Try.func8 (by kernel_rfl)
    (of_decide_eq_true (by kernel_rfl)) (by unfold Func.isWrapper; first | (rw [if_pos (by decide +kernel)]; kernel_rfl) | (rw [if_neg (by decide +kernel)]; exact ⟨rfl, rfl⟩))
    (fun os started H enc _ => lifted os started H enc)

/-- The given statement. -/
theorem proved : Rows.FnExactComposeBijectionsSaid := over
#print axioms proved
end Go.Proofs.Ytbjmcphaniehiaa.fnExactComposeBijections
