/-
  The law FnExactIsBijection: for every input the call returns true, and each argument reads behind the call as it read before. No condition.
-/
import Derived.Test.YtbjmcphaniehiaaLaw
import Derived.Test.YtbjmcphaniehiaaBij
namespace Go.Proofs.Ytbjmcphaniehiaa.fnExactIsBijection
open Go.ChangeShapes Go.WideShapes Go.ChangeAt Go.RowKit
open Go.ChangeMaps (open_string shut_string)
set_option linter.unusedVariables false

set_option maxHeartbeats 4000000 in
set_option maxRecDepth 100000 in
theorem core (vaA : Value) (aA : List Int) (w : World) (haA : Rd w vaA aA) :
    Calls Try.prog 4 #[vaA] w (RetV w (.bool true)) := by
  obtain ⟨aoaA, capaA, eaA, c1aA, c2aA, _⟩ := id haA
  by_cases gaA : 1048576 < aA.length
  · subst eaA
    go_enter Try.func4, Try.ntmps4
    go_wp2_with fail
    go_ret
    exact ⟨rfl, Below.refl _ _⟩
  have laA : aA.length ≤ 1048576 := by omega
  have HGaA := Lib.hid gaA
  clear gaA
  subst eaA
  have HEaA := Lib.hid haA
  clear haA
  go_enter Try.func4, Try.ntmps4
  go_wp2_with fail
  refine (l_toInt64S _ aA _ HEaA.out (by omega)).mono ?_
  rintro e w1 ⟨vc1, rfl, hc1, hb⟩
  have hb0 := hb
  have s1 : w.heap.size ≤ w1.heap.size := hb.size
  have kc1 := hc1.blk
  clear hb
  go_wp2_with fail
  refine (s_IsBijection _ _ _ hc1.rd).mono ?_
  rintro e w2 ⟨rfl, hb⟩
  have hb0x := below_size hb0 hb
  clear hb0
  have hb0 := hb0x
  clear hb0x
  have s2 : w1.heap.size ≤ w2.heap.size := hb.size
  have t := hc1.below hb
  clear hc1
  have hc1 := t
  clear t
  clear hb
  go_wp2_with fail
  refine (l_toInt64S _ aA _ (HEaA.out.below hb0) (by omega)).mono ?_
  rintro e w3 ⟨vc2, rfl, hc2, hb⟩
  have hb0x := below_size hb0 hb
  clear hb0
  have hb0 := hb0x
  clear hb0x
  have s3 : w2.heap.size ≤ w3.heap.size := hb.size
  have t := hc1.below hb
  clear hc1
  have hc1 := t
  clear t
  have kc2 := hc2.blk
  clear hb
  have llc2 : aA.length ≤ 1000000000 := by omega
  go_wp2_with fail
  refine (i_IsBijection _ _ _ hc2.rd).mono ?_
  rintro e w4 ⟨rfl, hb⟩
  have hb0x := below_size hb0 hb
  clear hb0
  have hb0 := hb0x
  clear hb0x
  have s4 : w3.heap.size ≤ w4.heap.size := hb.size
  have t := hc1.below hb
  clear hc1
  have hc1 := t
  clear t
  have t := hc2.below hb
  clear hc2
  have hc2 := t
  clear t
  clear hb
  go_wp2_with fail
  refine (l_toInt64S _ aA _ (HEaA.out.below hb0) (by omega)).mono ?_
  rintro e w5 ⟨vc3, rfl, hc3, hb⟩
  have hb0x := below_size hb0 hb
  clear hb0
  have hb0 := hb0x
  clear hb0x
  have s5 : w4.heap.size ≤ w5.heap.size := hb.size
  have t := hc1.below hb
  clear hc1
  have hc1 := t
  clear t
  have t := hc2.below hb
  clear hc2
  have hc2 := t
  clear t
  have kc3 := hc3.blk
  clear hb
  go_wp2_with fail
  refine (l_eqInt64S_same _ _ _ _ hc2.rd hc3.rd).mono ?_
  rintro e w6 ⟨rfl, hb⟩
  have hb0x := below_size hb0 hb
  clear hb0
  have hb0 := hb0x
  clear hb0x
  have s6 : w5.heap.size ≤ w6.heap.size := hb.size
  have t := hc1.below hb
  clear hc1
  have hc1 := t
  clear t
  have t := hc2.below hb
  clear hc2
  have hc2 := t
  clear t
  have t := hc3.below hb
  clear hc3
  have hc3 := t
  clear t
  clear hb
  clear hc3 kc3
  go_wp2_with fail
  go_ret
  exact ⟨rfl, hb0⟩

theorem own : ownKnob Try.prog.godebug = none := by kernel_rfl
theorem laidOut : laidOutB Try.prog = true := by kernel_rfl

set_option maxRecDepth 100000 in
theorem lifted (os : Os) (started : os.Started) (H : Type) (enc : TypeId × Value → H) :
    ReturnsInHanded {} Try.checked os 4 .any (Rows.fnExactIsBijectionSpec.pre6 enc Try.prog Try.f4 Rows.fnExactIsBijectionRow.domain false) (Rows.fnExactIsBijectionSpec.post enc Try.prog Try.f4 false true false false) := by
  refine returnsInHanded_of_change (C := Try.checked) own started (by kernel_rfl) Try.func4
    (ChangeSpec.witness6 (enc := enc) (C := Try.checked) false ⟨#[], #[.slice none 0 0], []⟩ 8 (by kernel_rfl) (by kernel_rfl) (by kernel_rfl) (by kernel_rfl)) ?_
  intro W base args ds gs before hval0 hW hcnd _
  have hval : ∀ (j : Nat) t v, Try.f4.params[j]? = some t → args[j]? = some v → Value.okWide Try.prog W .any base t v := hval0
  have hW' := hW
  obtain ⟨p, q, hA0, hV, rfl, hfz, hnd⟩ := hW
  have hA : DataW.TrodAll enc Try.prog W 0 (fun _ => true) true Try.f4.params.toList args.toList ds p := hA0
  rw [Try.params4] at hA hval
  obtain ⟨v0, vs0, d0, ds0, p0, q0, hargs, rfl, rfl, h0, r0⟩ := trodAll_cons hA
  obtain ⟨rfl, rfl, rfl⟩ := trodAll_nil r0
  obtain rfl : args = #[v0] := by cases args; simp_all
  obtain ⟨rfl, rfl⟩ := trodVars_none hV
  obtain ⟨a0, len0, cap0, rfl⟩ := okWide_slice Try.underlying22 (hval 0 22 v0 rfl rfl)
  have k0 := h0
  have lt0 : ∀ x ∈ p0, x.block < W.heap.size := by obtain ⟨m, hm⟩ := k0; exact DataW.trod_lt m _ _ _ hm
  obtain ⟨z0, f0⟩ : ∃ zs, IsRow .i64 W a0 len0 cap0 zs := by
    obtain ⟨fuel, hf⟩ := h0
    rcases open_ints Try.underlying22 Try.underlying2 (by kernel_rfl) hf with ⟨hcs, _⟩ | ⟨x, l, c, zs, hcs, _, hl, hm, hz, _, hcell, hwz⟩
    · simp [Value.cells] at hcs
      obtain ⟨rfl, rfl, rfl⟩ := hcs
      exact ⟨[], .inl ⟨rfl, rfl, rfl, rfl⟩⟩
    · simp [Value.cells] at hcs
      obtain ⟨rfl, rfl, rfl⟩ := hcs
      exact ⟨zs, .inr ⟨_, rfl, hl, hm, by simpa using hz, hcell, hwz⟩⟩
  clear hA0 hval0
  refine (core _ _ W f0.rd).mono fun e W' ⟨he, bel⟩ => ?_
  subst he
  exact ⟨_, rfl, _, _, _, [], _, [], hW', trodAll_mk1 (shut_bool Try.underlying4 _), (trodAll_cons_mk (Below.trod laidOut (by kernel_rfl) (of_decide_eq_true (by kernel_rfl)) k0 bel lt0) trodAll_mk0), rfl, bel.frame _, fun h => by cases h⟩

theorem over : Rows.fnExactIsBijectionRow.holds Try.pinned (OpenSpec.ofChange Rows.fnExactIsBijectionSpec) :=
  OpenClaim.holds_of_wide 4 Try.f4 rfl rfl rfl rfl rfl rfl rfl ⟨rfl, rfl, rfl, rfl, rfl⟩ rfl rfl rfl rfl rfl (by kernel_rfl) Try.func4 (by kernel_rfl)
    (of_decide_eq_true (by kernel_rfl)) (by unfold Func.isWrapper; first | (rw [if_pos (by decide +kernel)]; kernel_rfl) | (rw [if_neg (by decide +kernel)]; exact ⟨rfl, rfl⟩))
    (fun os started H enc _ => lifted os started H enc)

/-- The given statement. -/
theorem proved : Rows.FnExactIsBijectionSaid := over
#print axioms proved
end Go.Proofs.Ytbjmcphaniehiaa.fnExactIsBijection
