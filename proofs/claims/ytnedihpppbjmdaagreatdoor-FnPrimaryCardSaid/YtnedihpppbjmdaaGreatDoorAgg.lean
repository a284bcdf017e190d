/-
  The program's group out of given primary parts.
-/
import Derived.Test.YtnedihpppbjmdaaGreatDoorAbm
import Derived.Test.YtnedihpppbjmdaaGreatDoorPre
import Derived.Test.YtnedihpppbjmdaaGreatDoorAbj
namespace Go.Proofs.YtnedihpppbjmdaaGreatDoor
set_option linter.unusedVariables false
set_option linter.unusedSimpArgs false
set_option maxRecDepth 100000
open Go.RowKit

--== impl.FromPrimary
set_option maxHeartbeats 8000000 in
theorem i_FromPrimary (v : Value) (S : List Nat) (w : World) (hv : Rd w v (nI S)) (hS : ∀ q ∈ S, PPw q) (hn : S.length ≤ 100) : Calls Tryz.prog 13 #[v] w (RetAb w (SumO S 0)) := by
  have HV := Lib.hid hv
  have HS := Lib.hid hS
  have HFP : Hid (∀ wx, Below w.heap.size w wx → Calls Tryz.prog 27 #[v, .int .i64 0] wx (RetAb wx (SumO S 0))) := fun wx hb => i_fromPrimary v S 0 wx (hv.below hb) hS (by omega) (by omega) (by omega)
  obtain ⟨ao, cap, rfl, _, _⟩ := hv.form
  rw [nI_length] at *
  obtain ⟨nS, hnS⟩ : ∃ n, S.length = n := ⟨_, rfl⟩
  have HN := Lib.hid hnS
  rw [hnS] at hn HV HFP ⊢
  have HB0 := Lib.hid (below_alloc w (.cells #[.slice none 0 0, .int .i64 0] 26))
  have HX0 := Lib.hid (B2.new w (.slice none 0 0) (.int .i64 0))
  clear hv hS hnS
  go_enter Tryz.func13, Tryz.ntmps13
  go_wp2_with fail
  go_loopw [10] (fun iv wr => ∃ i : Nat, iv = .int .i64 i ∧ i ≤ nS ∧ Below w.heap.size w wr ∧ B2 wr w.heap.size (.slice none 0 0) (.int .i64 0)) (fun iv _ => nS - (intOf iv).toNat)
  case atStart => exact ⟨0, rfl, Nat.zero_le _, HB0.out, HX0.out⟩
  case round =>
    clear HB0 HX0
    obtain ⟨i, rfl, hin, hB, hX⟩ := hrel
    have HB := Lib.hid hB
    have HX := Lib.hid hX
    clear hX
    by_cases hlt : i < nS
    · obtain ⟨b0, o0, rfl, hc⟩ := (HV.out.below hB).at (j := i) (by rw [nI_length, HN.out]; exact hlt)
      rw [nI_getD] at hc
      have hq := HS.out (S.getD i 0) (getD_mem_nat (by rw [HN.out]; exact hlt))
      have hq1 : 2 ≤ S.getD i 0 ∧ S.getD i 0 ≤ 1000000 := ⟨hq.two, hq.1⟩
      have HFC : Hid ((facN (S.getD i 0)).length = 1) := by
        obtain ⟨e, _, _, _, h⟩ := hq.ex
        show _ = _
        rw [h]; rfl
      clear hq hB
      generalize S.getD i 0 = q at *
      have HIN := Lib.hid (i_insideB (q : Int) 2 1000000 wr true (by symm; rw [decide_eq_true_eq]; omega))
      go_wp2_with fail
      clear hc
      refine HIN.out.mono ?_
      rintro e w1 ⟨rfl, hw⟩
      have HB1 : Hid (Below w.heap.size w w1) := by rw [hw]; exact HB.out
      have HX1 : Hid (B2 w1 w.heap.size (.slice none 0 0) (.int .i64 0)) := by rw [hw]; exact HX.out
      clear hw
      go_wp2_with fail
      refine (i_facW q w1 (by omega) hq1.2).mono ?_
      rintro e w2 ⟨v1, v2, rfl, hI1, hI2, hB2⟩
      obtain ⟨a1, c1, rfl, _, _⟩ := rd_formN hI1.rd (n := 1) (by rw [nI_length, List.length_map, HFC.out])
      obtain ⟨a2, c2, rfl, _, _⟩ := rd_formN hI2.rd (n := 1) (by rw [nI_length, List.length_map, HFC.out])
      have HB2 := Lib.hid (below_size HB1.out hB2.1)
      have HX2 := Lib.hid (HX1.out.below hB2.1 HX1.out.lt)
      clear hI1 hI2 hB2 HB1 HX1
      go_wp2_with fail
      go_roundw
      case rel => exact ⟨i + 1, by go_num, by omega, HB2.out, HX2.out⟩
      case measure => simp [intOf]; omega
    · obtain rfl : nS = i := by omega
      clear hB
      go_wp2_with fail
      refine (HFP.out _ HB.out).mono ?_
      rintro e w9 ⟨v9, fs, r9, k9, rfl, hR9, hO9, hB9⟩
      obtain ⟨a9, n9, c9, rfl⟩ : ∃ a n c, v9 = Value.slice a n c := by obtain ⟨ao, c, e, _⟩ := hR9.form; exact ⟨_, _, _, e⟩
      have hx9 := HX.out.below hB9 HX.out.lt
      have z0 := hx9.c0
      have z1 := hx9.c1
      have f0 := hx9.f 0
      have f1 := hx9.f 1
      have q := hx9.set (.slice a9 n9 c9) (.int .i64 r9)
      have q0 := q.c0
      have q1 := q.c1
      have HB9 := Lib.hid (below_size HB.out hB9)
      have HR9 := Lib.hid hR9
      have HO9 := Lib.hid hO9
      have hsz := HX.out.lt
      clear hR9 hO9 hB9 hx9 q
      go_wp2_with fail
      refine bodyPost_ret (v := .tuple #[.agg #[.slice a9 n9 c9, .int .i64 r9], .int .i64 k9]) (by simp [results, Tryz.results13, go_sem, q0, q1]) rfl ?_
      exact ⟨_, fs, r9, k9, rfl, (HR9.out.chg (chg_set2 _ _ _ _) fun g hg => .inr (by have := (HR9.out.lt g hg).1; omega)).mono (by omega), HO9.out, below_set2 HB9.out (Nat.le_refl _) _ _⟩
/-- the parts of a group give the group back -/
theorem from_parts {fa : List Nat} {ra : Int} (ha : abP fa ra) {fs : List Nat} {r k : Int} (h : SumO (sortP (parts fa)) 0 fs r k) : fs = fa ∧ r = 0 ∧ k = 0 := by
  have h1 : SumO (parts fa) 0 fs r k := SumO.perm (sortP_perm _) h
  have e := col_parts ha.chn
  have hab : abP (colS (parts fa)).reverse 0 := by rw [e]; exact ⟨Int.le_refl _, by have := ha.1; have := ha.2.1; omega, ha.2.2⟩
  have hok : okU (colS (parts fa)) := fun y hy => (ha.chn.1 y (by rw [← e]; exact List.mem_reverse.2 hy)).2
  rcases h1 with ⟨_, _, a, b, c⟩ | ⟨a, _⟩
  · exact ⟨a.trans e, b, c⟩
  · exact (a ⟨hok, hab⟩).elim
end Go.Proofs.YtnedihpppbjmdaaGreatDoor
