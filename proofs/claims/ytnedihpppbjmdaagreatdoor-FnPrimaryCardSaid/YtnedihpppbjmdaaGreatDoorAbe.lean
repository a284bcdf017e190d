/-
  The program's primary parts.
-/
import Derived.Test.YtnedihpppbjmdaaGreatDoorAbc
import Derived.Test.YtnedihpppbjmdaaGreatDoorAbd
namespace Go.Proofs.YtnedihpppbjmdaaGreatDoor
set_option linter.unusedVariables false
set_option linter.unusedSimpArgs false
set_option maxRecDepth 100000
open Go.RowKit

theorem fac_at {n0 j : Nat} (h0 : 1 ≤ n0) (h1 : n0 ≤ 1000000) (hj : j < (facN n0).length) : ∃ p e, (facN n0).getD j (0, 0) = (p, e) ∧ 1 ≤ p ∧ p ^ e ≤ 1000000 ∧ e ≤ 1000000 ∧ p ≤ 1000000 ∧ (nI ((facN n0).map (·.1))).getD j 0 = (p : Int) ∧ (nI ((facN n0).map (·.2))).getD j 0 = (e : Int) ∧ pw2 ((facN n0).take (j + 1)) = pw2 ((facN n0).take j) ++ [p ^ e] := by
  have hF := facN_ok h0 h1
  have hm : (facN n0).getD j (0, 0) ∈ facN n0 := by
    rw [List.getD_eq_getElem?_getD, List.getElem?_eq_getElem hj]; exact List.getElem_mem hj
  obtain ⟨a, _, c, m, r1, r2⟩ := hF.mem _ hm
  have hd := hF.dvd hm
  have hg1 : (nI ((facN n0).map (·.1))).getD j 0 = (((facN n0).getD j (0, 0)).1 : Int) := by
    rw [nI_getD, List.getD_eq_getElem?_getD, List.getElem?_map, List.getD_eq_getElem?_getD, List.getElem?_eq_getElem hj]; rfl
  have hg2 : (nI ((facN n0).map (·.2))).getD j 0 = (((facN n0).getD j (0, 0)).2 : Int) := by
    rw [nI_getD, List.getD_eq_getElem?_getD, List.getElem?_map, List.getD_eq_getElem?_getD, List.getElem?_eq_getElem hj]; rfl
  have ht : (facN n0).take (j + 1) = (facN n0).take j ++ [(facN n0).getD j (0, 0)] := by
    rw [List.take_add_one, List.getD_eq_getElem?_getD, List.getElem?_eq_getElem hj]; rfl
  have hle : ((facN n0).getD j (0, 0)).1 ^ ((facN n0).getD j (0, 0)).2 ≤ n0 := Nat.le_of_dvd (by omega) ⟨m, r1⟩
  generalize (facN n0).getD j (0, 0) = x at *
  obtain ⟨p, e⟩ := x
  have hp : 2 ≤ p := a.1
  have hpn : p ≤ n0 := Nat.le_of_dvd (by omega) hd
  have he : e < p ^ e := Nat.lt_pow_self (by omega)
  have hle2 : p ^ e ≤ n0 := hle
  refine ⟨p, e, rfl, by omega, by omega, by omega, by omega, hg1, hg2, ?_⟩
  rw [ht]; simp [pw2]
--== impl.primaryParts
set_option maxHeartbeats 16000000 in
theorem i_primaryParts (v : Value) (fs : List Nat) (r : Int) (w : World) (hv : Rd w v (nI fs)) (hf : ∀ f ∈ fs, 2 ≤ f ∧ f ≤ 1000000) (hn : fs.length ≤ 100) : Calls Tryz.prog 17 #[.agg #[v, .int .i64 r]] w (RetInts w (nI (sortP (parts fs)))) := by
  obtain ⟨i0, hi, hz0, hz1, hz2⟩ := info_parts Tryz.info2
  have HV := Lib.hid hv
  have HF := Lib.hid hf
  obtain ⟨ao, cap, rfl, _, _⟩ := hv.form
  rw [nI_length] at *
  obtain ⟨nf, hnf⟩ : ∃ n, fs.length = n := ⟨_, rfl⟩
  have HNF := Lib.hid hnf
  rw [hnf] at hn HV ⊢
  have HB0 := Lib.hid (below_alloc w (.cells #[.slice ao nf cap, .int .i64 r] 26))
  clear hv hf hnf
  go_enter Tryz.func17, Tryz.ntmps17
  go_wp2_with fail
  go_loopw [3, 13] (fun u iv wr => ∃ (i : Nat) (ps : List Int), iv = .int .i64 i ∧ i ≤ nf ∧ ps = nI (parts (fs.take i)) ∧ Ints wr w.heap.size u ps ∧ Below w.heap.size w wr) (fun _ iv _ => nf - (intOf iv).toNat)
  case atStart => exact ⟨0, [], rfl, Nat.zero_le _, by simp [parts, nI], Ints.nil _ _, HB0.out⟩
  case round =>
    obtain ⟨i, ps0, rfl, hin, hps, hI, hB⟩ := hrel
    have HPS := Lib.hid hps
    by_cases hlt : i < nf
    · obtain ⟨bf, of, rfl, hcell⟩ := (HV.out.below hB).at (j := i) (by rw [nI_length, HNF.out]; exact hlt)
      rw [nI_getD] at hcell
      have hfi := HF.out (fs.getD i 0) (getD_mem_nat (by rw [HNF.out]; exact hlt))
      have HPT : Hid (parts (fs.take (i + 1)) = parts (fs.take i) ++ prt (fs.getD i 0)) := parts_take (by rw [HNF.out]; exact hlt)
      have hl0 : ps0.length ≤ 1001 * 100 := by
        rw [hps, nI_length]
        have h := parts_len (fs.take i)
        rw [List.length_take] at h; omega
      have HI := Lib.hid hI
      have HB := Lib.hid hB
      clear hps hI hB
      generalize fs.getD i 0 = n0 at *
      obtain ⟨h0, h1⟩ := hfi
      go_wp2_with fail
      clear hcell
      refine (i_facW n0 wr (by omega) h1).mono ?_
      rintro e w1 ⟨v1, v2, rfl, hI1, hI2, hB1⟩
      obtain ⟨K, hK⟩ : ∃ K, (facN n0).length = K := ⟨_, rfl⟩
      have HK := Lib.hid hK
      have hK9 : K ≤ 1001 := by rw [← hK]; exact facJ_len 1001 n0 2
      obtain ⟨a1, c1, rfl, _, _⟩ := rd_formN hI1.rd (n := K) (by rw [nI_length, List.length_map, hK])
      obtain ⟨a2, c2, rfl, _, _⟩ := rd_formN hI2.rd (n := K) (by rw [nI_length, List.length_map, hK])
      have HI1 := Lib.hid hI1
      have HI2 := Lib.hid hI2
      have HU := Lib.hid (HI.out.below hB1.1)
      have hub := HI.out.lt
      have HA1 : Hid (∀ g, (Value.slice a1 K c1).ownBlock = some g → ¬ u3.ownBlock = some g) := fun g h1 h2 => by have := (hI1.lt g h1).1; have := (hub g h2).2; omega
      have HA2 : Hid (∀ g, (Value.slice a2 K c2).ownBlock = some g → ¬ u3.ownBlock = some g) := fun g h1 h2 => by have := (hI2.lt g h1).1; have := (hub g h2).2; omega
      have HB1 := Lib.hid (below_size HB.out hB1.1)
      have s1 := hB1.1.size
      have sB := HB.out.size
      clear hI1 hI2 hB1 hK HI HB hub
      go_wp2_with fail
      obtain ⟨wo, hwo⟩ : ∃ x, x = wr := ⟨_, rfl⟩
      subst hwo
      go_loopw [3, 24] (fun u jv wq => ∃ (j : Nat) (ps : List Int), jv = .int .i64 j ∧ j ≤ K ∧ ps = ps0 ++ nI (pw2 ((facN n0).take j)) ∧ Ints wq w.heap.size u ps ∧ Ints wq wo.heap.size (.slice a1 K c1) (nI ((facN n0).map (·.1))) ∧ Ints wq wo.heap.size (.slice a2 K c2) (nI ((facN n0).map (·.2))) ∧
        (∀ g, (Value.slice a1 K c1).ownBlock = some g → ¬ u.ownBlock = some g) ∧ (∀ g, (Value.slice a2 K c2).ownBlock = some g → ¬ u.ownBlock = some g) ∧ Below w.heap.size w wq) (fun _ jv _ => K - (intOf jv).toNat)
      case atStart => exact ⟨0, ps0, rfl, Nat.zero_le _, by simp [pw2, nI], HU.out, HI1.out, HI2.out, HA1.out, HA2.out, HB1.out⟩
      case round =>
        clear HU HI1 HI2 HA1 HA2 HB1
        obtain ⟨j, ps, rfl, hjK, hps, hU, hI1, hI2, hA1, hA2, hB⟩ := hrel
        have HPS2 := Lib.hid hps
        have hlp : ps.length ≤ 1001 * 100 + 1001 := by
          rw [hps, List.length_append, nI_length, pw2, List.length_map, List.length_take, HK.out]; omega
        have HA1 := Lib.hid hA1
        have HA2 := Lib.hid hA2
        have sB2 := hB.size
        clear hps hA1 hA2
        by_cases hj : j < K
        · obtain ⟨p, e, hpe, hp1, hpp, he9, hp9, hg1, hg2, htk⟩ := fac_at (n0 := n0) (j := j) (by omega) h1 (by rw [HK.out]; exact hj)
          obtain ⟨b1, o1, rfl, hc1⟩ := hI1.rd.at (j := j) (by rw [nI_length, List.length_map, HK.out]; exact hj)
          obtain ⟨b2, o2, rfl, hc2⟩ := hI2.rd.at (j := j) (by rw [nI_length, List.length_map, HK.out]; exact hj)
          rw [hg1] at hc1
          rw [hg2] at hc2
          have HTK := Lib.hid htk
          have HIP : Hid (∀ wx, Calls Tryz.prog 30 #[.int .i64 p, .int .i64 e] wx (RetV wx (.int .i64 ((p ^ e : Nat) : Int)))) := fun wx => i_intPow p e wx hp1 hpp he9
          have HU := Lib.hid hU
          have HI1 := Lib.hid hI1
          have HI2 := Lib.hid hI2
          have HB := Lib.hid hB
          clear hg1 hg2 htk hpe hU hI1 hI2 hB
          generalize p ^ e = x at *
          go_wp2_with fail
          refine (HIP.out _).mono ?_
          rintro e2 w3 ⟨rfl, hB3⟩
          have hU3 := HU.out.below hB3
          have hI13 := HI1.out.below hB3
          have hI23 := HI2.out.below hB3
          have s3 := hB3.size
          have HB3 := Lib.hid (below_size HB.out hB3)
          clear hB3 hc1 hc2 HU HI1 HI2 HIP
          go_wp2_with (at_builtin; refine wp_app1 _ rfl _ _ rfl w.heap.size i0 Tryz.underlying24 hi hz0 hz1 hz2 _ _ rfl hU3 (x : Int) rfl (by omega) (by omega) ?_)
          intro v4 w4 hU4 hG4 hB4
          have hI14 := hG4.ints' hI13 HA1.out
          have hI24 := hG4.ints' hI23 HA2.out
          have hA14 := hG4.apart hI13 HA1.out
          have hA24 := hG4.apart hI23 HA2.out
          have hB5 := HB3.out.trans hB4
          clear hG4 hB4 hU3 hI13 hI23
          go_wp2_with fail
          go_roundw
          case rel => exact ⟨j + 1, _, by go_num, by omega, by rw [HPS2.out, HTK.out]; simp [nI], hU4, hI14, hI24, hA14, hA24, hB5⟩
          case measure => simp [intOf]; omega
        · obtain rfl : j = K := by omega
          have HP2 : Hid (ps = nI (parts (fs.take (i + 1)))) := by
            show _ = _
            rw [HPT.out, HPS2.out, HPS.out, ← HK.out, List.take_length]
            simp [nI, pw2, prt]
          go_wp2_with fail
          go_roundw
          case rel => exact ⟨i + 1, _, by go_num, by omega, HP2.out, hU, hB⟩
          case measure => simp [intOf]; omega
    · obtain rfl : i = nf := by omega
      have HP2 : Hid (ps0 = nI (parts fs)) := by
        show _ = _
        rw [HPS.out, ← HNF.out, List.take_length]
      have HL : Hid ((parts fs).length ≤ 1000000) := by have h := parts_len fs; rw [HNF.out] at h; show _ ≤ _; omega
      obtain ⟨a1, n1, c1, rfl⟩ : ∃ a n c, u3 = .slice a n c := by obtain ⟨ao, c, e, _⟩ := hI.form; exact ⟨_, _, _, e⟩
      rw [hps, ← HPS.out, HP2.out] at hI
      have HS := Lib.hid (f_SortFunc hI (parts_ppw HF.out) HL.out)
      have HB := Lib.hid hB
      have HLT := Lib.hid hI.lt
      clear hI hps hB
      go_wp2_with fail
      refine HS.out.mono ?_
      rintro e w9 ⟨rfl, hI9, hG9⟩
      have HI9 := Lib.hid hI9
      have HB9 : Hid (Below w.heap.size w w9) := HB.out.trans ⟨hG9.os, hG9.tape, hG9.output, hG9.size, fun k hk => hG9.block k (Nat.lt_of_lt_of_le hk HB.out.size) (fun h => by have := (HLT.out k h.symm).1; omega)⟩
      clear hI9 hG9
      go_wp2_with fail
      go_ret
      exact ⟨_, rfl, HI9.out, HB9.out⟩
end Go.Proofs.YtnedihpppbjmdaaGreatDoor
