/-
  IsRealisation: the reference's side.
-/
import Derived.Test.YthnpndheaailjaaIrl
import Derived.Test.YthnpndheaailjaaOrd
import Derived.Test.YthnpndheaailjaaLev
namespace Go.Proofs.Ythnpndheaailjaa
set_option linter.unusedVariables false
set_option linter.unusedSimpArgs false
set_option maxRecDepth 100000
open Go.RowKit

--== spec.l11Reach
set_option maxHeartbeats 8000000 in
theorem s_l11Reach (vl : Value) (l : List (List Int)) (N : Nat) (w : World) (hl : Rd2 w vl l) (hs : sizedB N l = true) (hN1 : 1 ≤ N) (hN : N ≤ 128) (hl6 : l.length ≤ 6) :
    Calls Try.prog 143 #[vl, .int .i64 N] w (RetV w (.int .i64 (rcN l))) := by
  obtain ⟨i0, hi, hz0, hz1, hz2⟩ := info_parts Try.info2
  obtain ⟨ib, hbi, hbz0, hbz1, hbz2⟩ := info_parts Try.infoBool
  have HL := Lib.hid hl
  have HSZ := Lib.hid hs
  obtain ⟨al, cl, rfl, _, _⟩ := hl.form
  clear hl hs
  go_enter Try.func143, Try.ntmps143
  go_wp2_with (at_make; refine wp_mkBools _ rfl _ _ rfl ib Try.underlying145 hbi hbz0 hbz1 hbz2 _ _ _ _ N rfl rfl rfl rfl (by omega) ?_)
  intro w1 hS hB1 hlt1
  rw [← seenL_zero] at hS
  obtain ⟨hc0, hf0⟩ := hS.cell (by rw [seenL_length]) 0 (by omega)
  obtain ⟨hS2, hC2⟩ := hS.set (by rw [seenL_length]) 0 true
  rw [show (0 : Nat) = 0 from rfl, seenL_snoc N [] (m := 0) (by omega)] at hS2
  have hB2 := hB1.trans (hC2.below (Nat.le_refl _) (by omega))
  clear hS hB1 hC2
  go_wp2_with fail
  have sz2 : w.heap.size < (w1.setCell ⟨w.heap.size, 0, none⟩ (.bool true)).heap.size := by simpa using hlt1
  have hS3 : Bools ((w1.setCell ⟨w.heap.size, 0, none⟩ (.bool true)).alloc (.cells #[.int .i64 0] 2)) w.heap.size (.slice (some ⟨w.heap.size, 0, none⟩) N N) (seenL N [0]) := own_below hS2 (below_alloc _ _)
  have hI3 := (Ints.lit1 (w1.setCell ⟨w.heap.size, 0, none⟩ (.bool true)) 0).mono (B' := w.heap.size + 1) (by omega)
  have hB3 := hB2.alloc (Nat.le_of_lt sz2) (.cells #[.int .i64 0] 2)
  clear hS2 hB2 hc0 hf0
  go_loopw [6, 7] (fun u i wq => ∃ k : Nat, k ≤ N ∧ i = .int .i64 k ∧ (∀ j, j < k → j < (rcTo l j).length) ∧ Ints wq (w.heap.size + 1) u (rcTo l k) ∧ Bools wq w.heap.size (.slice (some ⟨w.heap.size, 0, none⟩) N N) (seenL N (rcTo l k)) ∧ Below w.heap.size w wq) (fun _ i _ => N - (intOf i).toNat)
  case atStart => exact ⟨0, Nat.zero_le _, rfl, fun j hj => by omega, by simpa [rcTo] using hI3, hS3, hB3⟩
  case round =>
    clear hS3 hI3 hB3 sz2
    obtain ⟨k, hkN, rfl, hall, hI, hS, hB⟩ := hrel
    obtain ⟨wq, hwq⟩ : ∃ x, x = wr := ⟨_, rfl⟩
    subst hwq
    have HA3 := Lib.hid hall
    have HOK := Lib.hid (rcTo_ok hN1 HSZ.out k hall)
    have hlen := HOK.out.len
    have hmore := rc_more hall
    clear hall
    by_cases hlt : k < (rcTo l k).length
    · obtain ⟨c, hc, hcN⟩ := HOK.out.2 k hlt
      have HP0 : Hid (rcTo l (k + 1) = rcIn l c (rcTo l k) l.length) := by show _ = _; rw [show rcTo l (k + 1) = rcIn l ((rcTo l k).getD k 0).toNat (rcTo l k) l.length from rfl, hc, Int.toNat_natCast]
      have HPre : Hid (∀ j, k < (rcIn l c (rcTo l k) j).length ∧ (rcIn l c (rcTo l k) j).getD k 0 = (c : Int)) := fun j => by
        have := rcIn_pre l c (rcTo l k) j hlt
        exact ⟨this.1, this.2.trans hc⟩
      have HInOK : Hid (∀ j, j ≤ l.length → RcOK N (rcIn l c (rcTo l k) j)) := fun j hj => rcIn_ok HSZ.out hcN HOK.out j hj
      have HZ0 : Hid (rcIn l c (rcTo l k) 0 = rcTo l k) := rfl
      have HSC : Hid (∀ j, rcIn l c (rcTo l k) (j + 1) = rcAdd (rcIn l c (rcTo l k) j) ((l.getD j []).getD c 0)) := fun j => rfl
      clear hc
      generalize hRk : rcTo l k = Rk at *
      have HRk := Lib.hid hRk
      clear hRk
      obtain ⟨a15, c15, rfl, _, _⟩ := hI.form
      go_wp2_with fail
      go_loopw [6, 8] (fun u i wz => ∃ j : Nat, j ≤ l.length ∧ i = .int .i64 j ∧ Ints wz (w.heap.size + 1) u (rcIn l c Rk j) ∧ Bools wz w.heap.size (.slice (some ⟨w.heap.size, 0, none⟩) N N) (seenL N (rcIn l c Rk j)) ∧ Below w.heap.size w wz) (fun _ i _ => l.length - (intOf i).toNat)
      case atStart => exact ⟨0, Nat.zero_le _, rfl, by rw [HZ0.out]; exact hI, by rw [HZ0.out]; exact hS, hB⟩
      case round =>
        clear hI hB hS HZ0
        obtain ⟨j, hj, rfl, hI, hS, hB⟩ := hrel
        obtain ⟨wz, hwz⟩ : ∃ x, x = wr := ⟨_, rfl⟩
        subst hwz
        have HPj := Lib.hid (HPre.out j)
        have hlj := (HInOK.out j hj).len
        obtain ⟨a16, c16, e16, _, _⟩ := hI.form
        by_cases hlj2 : j < l.length
        · obtain ⟨bz, oz, r, rfl, hcz, hrz⟩ := (HL.out.below hB).at hlj2
          obtain ⟨m, hm, hmN⟩ := rc_img HSZ.out hlj2 hcN
          have HSj := Lib.hid (HSC.out j)
          have HLj := Lib.hid (sizedB_at HSZ.out hlj2).1
          have HM := Lib.hid hm
          rw [hm] at HSj
          clear hm
          generalize l.getD j [] = bj at *
          generalize rcIn l c Rk j = Rj at *
          obtain ⟨hp1, hp2⟩ := HPj.out
          obtain ⟨ar, cr, rfl, _, _⟩ := hrz.formN HLj.out
          obtain ⟨bb, ob, rfl, hcb⟩ := hrz.at (show c < bj.length by have := HLj.out; omega)
          rw [HM.out] at hcb
          have hRR := Lib.hid hI.rd
          subst e16
          obtain ⟨bq, oq, rfl, hcq⟩ := hI.rd.at hp1
          rw [hp2] at hcq
          have hk0 : (0 : Int) ≤ (k : Int) := by omega
          have hk1 : (k : Int) < (Rj.length : Int) := by omega
          have hj0 : (0 : Int) ≤ (j : Int) := by omega
          have hj1 : (j : Int) < (l.length : Int) := by omega
          have hc0 : (0 : Int) ≤ (c : Int) := by omega
          have hc1 : (c : Int) < (N : Int) := by omega
          have hlz : w.heap.size < wz.heap.size := (own_lt hS rfl).2
          obtain ⟨hs1, hs2⟩ := hS.cell (by rw [seenL_length]) m hmN
          rw [seenL_getD N Rj m hmN] at hs1
          obtain ⟨hS2, hC2⟩ := hS.set (by rw [seenL_length]) m true
          rw [seenL_snoc N Rj hmN] at hS2
          have HS2 := Lib.hid hS2
          have HC2 := Lib.hid hC2
          clear hp2 hrz hS2 hC2
          go_wp2_with fail
          apply via
          case h =>
            go_region
            all_goals exact ⟨rfl, rfl⟩
          by_cases hct : Rj.contains (m : Int) = true
          · have HAd := Lib.hid (rcAdd_in hct)
            rw [hct] at hs1
            clear hct
            go_wp2_with fail
            go_roundw
            case rel => exact ⟨j + 1, by omega, by go_num, by rw [HSj.out, HAd.out]; exact hI, by rw [HSj.out, HAd.out]; exact hS, hB.drew⟩
            case measure => simp [intOf]; omega
          · have hct' : Rj.contains (m : Int) = false := by simpa using hct
            have HAd := Lib.hid (rcAdd_out hct')
            rw [hct'] at hs1
            clear hct hct'
            have sB := hB.size
            have hI4 : Ints (wz.setCell ⟨w.heap.size, m, none⟩ (.bool true)) (w.heap.size + 1) _ Rj := hI.chg HC2.out (fun g hg => .inr (hI.lt g hg).1)
            have hB4 := hB.trans (HC2.out.below (Nat.le_refl _) sB)
            have hI5 : Ints (wz.drew.setCell ⟨w.heap.size, m, none⟩ (.bool true)) (w.heap.size + 1) _ Rj := hI4
            have hS5 : Bools (wz.drew.setCell ⟨w.heap.size, m, none⟩ (.bool true)) w.heap.size (.slice (some ⟨w.heap.size, 0, none⟩) N N) (seenL N (Rj ++ [(m : Int)])) := HS2.out
            have hB5 : Below w.heap.size w (wz.drew.setCell ⟨w.heap.size, m, none⟩ (.bool true)) := ⟨hB4.os, hB4.tape, hB4.output, hB4.size, hB4.block⟩
            have hz5 : w.heap.size < (wz.drew.setCell ⟨w.heap.size, m, none⟩ (.bool true)).heap.size := by simpa using hlz
            clear hI hS hB hI4 hB4
            obtain ⟨v7, w7, hr7, hI7, hB7⟩ := run_appI ((wz.drew.setCell ⟨w.heap.size, m, none⟩ (.bool true)).alloc (.cells #[.int .i64 (m : Int)] 2)) 22 (w.heap.size + 1) _ Rj (hI5.below (below_alloc _ _)) _ [(m : Int)] (Rd.lit1 _ (m : Int)) (by omega) (by simp) (by simp; omega)
            have hB8 := (hB5.alloc (Nat.le_of_lt hz5) (.cells #[.int .i64 (m : Int)] 2)).trans (hB7.mono (by omega))
            have hS8 : Bools w7 w.heap.size (.slice (some ⟨w.heap.size, 0, none⟩) N N) (seenL N (Rj ++ [(m : Int)])) := own_of_block (own_below hS5 (below_alloc _ (.cells #[.int .i64 (m : Int)] 2))) (fun g hg => by
              obtain rfl : w.heap.size = g := Option.some.inj hg
              exact hB7.block _ (by omega))
            clear hB7 hB5 hI5 hS5
            rw [show (wz.drew.setCell ⟨w.heap.size, m, none⟩ (.bool true)).heap.size = wz.heap.size by simp] at hr7
            go_wp2_with (at_builtin; refine wp_of_run _ rfl _ _ _ rfl _ _ rfl rfl _ _ hr7 ?_)
            go_roundw
            case rel => exact ⟨j + 1, by omega, by go_num, by rw [HSj.out, HAd.out]; exact hI7, by rw [HSj.out, HAd.out]; exact hS8, hB8⟩
            case measure => simp [intOf]; omega
        · obtain rfl : j = l.length := by omega
          have hl2 := (HPre.out l.length).1
          rw [← HP0.out] at hI hlj hl2 hS
          clear e16
          go_wp2_with fail
          go_roundw
          case rel => exact ⟨k + 1, by omega, by go_num, fun j hj => by
            by_cases h : j = k
            · subst h; rw [HRk.out]; exact hlt
            · exact HA3.out j (by omega), hI, hS, hB⟩
          case measure => simp [intOf]; omega
    · have he : (rcTo l k).length = k := by omega
      have HRN := Lib.hid (rcN_at HA3.out he (by omega))
      have hIF := hI.rd
      obtain ⟨a15, c15, rfl, _, _⟩ := hI.rd.formN he
      clear hI hIF he
      go_wp2_with fail
      go_ret
      rw [HRN.out]
      exact ⟨rfl, hB⟩
--== spec.l11Is
set_option maxHeartbeats 4000000 in
theorem s_l11Is (v1 v2 v3 vl : Value) (p : Pres) (l : List (List Int)) (N : Nat) (w : World) (hp : RdP w v1 v2 v3 p) (hl : Rd2 w vl l) (hV : validB p = true) (hN : prodO p.orders = (N : Int)) (hN1 : 1 ≤ N) (h128 : N ≤ 128) :
    Calls Try.prog 97 #[.agg #[v1, v2, v3], vl] w (RetV w (.bool (irB p l N))) := by
  have HP := Lib.hid hp
  have HL := Lib.hid hl
  have HVt := Lib.hid hV
  have HV := Lib.hid (validB_true.1 hV)
  have HN := Lib.hid hN
  have hn6 := HV.out.n6
  obtain ⟨ao1, cap1, rfl, _, _⟩ := hp.1.formN (n := p.n) rfl
  obtain ⟨ao2, cap2, rfl, _, _⟩ := hp.2.1.form
  obtain ⟨ao3, cap3, rfl, _, _⟩ := hp.2.2.form
  obtain ⟨al, cl, rfl, _, _⟩ := hl.form
  have g0 := below_alloc w (Obj.cells #[Value.slice ao1 p.n cap1, Value.slice ao2 p.powers.length cap2, Value.slice ao3 p.conj.length cap3] 32)
  have b0 := Bx.new w (Value.slice ao1 p.n cap1) (Value.slice ao2 p.powers.length cap2) (Value.slice ao3 p.conj.length cap3)
  have HG := Lib.hid g0
  have HB := Lib.hid b0
  clear hp hl g0 b0 hV hN
  by_cases hln : l.length = p.n
  case neg =>
    have HB0 := Lib.hid (irB_len (N := N) hln)
    have hl1 : ((l.length : Int) != (p.n : Int)) = true := by simp; omega
    clear hln
    go_enter Try.func97, Try.ntmps97
    go_wp2_with fail
    refine (s_l10Order HV.out _ _ _ _ (HP.out.below HG.out)).mono ?_
    rintro e w1 ⟨rfl, hb⟩
    have g1 := below_size HG.out hb
    have b1 := HB.out.below hb HB.out.lt
    have n0 := b1.c0
    rw [HN.out]
    clear hb
    go_wp2_with fail
    go_ret
    exact ⟨ret_bool HB0.out.symm, g1⟩
  have HLN := Lib.hid hln
  have hl1 : ((l.length : Int) != (p.n : Int)) = false := by simp [hln]
  have hl6 : l.length ≤ 6 := by omega
  clear hln
  by_cases hsz : sizedB N l = true
  case neg =>
    have hsz' : sizedB N l = false := by simpa using hsz
    have HB0 := Lib.hid (irB_sized (p := p) hsz')
    clear hsz
    go_enter Try.func97, Try.ntmps97
    go_wp2_with fail
    refine (s_l10Order HV.out _ _ _ _ (HP.out.below HG.out)).mono ?_
    rintro e w1 ⟨rfl, hb⟩
    have g1 := below_size HG.out hb
    have b1 := HB.out.below hb HB.out.lt
    have n0 := b1.c0
    rw [HN.out]
    clear hb
    go_wp2_with fail
    refine (s_l11Sized _ l N w1 (HL.out.below g1) (by omega)).mono ?_
    rintro e w2 ⟨rfl, hb⟩
    have g2 := below_size g1 hb
    rw [hsz']
    clear hb
    go_wp2_with fail
    go_ret
    exact ⟨ret_bool HB0.out.symm, g2⟩
  have HSZ := Lib.hid hsz
  go_enter Try.func97, Try.ntmps97
  go_wp2_with fail
  refine (s_l10Order HV.out _ _ _ _ (HP.out.below HG.out)).mono ?_
  rintro e w1 ⟨rfl, hb⟩
  have g1 := below_size HG.out hb
  have b1 := HB.out.below hb HB.out.lt
  have n0 := b1.c0
  rw [HN.out]
  clear hb
  go_wp2_with fail
  refine (s_l11Sized _ l N w1 (HL.out.below g1) (by omega)).mono ?_
  rintro e w2 ⟨rfl, hb⟩
  have g2 := below_size g1 hb
  have b2 := b1.below hb b1.lt
  have m0 := b2.c0
  have m1 := b2.c1
  have m2 := b2.c2
  rw [hsz]
  clear hb hsz n0
  go_wp2_with fail
  refine (s_l07Relators _ _ _ p _ (HP.out.below g2) HVt.out).mono ?_
  rintro e w3 ⟨u3, rfl, hO3, hb⟩
  have g3 := below_size g2 hb
  have HO3 := Lib.hid (O2.rd hO3)
  obtain ⟨a3, c3, rfl, _, _⟩ := HO3.out.form
  clear hb hO3 m0 m1 m2 hl1 g2 b2 b1 g1
  go_wp2_with fail
  go_loopw [7] (fun i wr => ∃ k : Nat, k ≤ (relL p).length ∧ i = .int .i64 k ∧ (∀ t, t < k → evL ((relL p).getD t []) l = selfL N) ∧ Below w3.heap.size w3 wr) (fun i _ => (relL p).length - (intOf i).toNat)
  case atStart => exact ⟨0, Nat.zero_le _, rfl, fun t ht => by omega, Below.refl _ _⟩
  case round =>
    obtain ⟨k, hk, rfl, hall, hB⟩ := hrel
    have HA := Lib.hid hall
    have gW := below_size g3 hB
    clear hall
    by_cases hlk : k < (relL p).length
    · obtain ⟨bz, oz, r, rfl, hcz, hrz⟩ := (HO3.out.below hB).at hlk
      have HWd := Lib.hid (rel_at HV.out hlk)
      have HF : Hid (evL ((relL p).getD k []) l ≠ selfL N → irB p l N = false) := fun h => irB_rel (relsB_false hlk h)
      have hl0 : 0 < l.length := by
        have h1 := HLN.out
        rcases Nat.eq_zero_or_pos p.n with h0 | h0
        · rw [rel_none h0] at hlk; simp at hlk
        · omega
      have HFN := Lib.hid (sized_first HSZ.out hl0)
      have hev := s_l11Eval _ _ ((relL p).getD k []) l wr hrz (HL.out.below gW) hl6 (by rw [HLN.out]; exact HWd.out) (by rw [HFN.out]; exact HSZ.out) (by rw [HFN.out]; exact h128)
      rw [HFN.out] at hev
      have HEV := Lib.hid hev
      have HCL : Hid ((evL ((relL p).getD k []) l).length = N) := by have := evTo_len ((relL p).getD k []) l ((relL p).getD k []).length (Nat.le_refl _); rw [HFN.out] at this; exact this
      obtain ⟨ar, cr, rfl, _, _⟩ := hrz.form
      generalize hrk : (relL p).getD k [] = rk at *
      have HRK := Lib.hid hrk
      clear hrk
      clear hev hrz
      go_wp2_with fail
      refine HEV.out.mono ?_
      rintro e w4 ⟨u4, rfl, hI4, hb⟩
      have g4 := below_size gW hb
      have hB4 := below_size hB hb
      have HI4 := Lib.hid hI4.rd
      obtain ⟨a4, c4, rfl, _, _⟩ := hI4.rd.formN HCL.out
      clear hI4 hb
      generalize hev : evL rk l = c at *
      have HEC := Lib.hid hev
      clear hev HEV
      go_wp2_with fail
      refine (s_l11Self N w4 (by omega)).mono ?_
      rintro e w5 ⟨u5, rfl, hI5, hb⟩
      have g5 := below_size g4 hb
      have hB5 := below_size hB4 hb
      have HI4b := Lib.hid (HI4.out.below hb)
      have HI5 := Lib.hid hI5.rd
      obtain ⟨a5, c5, rfl, _, _⟩ := hI5.rd.formN (selfL_len N)
      clear hI5 hb
      obtain ⟨fb, hfb⟩ : ∃ fb, decide (c = selfL N) = fb := ⟨_, rfl⟩
      have HFB := Lib.hid hfb
      go_wp2_with fail
      refine (s_l01Same _ _ c (selfL N) w5 HI4b.out HI5.out (by rw [HCL.out, selfL_len])).mono ?_
      rintro e w6 hq
      obtain ⟨rfl, hb⟩ := hq.below
      rw [hfb]
      have g6 := below_size g5 hb
      have hB6 := below_size hB5 hb
      clear hb hfb hq
      cases fb with
      | false =>
        have HZ1 : Hid (irB p l N = false) := HF.out (of_decide_eq_false HFB.out)
        go_wp2_with fail
        go_ret
        exact ⟨ret_bool HZ1.out.symm, g6⟩
      | true =>
        have HEQ := Lib.hid (of_decide_eq_true HFB.out)
        go_wp2_with fail
        go_roundw
        case rel => exact ⟨k + 1, by omega, by go_num, fun t ht2 => by
          by_cases h : t = k
          · subst h; rw [HRK.out, HEC.out]; exact HEQ.out
          · exact HA.out t (by omega), hB6⟩
        case measure => simp [intOf]; omega
    · obtain rfl : k = (relL p).length := by omega
      have HRT := Lib.hid (relsB_true HA.out)
      have HFI := Lib.hid (irB_fin HLN.out HSZ.out HRT.out)
      go_wp2_with fail
      refine (s_l11Reach _ l N wr (HL.out.below gW) HSZ.out hN1 h128 hl6).mono ?_
      rintro e w4 ⟨rfl, hb⟩
      have g4 := below_size gW hb
      clear hb
      go_wp2_with fail
      go_ret
      rw [HFI.out]
      exact ⟨ret_bool (by rw [Bool.eq_iff_iff]; simp; omega), g4⟩
--== spec.IsRealisation
set_option maxHeartbeats 2000000 in
theorem s_IsRealisation (v1 v2 v3 : Value) (p : Pres) (vl : Value) (l : List (List Int)) (w : World) (hp : RdP w v1 v2 v3 p) (hl : Rd2 w vl l) :
    Calls Try.prog 35 #[.agg #[v1, v2, v3], vl] w (RetV w (.tuple #[.bool (irR p l), .int .i64 (irC p)])) := by
  have HP := Lib.hid hp
  have HL := Lib.hid hl
  obtain ⟨ao1, cap1, rfl, _, _⟩ := hp.1.formN (n := p.n) rfl
  obtain ⟨ao2, cap2, rfl, _, _⟩ := hp.2.1.form
  obtain ⟨ao3, cap3, rfl, _, _⟩ := hp.2.2.form
  obtain ⟨al, cl, rfl, _, _⟩ := hl.form
  have g0 := below_alloc w (Obj.cells #[Value.slice ao1 p.n cap1, Value.slice ao2 p.powers.length cap2, Value.slice ao3 p.conj.length cap3] 32)
  have b0 := Bx.new w (Value.slice ao1 p.n cap1) (Value.slice ao2 p.powers.length cap2) (Value.slice ao3 p.conj.length cap3)
  have HG := Lib.hid g0
  have HB := Lib.hid b0
  clear hp hl g0 b0
  by_cases hV : validB p = true
  case neg =>
    have hV' : validB p = false := by simpa using hV
    have HK := Lib.hid (irC_1 hV')
    have HR := Lib.hid (irR_ne (l := l) (by rw [HK.out]; omega))
    clear hV
    go_enter Try.func35, Try.ntmps35
    go_wp2_with fail
    refine (s_IsPresentation _ _ _ p _ (HP.out.below HG.out)).mono ?_
    rintro e w1 ⟨rfl, hb⟩
    have g1 := below_size HG.out hb
    rw [hV']
    clear hb hV'
    go_wp2_with fail
    go_ret2
    rw [HK.out, HR.out]
    exact ⟨rfl, g1⟩
  have HV := Lib.hid (validB_true.1 hV)
  have HVt := Lib.hid hV
  obtain ⟨hN, hN1, hN7⟩ := gordN_eq HV.out
  have HN := Lib.hid hN
  have HC3 : Hid (¬ gordN p ≤ 128 → irC p = 3) := fun h => irC_3 HVt.out h
  have HC0 : Hid (gordN p ≤ 128 → irC p = 0) := fun h => irC_0 HVt.out h
  have HR0 : Hid (irC p = 0 → irR p l = irB p l (gordN p)) := fun h => irR_0 h
  clear hN
  generalize gordN p = N at *
  by_cases h128 : N ≤ 128
  case neg =>
    have HK := Lib.hid (HC3.out h128)
    have HR := Lib.hid (irR_ne (l := l) (by rw [HK.out]; omega))
    go_enter Try.func35, Try.ntmps35
    go_wp2_with fail
    refine (s_IsPresentation _ _ _ p _ (HP.out.below HG.out)).mono ?_
    rintro e w1 ⟨rfl, hb⟩
    have g1 := below_size HG.out hb
    have b1 := HB.out.below hb HB.out.lt
    have m0 := b1.c0
    have m1 := b1.c1
    have m2 := b1.c2
    rw [hV]
    clear hb hV
    go_wp2_with fail
    refine (s_l10Order HV.out _ _ _ _ (HP.out.below g1)).mono ?_
    rintro e w2 ⟨rfl, hb⟩
    have g2 := below_size g1 hb
    rw [HN.out]
    clear hb m0 m1 m2
    go_wp2_with fail
    go_ret2
    rw [HK.out, HR.out]
    exact ⟨rfl, g2⟩
  have HK := Lib.hid (HC0.out h128)
  have HR := Lib.hid (HR0.out HK.out)
  clear HC3 HC0 HR0
  go_enter Try.func35, Try.ntmps35
  go_wp2_with fail
  refine (s_IsPresentation _ _ _ p _ (HP.out.below HG.out)).mono ?_
  rintro e w1 ⟨rfl, hb⟩
  have g1 := below_size HG.out hb
  have b1 := HB.out.below hb HB.out.lt
  have m0 := b1.c0
  have m1 := b1.c1
  have m2 := b1.c2
  rw [hV]
  clear hb hV
  go_wp2_with fail
  refine (s_l10Order HV.out _ _ _ _ (HP.out.below g1)).mono ?_
  rintro e w2 ⟨rfl, hb⟩
  have g2 := below_size g1 hb
  have b2 := b1.below hb b1.lt
  clear m0 m1 m2
  have m0 := b2.c0
  have m1 := b2.c1
  have m2 := b2.c2
  rw [HN.out]
  clear hb
  go_wp2_with fail
  refine (s_l11Is _ _ _ _ p l N _ (HP.out.below g2) (HL.out.below g2) HVt.out HN.out hN1 h128).mono ?_
  rintro e w3 ⟨rfl, hb⟩
  have g3 := below_size g2 hb
  clear hb
  go_wp2_with fail
  go_ret2
  rw [HK.out, HR.out]
  exact ⟨rfl, g3⟩
end Go.Proofs.Ythnpndheaailjaa
