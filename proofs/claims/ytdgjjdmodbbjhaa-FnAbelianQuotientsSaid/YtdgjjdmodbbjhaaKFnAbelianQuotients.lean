/-
  The walk of the law FnAbelianQuotients.
-/
import Derived.Test.YtdgjjdmodbbjhaaAbt
import Derived.Test.YtdgjjdmodbbjhaaQbd
namespace Go.Proofs.Ytdgjjdmodbbjhaa.fnAbelianQuotients
set_option linter.unusedVariables false
set_option linter.unusedSimpArgs false
set_option maxRecDepth 100000
open Go.RowKit

set_option maxHeartbeats 16000000 in
theorem core (v : Value) (n : Nat) (w : World) (h : RdU w v n) : Calls Try.prog 3 #[v] w (RetV w (.bool true)) := by
  by_cases hb : 4096 < n
  · have hd : decide (4096 < n) = true := decide_eq_true hb
    go_enter Try.func3, Try.ntmps3
    go_wp2_with fail
    refine (l_big v n w h).mono ?_
    rintro e w' ⟨rfl, rfl⟩
    rw [hd]
    go_wp2_with fail
    go_ret
    exact ⟨rfl, Below.refl _ _⟩
  · have hd : decide (4096 < n) = false := decide_eq_false hb
    have hn : n ≤ 1000000 := by omega
    clear hb
    go_enter Try.func3, Try.ntmps3
    go_wp2_with fail
    refine (l_big v n w h).mono ?_
    rintro e w' ⟨rfl, rfl⟩
    rw [hd]
    clear hd
    go_wp2_with fail
    refine (s_DrawHas v n w h hn).mono ?_
    rintro e w1 ⟨va, fa, ra, vb, fb, rb, rfl, ⟨la, ea, ra1, ra2⟩, ⟨lb, eb, rb1, rb2⟩, hA, hB, hB1⟩
    obtain ⟨aa, ca, hva, _, _⟩ := rd_formN hA (nI_length fa)
    obtain ⟨ab, cb, hvb, _, _⟩ := rd_formN hB (nI_length fb)
    subst hva hvb
    have hbl := below_size (below_alloc w1 (.cells #[.slice aa fa.length ca, .int .i64 ra] 26)) (below_alloc _ (.cells #[.slice ab fb.length cb, .int .i64 rb] 26))
    have hx3 : B2 ((w1.alloc (.cells #[.slice aa fa.length ca, .int .i64 ra] 26)).alloc (.cells #[.slice ab fb.length cb, .int .i64 rb] 26)) w1.heap.size (.slice aa fa.length ca) (.int .i64 ra) := (B2.new w1 _ _).alloc _
    have hx4 : B2 ((w1.alloc (.cells #[.slice aa fa.length ca, .int .i64 ra] 26)).alloc (.cells #[.slice ab fb.length cb, .int .i64 rb] 26)) (w1.heap.size + 1) (.slice ab fb.length cb) (.int .i64 rb) := by
      have h := B2.new (w1.alloc (.cells #[.slice aa fa.length ca, .int .i64 ra] 26)) (.slice ab fb.length cb) (.int .i64 rb)
      rwa [show (w1.alloc (.cells #[.slice aa fa.length ca, .int .i64 ra] 26)).heap.size = w1.heap.size + 1 by simp] at h
    have hA1 := hA.below hbl
    have hB2 := hB.below hbl
    have hW := below_size hB1 hbl
    have HX3 := Lib.hid hx3
    have HX4 := Lib.hid hx4
    have HA1 := Lib.hid hA1
    have HB2 := Lib.hid hB2
    have HW := Lib.hid hW
    have HEA : Hid (∀ f ∈ fa, f ≤ 1000000000) := fun f hf => by have := ea f hf; omega
    have HEB : Hid (∀ f ∈ fb, f ≤ 1000000000) := fun f hf => by have := eb f hf; omega
    have HIH : Hid (∀ (v1 v2 : Value) (f1 f2 : List Nat) (r1 r2 : Int) (wx : World), Rd wx v1 (nI f1) → Rd wx v2 (nI f2) → (∀ f ∈ f1, f ≤ 1000000000) → (∀ f ∈ f2, f ≤ 1000000000) → f1.length ≤ 10 → f2.length ≤ 10 → -1 ≤ r1 → r1 ≤ 11 → -1 ≤ r2 → r2 ≤ 11 → Calls Try.prog 6 #[.agg #[v1, .int .i64 r1], .agg #[v2, .int .i64 r2]] wx (RetHas wx f1 r1 f2 r2)) := fun v1 v2 f1 f2 r1 r2 wx h1 h2 h3 h4 h5 h6 h7 h8 h9 h10 => i_HasAbelianQuotient v1 v2 f1 f2 r1 r2 wx h1 h2 h3 h4 (by omega) (by omega) (by omega) (by omega) (by omega) (by omega)
    obtain ⟨b3, hb3⟩ : ∃ x, x = w1.heap.size := ⟨_, rfl⟩
    rw [← hb3] at HX3 HX4
    clear hA hB hx3 hx4 hA1 hB2 hW hB1 h ea eb hbl
    go_wp2_with fail
    try rw [← hb3]
    generalize (w1.alloc (.cells #[.slice aa fa.length ca, .int .i64 ra] 26)).alloc (.cells #[.slice ab fb.length cb, .int .i64 rb] 26) = wd at *
    clear hb3
    refine (HIH.out _ _ fa fb ra rb wd HA1.out HB2.out HEA.out HEB.out la lb ra1 ra2 rb1 rb2).mono ?_
    rintro e w2 ⟨ok, k, rfl, hO, hB3⟩
    have HK : Hid (∀ wz, Below wd.heap.size wd wz → B2 wz b3 (.slice aa fa.length ca) (.int .i64 ra) ∧ B2 wz (b3 + 1) (.slice ab fb.length cb) (.int .i64 rb) ∧ Rd wz (.slice aa fa.length ca) (nI fa) ∧ Rd wz (.slice ab fb.length cb) (nI fb) ∧ Below w.heap.size w wz) := fun wz hz => ⟨HX3.out.below hz HX3.out.lt, HX4.out.below hz HX4.out.lt, HA1.out.below hz, HB2.out.below hz, below_size HW.out hz⟩
    have hb3l : b3 + 1 < wd.heap.size := HX4.out.lt
    have HO := Lib.hid hO
    have HB3 := Lib.hid hB3
    obtain ⟨x3, x4, _, _, _⟩ := HK.out _ hB3
    have c0 := x3.c0
    have c1 := x3.c1
    have c2 := x4.c0
    have c3 := x4.c1
    clear hO hB3 HX3 HX4 HA1 HB2 HW x3 x4
    go_wp2_with fail
    refine (s_HasAbelianQuotient _ _ fa fb ra rb w2 (HK.out _ HB3.out).2.2.1 (HK.out _ HB3.out).2.2.2.1 HEA.out HEB.out (by omega) (by omega) (by omega) (by omega) (by omega) (by omega)).mono ?_
    rintro e w3 ⟨ok', k', rfl, hO', hB4⟩
    obtain ⟨rfl, rfl⟩ := HO.out.uniq hO'
    have HB4 := Lib.hid (below_size HB3.out hB4)
    obtain ⟨x3, x4, _, _, _⟩ := HK.out _ HB4.out
    have hO := HO.out
    clear c0 c1 c2 c3 hO' hB4 HO HB3
    have c0 := x3.c0
    have c1 := x3.c1
    have c2 := x4.c0
    have c3 := x4.c1
    clear x3 x4
    rcases hO with ⟨ha, hb, rfl, hq⟩ | ⟨hno, rfl, rfl⟩
    case inr =>
      clear hno
      go_wp2_with fail
      go_ret
      exact ⟨rfl, (HK.out _ HB4.out).2.2.2.2⟩
    case inl =>
      have HAA := Lib.hid ha
      have HBB := Lib.hid hb
      have HQQ := Lib.hid hq
      clear ha hb hq
      have hok : (ok' != ok') = false := by cases ok' <;> rfl
      go_wp2_with fail
      refine (HIH.out _ _ fb fa rb ra w3 (HK.out _ HB4.out).2.2.2.1 (HK.out _ HB4.out).2.2.1 HEB.out HEA.out lb la rb1 rb2 ra1 ra2).mono ?_
      rintro e w4 ⟨back, one, rfl, hO5, hB5⟩
      obtain ⟨h5, hbk⟩ : one = 0 ∧ (back = true ↔ QD fb fa rb.toNat ra.toNat) := by
        rcases hO5 with ⟨_, _, h1, h2⟩ | ⟨h1, _⟩
        · exact ⟨h1, h2⟩
        · exact (h1 ⟨HBB.out, HAA.out⟩).elim
      subst h5
      have HBK := Lib.hid hbk
      have HB5 := Lib.hid (below_size HB4.out hB5)
      obtain ⟨x3, x4, _, _, _⟩ := HK.out _ HB5.out
      clear c0 c1 c2 c3 hO5 hB5 hbk HB4 hok
      have c0 := x3.c0
      have c1 := x3.c1
      have c2 := x4.c0
      have c3 := x4.c1
      clear x3 x4
      cases ok'
      case' true =>
        have hbe : back = decide (ra = rb ∧ fa = fb) := by
          have h1 := has_back HAA.out HBB.out (HQQ.out.1 rfl)
          rw [← HBK.out] at h1
          cases back
          · exact (decide_eq_false fun h => by have := h1.2 h; simp at this).symm
          · exact (decide_eq_true (h1.1 rfl)).symm
        have HBE := Lib.hid hbe
        clear hbe
        have hbb : (back != back) = false := by cases back <;> rfl
        go_wp2_with fail
        refine (l_likeAb _ _ fa fb ra rb w4 (HK.out _ HB5.out).2.2.1 (HK.out _ HB5.out).2.2.2.1).mono ?_
        rintro e w5 ⟨rfl, hB6⟩
        rw [← HBE.out]
        have HBZ := Lib.hid (below_size HB5.out hB6)
        obtain ⟨x3, x4, _, _, _⟩ := HK.out _ HBZ.out
        clear c0 c1 c2 c3 hB6 HBE HB5 HBK HQQ
        have c0 := x3.c0
        have c1 := x3.c1
        have c2 := x4.c0
        have c3 := x4.c1
        clear x3 x4
        go_wp2_with fail
      case' false =>
        have HBZ := HB5
        clear HB5 HBK HQQ
        go_wp2_with fail
      all_goals
        refine (i_SumAbelian _ _ fa fb ra rb _ (HK.out _ HBZ.out).2.2.1 (HK.out _ HBZ.out).2.2.2.1 HAA.out HBB.out).mono ?_
        rintro e w8 ⟨vc, fc, rc, kc, rfl, hIc, hOc, hB8⟩
        obtain ⟨ac, cc, hvc, _, _⟩ := rd_formN hIc.rd (nI_length fc)
        subst hvc
        have HIC := Lib.hid hIc.rd
        have HOC := Lib.hid hOc
        have HB8 := Lib.hid (below_size HBZ.out hB8)
        obtain ⟨x3, x4, _, _, _⟩ := HK.out _ HB8.out
        clear c0 c1 c2 c3 hIc hOc hB8 HBZ
        have c0 := x3.c0
        have c1 := x3.c1
        have c2 := x4.c0
        have c3 := x4.c1
        have hl4 := x4.lt
        have hl3 := x3.lt
        clear x3 x4
        have HB8A := Lib.hid (below_size HB8.out (below_alloc w8 (.cells #[.slice ac fc.length cc, .int .i64 rc] 26)))
        have HXC := Lib.hid (B2.new w8 (.slice ac fc.length cc) (.int .i64 rc))
        have HICA := Lib.hid (HIC.out.below (below_alloc w8 (.cells #[.slice ac fc.length cc, .int .i64 rc] 26)))
        go_wp2_with fail
        refine (s_SumAbelian _ _ fa fb ra rb _ (HK.out _ HB8A.out).2.2.1 (HK.out _ HB8A.out).2.2.2.1 HAA.out HBB.out).mono ?_
        rintro e w9 ⟨vd, fd, rd, kd, rfl, hId, hOd, hB9⟩
        obtain ⟨e1, e2, e3⟩ := HOC.out.uniq hOd
        subst e1 e2 e3
        obtain ⟨ad, cd, hvd, _, _⟩ := rd_formN hId.rd (nI_length _)
        subst hvd
        have HID := Lib.hid hId.rd
        have HXC9 := Lib.hid (HXC.out.below hB9 (by simp))
        have HIC9 := Lib.hid (HICA.out.below hB9)
        have HB9 := Lib.hid (below_size HB8A.out hB9)
        have HBD := Lib.hid (below_size HB9.out (below_alloc w9 (.cells #[.slice ad fc.length cd, .int .i64 rc] 26)))
        have HXD : Hid (B2 (w9.alloc (.cells #[.slice ad fc.length cd, .int .i64 rc] 26)) w9.heap.size (.slice ad fc.length cd) (.int .i64 rc)) := B2.new w9 _ _
        have HXCD := Lib.hid (HXC9.out.alloc (.cells #[.slice ad fc.length cd, .int .i64 rc] 26))
        have HICD := Lib.hid (HIC9.out.below (below_alloc w9 (.cells #[.slice ad fc.length cd, .int .i64 rc] 26)))
        have HIDD := Lib.hid (HID.out.below (below_alloc w9 (.cells #[.slice ad fc.length cd, .int .i64 rc] 26)))
        have HLK := Lib.hid (l_likeAb _ _ fc fc rc rc _ HICD.out HIDD.out)
        have e9 : decide (rc = rc ∧ fc = fc) = true := decide_eq_true ⟨rfl, rfl⟩
        rw [e9] at HLK
        obtain ⟨x3, x4, _, _, _⟩ := HK.out _ HB9.out
        have hk2 : (kc != kc) = false := by rw [bne_self_eq_false]
        have hc1 := HXC9.out.c0
        have hc2 := HXC9.out.c1
        have hc3 := HXC9.out.lt
        have hb4l := x4.lt
        have hb3m := x3.lt
        clear c0 c1 c2 c3 hId hOd hB9 HB8A HICA HXC HIC HB8 e9 hl3 hl4
        have c0 := x3.c0
        have c1 := x3.c1
        have c2 := x4.c0
        have c3 := x4.c1
        clear x3 x4
        go_wp2_with fail
        refine HLK.out.mono ?_
        rintro e w10 ⟨rfl, hB10⟩
        have HB10 := Lib.hid (below_size HBD.out hB10)
        have HXD10 := Lib.hid (HXD.out.below hB10 (by simp))
        have HID10 := Lib.hid (HIDD.out.below hB10)
        obtain ⟨x3, x4, _, _, _⟩ := HK.out _ HB10.out
        clear c0 c1 c2 c3 hc1 hc2 hc3 hB10 HLK HBD HXD HXCD HICD HIDD HXC9 HIC9 HB9 HID
        have c0 := x3.c0
        have c1 := x3.c1
        have c2 := x4.c0
        have c3 := x4.c1
        have d0 := HXD10.out.c0
        have d1 := HXD10.out.c1
        generalize w9.heap.size = bd at *
        clear x3 x4
        by_cases hkc : kc = 0
        case neg =>
          have hkb : (kc != 0) = true := by rw [bne_iff_ne]; exact hkc
          go_wp2_with fail
          go_ret
          exact ⟨rfl, (HK.out _ HB10.out).2.2.2.2⟩
        case pos =>
          subst hkc
          obtain ⟨hpd, hqa, hqb⟩ := has_sum HAA.out HBB.out HOC.out
          have HPD := Lib.hid hpd
          have HQA := Lib.hid hqa
          have HQB := Lib.hid hqb
          have hpl : fc.length ≤ 10 := by have h1 := hpd.1; have h2 := hpd.2.1; omega
          have hpr1 : -1 ≤ rc := by have h1 := hpd.1; omega
          have hpr2 : rc ≤ 11 := by have h2 := hpd.2.1; omega
          have HPE : Hid (∀ f ∈ fc, f ≤ 1000000000) := fun f hf => by have := (hpd.chn.1 f hf).2; omega
          clear hpd hqa hqb hk2
          go_wp2_with fail
          refine (HIH.out _ _ fc fa rc ra w10 HID10.out (HK.out _ HB10.out).2.2.1 HPE.out HEA.out hpl la hpr1 hpr2 ra1 ra2).mono ?_
          rintro e w11 ⟨first, four, rfl, hO11, hB11⟩
          obtain ⟨rfl, rfl⟩ : first = true ∧ four = 0 := by
            rcases hO11 with ⟨_, _, h1, h2⟩ | ⟨h1, _⟩
            · exact ⟨h2.2 HQA.out, h1⟩
            · exact (h1 ⟨HPD.out, HAA.out⟩).elim
          have HB11 := Lib.hid (below_size HB10.out hB11)
          have HXD11 := Lib.hid (HXD10.out.below hB11 HXD10.out.lt)
          have HID11 := Lib.hid (HID10.out.below hB11)
          obtain ⟨x3, x4, _, _, _⟩ := HK.out _ HB11.out
          clear c0 c1 c2 c3 d0 d1 hO11 hB11 HXD10 HID10
          have c0 := x3.c0
          have c1 := x3.c1
          have c2 := x4.c0
          have c3 := x4.c1
          have d0 := HXD11.out.c0
          have d1 := HXD11.out.c1
          clear x3 x4
          go_wp2_with fail
          refine (HIH.out _ _ fc fb rc rb w11 HID11.out (HK.out _ HB11.out).2.2.2.1 HPE.out HEB.out hpl lb hpr1 hpr2 rb1 rb2).mono ?_
          rintro e w12 ⟨second, five, rfl, hO12, hB12⟩
          obtain ⟨rfl, rfl⟩ : second = true ∧ five = 0 := by
            rcases hO12 with ⟨_, _, h1, h2⟩ | ⟨h1, _⟩
            · exact ⟨h2.2 HQB.out, h1⟩
            · exact (h1 ⟨HPD.out, HBB.out⟩).elim
          have HB12 := Lib.hid (below_size HB11.out hB12)
          clear c0 c1 c2 c3 d0 d1 hO12 hB12
          go_wp2_with fail
          go_ret
          exact ⟨rfl, (HK.out _ HB12.out).2.2.2.2⟩
end Go.Proofs.Ytdgjjdmodbbjhaa.fnAbelianQuotients
