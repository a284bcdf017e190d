/-
  The walk of the law FnPrimary.
-/
import Derived.Test.YtnedihpppbjmdaaGreatDoorAgj
import Derived.Test.YtnedihpppbjmdaaGreatDoorAgk
import Derived.Test.YtnedihpppbjmdaaGreatDoorAgf
import Derived.Test.YtnedihpppbjmdaaGreatDoorAgg
import Derived.Test.YtnedihpppbjmdaaGreatDoorAgi
import Derived.Test.YtnedihpppbjmdaaGreatDoorQbd
namespace Go.Proofs.YtnedihpppbjmdaaGreatDoor.fnPrimary
set_option linter.unusedVariables false
set_option linter.unusedSimpArgs false
set_option maxRecDepth 100000
open Go.RowKit

set_option maxHeartbeats 16000000 in
theorem core (v : Value) (n : Nat) (w : World) (h : RdU w v n) (hF : FmtOK w) (hM : MaxL w) : Calls Tryz.prog 3 #[v] w (RetV w (.bool true)) := by
  by_cases hb : 4096 < n
  · have hd : decide (4096 < n) = true := decide_eq_true hb
    go_enter Tryz.func3, Tryz.ntmps3
    go_wp2_with fail
    refine (l_big v n w h).mono ?_
    rintro e w' ⟨rfl, rfl⟩
    rw [hd]
    go_wp2_with fail
    go_ret
    exact ⟨rfl, Below.refl _ _⟩
  · have hd : decide (4096 < n) = false := decide_eq_false hb
    have hn : n ≤ 1000000 := by omega
    have HF := Lib.hid hF
    have HM := Lib.hid hM
    clear hb hF hM
    go_enter Tryz.func3, Tryz.ntmps3
    go_wp2_with fail
    refine (l_big v n w h).mono ?_
    rintro e w' ⟨rfl, rfl⟩
    rw [hd]
    clear hd
    go_wp2_with fail
    refine (s_DrawPrimary v n w h hn).mono ?_
    rintro e w1 ⟨va, fa, ra, rfl, la, ea, ra1, ra2, hA, hB1⟩
    obtain ⟨na, hna⟩ : ∃ x, fa.length = x := ⟨_, rfl⟩
    obtain ⟨aa, ca, hva, _, _⟩ := rd_formN hA (n := na) (by rw [nI_length, hna])
    subst hva
    rw [hna] at la
    have hbl := below_alloc w1 (.cells #[.slice aa na ca, .int .i64 ra] 26)
    have HX3 := Lib.hid (B2.new w1 (.slice aa na ca) (.int .i64 ra))
    have HA1 := Lib.hid (hA.below hbl)
    have HW := Lib.hid (below_size hB1 hbl)
    have HEA : Hid (∀ f ∈ fa, f ≤ 1000000000) := fun f hf => by have := ea f hf; omega
    have HNA := Lib.hid hna
    obtain ⟨b3, hb3⟩ : ∃ x, x = w1.heap.size := ⟨_, rfl⟩
    rw [← hb3] at HX3
    clear hA hB1 h ea hbl hna
    go_wp2_with fail
    try rw [← hb3]
    generalize w1.alloc (.cells #[.slice aa na ca, .int .i64 ra] 26) = wd at *
    clear hb3
    have HK : Hid (∀ wz, Below wd.heap.size wd wz → B2 wz b3 (.slice aa na ca) (.int .i64 ra) ∧ Rd wz (.slice aa na ca) (nI fa) ∧ Below w.heap.size w wz) := fun wz hz => ⟨HX3.out.below hz HX3.out.lt, HA1.out.below hz, below_size HW.out hz⟩
    have HIA : Hid (fa.length ≤ 1000) := by show _ ≤ _; rw [HNA.out]; omega
    refine (i_PrimaryParts _ fa ra wd HA1.out HEA.out HIA.out (by omega) (by omega)).mono ?_
    rintro e w2 ⟨v2, ps, k, rfl, hI2, hO2, hB2⟩
    obtain ⟨np, hnp⟩ : ∃ x, ps.length = x := ⟨_, rfl⟩
    obtain ⟨a2, c2, hv2, _, _⟩ := rd_formN hI2.rd (n := np) (by rw [nI_length, hnp])
    subst hv2
    have HB2 := Lib.hid hB2
    have HV2 := Lib.hid hI2.rd
    have HO2 := Lib.hid hO2
    have HNP := Lib.hid hnp
    obtain ⟨x3, _, _⟩ := HK.out _ hB2
    have c0 := x3.c0
    have c1 := x3.c1
    clear hI2 hO2 hB2 hnp x3 HX3 HA1 HW
    go_wp2_with fail
    refine (s_PrimaryParts _ fa ra w2 (HK.out _ HB2.out).2.1 HEA.out HIA.out (by omega) (by omega)).mono ?_
    rintro e w3 ⟨v3, ps', k', rfl, hI3, hO3, hB3⟩
    obtain ⟨rfl, rfl⟩ := pk_uniq HO2.out hO3
    obtain ⟨a3, c3, hv3, _, _⟩ := rd_formN hI3.rd (n := np) (by rw [nI_length, HNP.out])
    subst hv3
    have HB3 := Lib.hid (below_size HB2.out hB3)
    have HV3 := Lib.hid hI3.rd
    have HV2' := Lib.hid (HV2.out.below hB3)
    obtain ⟨x3, _, _⟩ := HK.out _ HB3.out
    clear c0 c1 hI3 hO3 hB3 HV2 HB2
    have c0 := x3.c0
    have c1 := x3.c1
    clear x3
    go_wp2_with fail
    refine (i_AbelianText _ fa ra w3 (HK.out _ HB3.out).2.1 HEA.out (HF.out.below (HK.out _ HB3.out).2.2) HIA.out (by omega) (by omega)).mono ?_
    rintro e w4 ⟨s4, k4, rfl, hT4, hB4⟩
    have HT4 := Lib.hid hT4
    have HB4 := Lib.hid (below_size HB3.out hB4)
    have HV2 := Lib.hid (HV2'.out.below hB4)
    have HV3' := Lib.hid (HV3.out.below hB4)
    obtain ⟨x3, _, _⟩ := HK.out _ HB4.out
    clear c0 c1 hT4 hB4 HV2' HV3 HB3
    have c0 := x3.c0
    have c1 := x3.c1
    clear x3
    go_wp2_with fail
    refine (s_AbelianText _ fa ra w4 (HK.out _ HB4.out).2.1 HEA.out HIA.out (by omega) (by omega)).mono ?_
    rintro e w5 ⟨s5, k5, rfl, hT5, hB5⟩
    obtain ⟨rfl, rfl⟩ := txk_uniq HT4.out hT5
    have HB5 := Lib.hid (below_size HB4.out hB5)
    have HV2' := Lib.hid (HV2.out.below hB5)
    have HV3 := Lib.hid (HV3'.out.below hB5)
    obtain ⟨x3, _, _⟩ := HK.out _ HB5.out
    clear c0 c1 hT5 hB5 HV2 HV3' HB4
    have c0 := x3.c0
    have c1 := x3.c1
    clear x3
    go_wp2_with fail
    refine (l_like_same _ _ (nI ps') w5 HV2'.out HV3.out).mono ?_
    rintro e w6 ⟨rfl, hB6⟩
    have HB6 := Lib.hid (below_size HB5.out hB6)
    have HV3' := Lib.hid (HV3.out.below hB6)
    obtain ⟨x3, _, _⟩ := HK.out _ HB6.out
    clear c0 c1 hB6 HV2' HV3 HB5
    have c0 := x3.c0
    have c1 := x3.c1
    clear x3
    rcases HO2.out with ⟨hab, hps, hk⟩ | ⟨hno, hps, hk⟩
    case inr =>
      subst hk
      clear hno hps HO2 HT4
      go_wp2_with fail
      go_ret
      exact ⟨rfl, (HK.out _ HB6.out).2.2⟩
    case inl =>
      subst hk
      have HAB := Lib.hid hab
      have HPS := Lib.hid hps
      have HS5 : Hid (s5.data.toList = atx fa ra.toNat) := by
        rcases HT4.out with ⟨_, h, _⟩ | ⟨h, _⟩
        · exact h
        · exact (h hab).elim
      have h0 := hab.1
      obtain ⟨rn, hrn⟩ : ∃ x : Nat, ra = (x : Int) := ⟨ra.toNat, by omega⟩
      subst hrn
      clear hab hps HO2 HT4 h0
      go_wp2_with fail
      refine (i_ReadAbelian s5 fa rn w6 HAB.out (by rw [HS5.out, Int.toNat_natCast]) (HF.out.below (HK.out _ HB6.out).2.2) (HM.out.below (HK.out _ HB6.out).2.2)).mono ?_
      rintro e w7 ⟨v7, f7, r7, k7, rfl, hI7, ⟨e1, e2, e3⟩, hB7⟩
      subst e3
      have e1' : fa = f7 := e1.symm
      have e2' : (rn : Int) = r7 := e2.symm
      subst e1' e2'
      obtain ⟨a7, c7, hv7, _, _⟩ := rd_formN hI7.rd (n := na) (by rw [nI_length, HNA.out])
      subst hv7
      have HB7 := Lib.hid (below_size (below_size HB6.out hB7) (below_alloc w7 (.cells #[.slice a7 na c7, .int .i64 (rn : Int)] 26)))
      have HX7 := Lib.hid (B2.new w7 (.slice a7 na c7) (.int .i64 (rn : Int)))
      have HI7 := Lib.hid (hI7.rd.below (below_alloc w7 (.cells #[.slice a7 na c7, .int .i64 (rn : Int)] 26)))
      have HV3 := Lib.hid ((HV3'.out.below hB7).below (below_alloc w7 (.cells #[.slice a7 na c7, .int .i64 (rn : Int)] 26)))
      obtain ⟨x3, _, _⟩ := HK.out _ (below_size HB6.out hB7)
      clear c0 c1 e1 e2 hI7 hB7 HB6 HV3'
      have c0 := x3.c0
      have c1 := x3.c1
      have hl := x3.lt
      clear x3
      have HLK := Lib.hid (l_likeAb _ _ fa fa (rn : Int) (rn : Int) _ (HK.out _ HB7.out).2.1 HI7.out)
      rw [decide_eq_true (show (rn : Int) = (rn : Int) ∧ fa = fa from ⟨rfl, rfl⟩)] at HLK
      go_wp2_with fail
      refine HLK.out.mono ?_
      rintro e w8 ⟨rfl, hB8⟩
      have HB8 := Lib.hid (below_size HB7.out hB8)
      have HV3' := Lib.hid (HV3.out.below hB8)
      obtain ⟨x3, _, _⟩ := HK.out _ HB8.out
      clear c0 c1 hB8 HB7 HX7 HI7 HV3 HLK hl
      have c0 := x3.c0
      have c1 := x3.c1
      have hl := x3.lt
      clear x3
      have HPW : Hid (∀ q ∈ ps', PPw q) := fun q hq => parts_ppw (fun f hf => HAB.out.chn.1 f hf) q ((sortP_perm _).mem_iff.1 (by rw [← HPS.out]; exact hq))
      have HPL : Hid (ps'.length ≤ 100) := by
        show _ ≤ _
        have h1 := parts_few (fs := fa) (fun f hf => HAB.out.chn.1 f hf)
        have h2 := (sortP_perm (parts fa)).length_eq
        rw [HNA.out] at h1
        rw [HPS.out, h2]
        omega
      generalize w7.heap.size = b7 at *
      go_wp2_with fail
      refine (i_FromPrimary _ ps' w8 HV3'.out HPW.out HPL.out).mono ?_
      rintro e w9 ⟨v9, f9, r9, k9, rfl, hI9, hO9, hB9⟩
      rw [HPS.out] at hO9
      obtain ⟨e1, e2, e3⟩ := from_parts HAB.out hO9
      subst e2 e3
      have e1' : fa = f9 := e1.symm
      subst e1'
      obtain ⟨a9, c9, hv9, _, _⟩ := rd_formN hI9.rd (n := na) (by rw [nI_length, HNA.out])
      subst hv9
      have HB9 := Lib.hid (below_size (below_size HB8.out hB9) (below_alloc w9 (.cells #[.slice a9 na c9, .int .i64 0] 26)))
      have HX9 := Lib.hid (B2.new w9 (.slice a9 na c9) (.int .i64 0))
      have HI9 := Lib.hid (hI9.rd.below (below_alloc w9 (.cells #[.slice a9 na c9, .int .i64 0] 26)))
      obtain ⟨x3, _, _⟩ := HK.out _ (below_size HB8.out hB9)
      have HLK := Lib.hid (l_like_same _ _ (nI fa) _ HI9.out (HK.out _ HB9.out).2.1)
      clear c0 c1 hl e1 hI9 hB9 hO9 HB8 HV3' HPW HPL
      have c0 := x3.c0
      have c1 := x3.c1
      have hl := x3.lt
      clear x3
      go_wp2_with fail
      refine HLK.out.mono ?_
      rintro e w10 ⟨rfl, hB10⟩
      have HB10 := Lib.hid (below_size HB9.out hB10)
      have hx := HX9.out.below hB10 (by simp)
      have z1 := hx.c1
      clear c0 c1 hB10 HB9 HI9 HLK hx
      go_wp2_with fail
      go_ret
      exact ⟨rfl, (HK.out _ HB10.out).2.2⟩
end Go.Proofs.YtnedihpppbjmdaaGreatDoor.fnPrimary
