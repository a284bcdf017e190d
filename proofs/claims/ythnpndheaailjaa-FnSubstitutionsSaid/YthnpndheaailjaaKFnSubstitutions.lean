/-
  The walk of the law FnSubstitutions.
-/
import Derived.Test.YthnpndheaailjaaDry
import Derived.Test.YthnpndheaailjaaDrs
import Derived.Test.YthnpndheaailjaaSbp
import Derived.Test.YthnpndheaailjaaLik
import Derived.Test.YthnpndheaailjaaCut
namespace Go.Proofs.Ythnpndheaailjaa.fnSubstitutions
set_option linter.unusedVariables false
set_option linter.unusedSimpArgs false
set_option maxRecDepth 100000
open Go.RowKit

set_option maxHeartbeats 16000000 in
theorem core (v : Value) (n : Nat) (w : World) (h : RdU w v n) : Calls Try.prog 11 #[v] w (RetV w (.bool true)) := by
  obtain ⟨i0, hi, hz0, hz1, hz2⟩ := info_parts Try.info2
  by_cases hb : 4096 < n
  · have hd : decide (4096 < n) = true := decide_eq_true hb
    go_enter Try.func11, Try.ntmps11
    go_wp2_with fail
    refine (l_big v n w h).mono ?_
    rintro e w' ⟨rfl, rfl⟩
    rw [hd]
    go_wp2_with fail
    go_ret
    exact ⟨rfl, Below.refl _ _⟩
  have hd : decide (4096 < n) = false := decide_eq_false hb
  have hn : n ≤ 1000000 := by omega
  clear hb
  go_enter Try.func11, Try.ntmps11
  go_wp2_with fail
  refine (l_big v n w h).mono ?_
  rintro e w' ⟨rfl, rfl⟩
  rw [hd]
  clear hd
  go_wp2_with fail
  refine (s_DrawSubstituteWord v n w h hn).mono ?_
  rintro e w1 ⟨k, va, xs, m, vi, L, rfl, hA, hL, hB1⟩
  have HA1 := Lib.hid hA
  have HL1 := Lib.hid hL
  obtain ⟨ao, ca, rfl, hca, _⟩ := hA.form
  obtain ⟨lo, lc, rfl, _, _⟩ := hL.form
  obtain ⟨c, hc⟩ : ∃ c, xs.length / 2 = c := ⟨_, rfl⟩
  clear hA hL h
  go_wp2_with fail
  refine (i_SubstituteWord k _ xs m _ L w1 HA1.out HL1.out).mono ?_
  rintro e w2 ⟨vx, rfl, hIx, hb2⟩
  have hW2 := below_size hB1 hb2
  have HA2 := Lib.hid (HA1.out.below hb2)
  have HL2 := Lib.hid (HL1.out.below hb2)
  have HX2 := Lib.hid (show Rd w2 vx (sbL k m xs L) from hIx.rd)
  obtain ⟨xo, xc, rfl, _, _⟩ := HX2.out.form
  clear hb2 hIx
  go_wp2_with fail
  refine (s_SubstituteWord k _ xs m _ L w2 HA2.out HL2.out).mono ?_
  rintro e w3 ⟨vd, rfl, hId, hb3⟩
  have hW3 := below_size hW2 hb3
  have HA3 := Lib.hid (HA2.out.below hb3)
  have HL3 := Lib.hid (HL2.out.below hb3)
  have HX3 := Lib.hid (HX2.out.below hb3)
  have HD3 := Lib.hid (show Rd w3 vd (sbL k m xs L) from hId.rd)
  obtain ⟨do_, dc, rfl, _, _⟩ := HD3.out.form
  clear hb3 hId
  obtain ⟨c1, hc1⟩ : ∃ c1, sbC k m xs L = c1 := ⟨_, rfl⟩
  rw [show prodC (subC k xs m L) (subL xs L) = c1 from hc1]
  have Hc1 := Lib.hid hc1
  clear hc1
  go_wp2_with fail
  refine (l_like_same _ _ _ w3 HX3.out HD3.out).mono ?_
  rintro e w4 ⟨rfl, hb4⟩
  have hW4 := below_size hW3 hb4
  have HA4 := Lib.hid (HA3.out.below hb4)
  have HL4 := Lib.hid (HL3.out.below hb4)
  have HX4 := Lib.hid (HX3.out.below hb4)
  clear hb4 HA1 HA2 HA3 HL1 HL2 HL3 HX2 HX3 HD3 hB1 hW2 hW3
  by_cases hz : c1 = 0
  case neg =>
    have n1 : (c1 != 0) = true := by simpa using hz
    clear hz
    go_wp2_with fail
    go_ret
    exact ⟨rfl, hW4⟩
  subst hz
  obtain ⟨K, M, rfl, rfl, hK6, hM6, hLK, hw, hall, ck, eX, cX, cI, qA, qB, hAB⟩ := sb_main Hc1.out c
  obtain ⟨X, hX⟩ : ∃ X, redW (subL xs L) = X := ⟨_, rfl⟩
  obtain ⟨A, hAe⟩ : ∃ A, sbL K M (xs.take c) L = A := ⟨_, rfl⟩
  obtain ⟨B, hBe⟩ : ∃ B, sbL K M (xs.drop c) L = B := ⟨_, rfl⟩
  obtain ⟨cA, hcA⟩ : ∃ cA, sbC K M (xs.take c) L = cA := ⟨_, rfl⟩
  obtain ⟨cB, hcB⟩ : ∃ cB, sbC K M (xs.drop c) L = cB := ⟨_, rfl⟩
  have HSM := Lib.hid (sb_sums (images := L) (K := K) (M := M) rfl rfl hw)
  have HBD : Hid (∀ t i, i ≤ 6 → (-30000 ≤ dotT xs L t i ∧ dotT xs L t i ≤ 30000) ∧ (-64 ≤ cnt i xs ∧ cnt i xs ≤ 64) ∧ (-64 ≤ cnt t (L.getD i []) ∧ cnt t (L.getD i []) ≤ 64) ∧ (-4096 ≤ cnt i xs * cnt t (L.getD i []) ∧ cnt i xs * cnt t (L.getD i []) ≤ 4096)) := fun t i hi => sb_bd hw hall t i hi
  have hcl : c ≤ xs.length := by omega
  have hcq : (xs.length : Int) / 2 = (c : Int) := by omega
  have hcl2 : (c : Int) ≤ (xs.length : Int) := by omega
  have hc0 : (0 : Int) ≤ (c : Int) := by omega
  have hx64 : xs.length ≤ 64 := (wordB_iff.1 hw).2
  rw [hX] at eX cX hAB HSM
  rw [hAe, hBe, hcA, hcB] at hAB
  rw [hcA] at qA
  rw [hcB] at qB
  rw [eX] at HX4
  rw [eX]
  have HLK := Lib.hid hLK
  have Hck := Lib.hid ck
  have HcX := Lib.hid cX
  have HcI := Lib.hid cI
  have HAB := Lib.hid hAB
  have HqA := Lib.hid qA
  have HqB := Lib.hid qB
  have HAe := Lib.hid hAe
  have HBe := Lib.hid hBe
  have HcA := Lib.hid hcA
  have HcB := Lib.hid hcB
  have HPRE := Lib.hid (HA4.out.preL c hcl)
  clear hw hall ck eX cX cI hAB hLK hX hc Hc1 hAe hBe hcA hcB qA qB
  have hxs : (0 : Int) ≤ (xs.length : Int) := by omega
  go_wp2_with fail
  refine (i_SubstituteWord _ _ (xs.take c) _ _ L w4 HPRE.out HL4.out).mono ?_
  rintro e w5 ⟨va, rfl, hIa, hb5⟩
  have hW5 := below_size hW4 hb5
  have HA5 := Lib.hid (HA4.out.below hb5)
  have HL5 := Lib.hid (HL4.out.below hb5)
  have HX5 := Lib.hid (HX4.out.below hb5)
  have HP5 : Hid (Rd w5 va A) := by
    have := hIa.rd
    show Rd w5 va A
    rw [← HAe.out]; exact this
  obtain ⟨po, pc, rfl, _, _⟩ := HP5.out.form
  rw [show prodC (subC (K : Int) (xs.take c) (M : Int) L) (subL (xs.take c) L) = cA from HcA.out]
  obtain ⟨a', ha', hsuf⟩ := HA5.out.cutL c hcl
  have HSUF := Lib.hid hsuf
  clear hb5 hIa hsuf HPRE
  by_cases hct4 : ca = c
  · rw [if_pos hct4] at ha'
    subst ha'
    subst hct4
    have e0 : xs.length - ca = 0 := by omega
    have HSUF1 := HSUF.out
    rw [e0, Nat.sub_self] at HSUF1
    clear HSUF e0
    have HSUF := Lib.hid HSUF1
    clear HSUF1
    go_wp2_with fail
    refine (i_SubstituteWord _ _ (xs.drop ca) _ _ L w5 HSUF.out HL5.out).mono ?_
    rintro e w6 ⟨vb, rfl, hIb, hb6⟩
    have hW6 := below_size hW5 hb6
    have HA6 := Lib.hid (HA5.out.below hb6)
    have HL6 := Lib.hid (HL5.out.below hb6)
    have HX6 := Lib.hid (HX5.out.below hb6)
    have HP6 := Lib.hid (HP5.out.below hb6)
    have HQ6 : Hid (Rd w6 vb B) := by
      have := hIb.rd
      show Rd w6 vb B
      rw [← HBe.out]; exact this
    obtain ⟨qo, qc, rfl, _, _⟩ := HQ6.out.form
    rw [show prodC (subC (K : Int) (xs.drop ca) (M : Int) L) (subL (xs.drop ca) L) = cB from HcB.out]
    clear hb6 hIb HSUF HAe HBe HcA HcB HL5 HX5 HP5 HA5
    by_cases hz : cA = 0 ∧ cB = 0
    case neg =>
      rcases HqA.out with rfl | rfl <;> rcases HqB.out with rfl | rfl
      · exact absurd ⟨rfl, rfl⟩ hz
      all_goals
        clear hz HqA HqB HAB
        go_wp2_with fail
        go_ret
        exact ⟨rfl, hW6⟩
    obtain ⟨rfl, rfl⟩ := hz
    obtain ⟨y1, y2⟩ := HAB.out rfl rfl
    have HY1 := Lib.hid y1
    have HY2 := Lib.hid y2
    clear HAB HqA HqB y1 y2
    go_wp2_with fail
    refine (i_MultiplyWords _ _ _ A B w6 HP6.out HQ6.out).mono ?_
    rintro e w7 ⟨vy, rfl, hIy, hb7⟩
    rw [HY2.out] at hIy
    rw [HY1.out]
    have hW7 := below_size hW6 hb7
    have HA7 := Lib.hid (HA6.out.below hb7)
    have HL7 := Lib.hid (HL6.out.below hb7)
    have HX7 := Lib.hid (HX6.out.below hb7)
    have HY7 := Lib.hid hIy.rd
    obtain ⟨yo, yc, rfl, _, _⟩ := HY7.out.form
    clear hb7 hIy HP6 HQ6 HL6 HX6 HA6 HY1 HY2
    go_wp2_with fail
    refine (l_like_same _ _ _ w7 HX7.out HY7.out).mono ?_
    rintro e w8 ⟨rfl, hb8⟩
    have hW8 := below_size hW7 hb8
    have HA8 := Lib.hid (HA7.out.below hb8)
    have HL8 := Lib.hid (HL7.out.below hb8)
    have HX8 := Lib.hid (HX7.out.below hb8)
    clear hb8 HY7 HX7 HL7 HA7
    go_wp2_with fail
    refine (i_ExponentSums _ _ X w8 HX8.out).mono ?_
    rintro e w9 ⟨vs, rfl, hIs, hb9⟩
    rw [HcX.out] at hIs
    rw [HcX.out]
    have hW9 := below_size hW8 hb9
    have HA9 := Lib.hid (HA8.out.below hb9)
    have HL9 := Lib.hid (HL8.out.below hb9)
    have HS9 : Hid (Rd w9 vs (totJ xs L M K 0)) := by
      show Rd _ _ _
      rw [← HSM.out]; exact hIs.rd
    obtain ⟨so, sc, rfl, _, _⟩ := rd_formN HS9.out (totJ_len xs L M K 0)
    clear hb9 hIs HcX HX8 HA8 HL8
    have hmx : (if 0 < M then (M : Int) else 0) = (M : Int) := by split <;> omega
    have hM1 : M ≤ 1000000000 := by omega
    go_wp2_with (at_make; refine wp_mkInts _ rfl _ _ rfl i0 Try.underlying22 hi hz0 hz1 hz2 _ _ _ _ M rfl rfl rfl rfl hM1 ?_)
    intro w10 hI10 hb10 hlt10
    have hW10 := below_size hW9 hb10
    have HA10 := Lib.hid (HA9.out.below hb10)
    rw [← totJ_zero xs L M] at hI10
    have HT10 := Lib.hid hI10
    have HB910 := Lib.hid hb10
    clear hb10 HA9 hI10 hmx
    go_wp2_with fail
    refine (i_ExponentSums _ _ xs w10 HA10.out).mono ?_
    rintro e w11 ⟨vp, rfl, hIp, hb11⟩
    rw [Hck.out] at hIp
    rw [Hck.out]
    have hW11 := below_size hW10 hb11
    have HT11 := Lib.hid (HT10.out.below hb11)
    have HP11 := Lib.hid (show Ints w11 w10.heap.size vp (expW (K : Int) xs) from hIp)
    obtain ⟨po2, pc2, rfl, _, _⟩ := rd_formN HP11.out.rd (n := K) (by rw [expW_length]; simp)
    have s11 := hb11.size
    have s911 : w9.heap.size ≤ w11.heap.size := by omega
    have HB9 : Hid (Below w9.heap.size w9 w11) := HB910.out.trans (hb11.mono (by omega))
    clear hb11 hIp HT10 HA10 Hck
    go_wp2_with fail
    go_loopw [23] (fun i wr => ∃ j : Nat, j ≤ K ∧ i = .int .i64 j ∧ Ints wr w9.heap.size (.slice (some ⟨w9.heap.size, 0, none⟩) M M) (totJ xs L M j 0) ∧ Chg w9.heap.size (w9.heap.size + 1) w11 wr) (fun i _ => K - (intOf i).toNat)
    case atStart => exact ⟨0, Nat.zero_le _, rfl, HT11.out, Chg.refl _ _ _⟩
    case round =>
      obtain ⟨j, hj, rfl, hT, hC⟩ := hrel
      have HT := Lib.hid hT
      have HC := Lib.hid hC
      obtain ⟨wo, hwo⟩ : ∃ x, x = wr := ⟨_, rfl⟩
      subst hwo
      have gB : Below w9.heap.size w9 wo := HB9.out.trans (hC.below (Nat.le_refl _) s911)
      have szo : w9.heap.size < wo.heap.size := by have := hC.size; omega
      clear hT hC
      by_cases hlt : j < K
      · have hjl : j < L.length := by rw [HLK.out]; exact hlt
        obtain ⟨bz, oz, r, rfl, hcz, hrz⟩ := (HL9.out.below gB).at hjl
        have HIj := Lib.hid (HcI.out j)
        have HRZ := Lib.hid hrz
        obtain ⟨ar, cr, rfl, _, _⟩ := hrz.form
        have HNX := Lib.hid (fun t ht => totJ_set xs L M j t ht)
        have HB := Lib.hid (fun t => HBD.out t j (by omega))
        have HE := Lib.hid (totJ_next xs L M j)
        obtain ⟨y, hy⟩ : ∃ y, L.getD j [] = y := ⟨_, rfl⟩
        rw [hy] at HIj HNX HB HRZ hcz
        clear hrz hy
        go_wp2_with fail
        refine (i_ExponentSums _ _ y wo HRZ.out).mono ?_
        rintro e w12 ⟨v1, rfl, hI1, hb12⟩
        rw [HIj.out] at hI1
        rw [HIj.out]
        have HO12 := Lib.hid (show Ints w12 wo.heap.size v1 (expW (M : Int) y) from hI1)
        obtain ⟨oo, oc, rfl, _, _⟩ := rd_formN HO12.out.rd (n := M) (by rw [expW_length]; simp)
        have HT12 := Lib.hid (HT.out.below hb12)
        have HC12 := Lib.hid (HC.out.trans (Chg.of_below hb12 w9.heap.size (w9.heap.size + 1)) (Nat.le_refl _) (Nat.le_refl _) (Nat.le_refl _) (Nat.le_refl _))
        have s12 := hb12.size
        clear hb12 hI1 HT HC HRZ HIj hcz gB
        go_wp2_with fail
        go_loopw [26] (fun i wr => ∃ t : Nat, t ≤ M ∧ i = .int .i64 t ∧ Ints wr w9.heap.size (.slice (some ⟨w9.heap.size, 0, none⟩) M M) (totJ xs L M j t) ∧ Chg w9.heap.size (w9.heap.size + 1) w12 wr) (fun i _ => M - (intOf i).toNat)
        case atStart => exact ⟨0, Nat.zero_le _, rfl, HT12.out, Chg.refl _ _ _⟩
        case round =>
          obtain ⟨t, ht, rfl, hT, hC⟩ := hrel
          have HC := Lib.hid hC
          have HT := Lib.hid hT
          by_cases htl : t < M
          · obtain ⟨c0, f0⟩ := hT.cellsG (totJ_len xs L M j t)
            have hct := c0 t htl
            have hft := f0 t
            rw [totJ_at xs L M j t htl, if_neg (Nat.lt_irrefl t)] at hct
            have hP := (HP11.out.chg (HC12.out.trans hC (Nat.le_refl _) (Nat.le_refl _) (Nat.le_refl _) (Nat.le_refl _)) (fun g hg => .inr (by have := (HP11.out.lt g hg).1; omega))).rd
            have hO := (HO12.out.chg hC (fun g hg => .inr (by have := (HO12.out.lt g hg).1; omega))).rd
            obtain ⟨bp, op, rfl, hcp⟩ := hP.at (show j < (expW (K : Int) xs).length by rw [expW_length]; simpa using hlt)
            obtain ⟨bo, oo2, rfl, hco⟩ := hO.at (show t < (expW (M : Int) y).length by rw [expW_length]; simpa using htl)
            rw [expW_cnt (K : Int) xs (t := j) (by simpa using hlt)] at hcp
            rw [expW_cnt (M : Int) y (t := t) (by simpa using htl)] at hco
            obtain ⟨b1, b2, b3, b4⟩ := HB.out t
            have hset := HNX.out t htl
            obtain ⟨hI2, hC2⟩ := hT.set (totJ_len xs L M j t).symm t (dotT xs L t j + cnt j xs * cnt t y)
            rw [hset] at hI2
            have HI2 := Lib.hid hI2
            have HC2 := Lib.hid hC2
            clear hset hI2 hC2 c0 f0 hP hO hT hC
            generalize dotT xs L t j = d at *
            obtain ⟨z, hz⟩ : ∃ z, cnt j xs * cnt t y = z := ⟨_, rfl⟩
            rw [hz] at HI2 HC2 b4
            generalize cnt j xs = p at *
            generalize cnt t y = q at *
            have W1 : IntKind.i64.wrap (p * q) = z := by rw [hz]; exact IntWalk.i64_in _ (by omega)
            have W2 : IntKind.i64.wrap (d + z) = d + z := IntWalk.i64_in _ (by omega)
            have x1 : (0 : Int) ≤ (t : Int) := by omega
            have x2 : (t : Int) < (M : Int) := by omega
            have x3 : (0 : Int) ≤ (j : Int) := by omega
            have x4 : (j : Int) < (K : Int) := by omega
            clear hz
            go_wp2_with fail
            apply via
            case h =>
              go_region
              all_goals exact ⟨rfl, rfl⟩
            clear W1 W2
            go_wp2_with fail
            go_roundw
            case rel => exact ⟨t + 1, by omega, by go_num, HI2.out, HC.out.trans (HC2.out.drew 1) (Nat.le_refl _) (Nat.le_refl _) (Nat.le_refl _) (Nat.le_refl _)⟩
            case measure => simp [intOf]; omega
          · obtain rfl : t = M := by omega
            rw [HE.out] at hT
            have HTx := Lib.hid hT
            clear hT hC
            go_wp2_with fail
            go_roundw
            case rel => exact ⟨j + 1, by omega, by go_num, HTx.out, HC12.out.trans HC.out (Nat.le_refl _) (Nat.le_refl _) (Nat.le_refl _) (Nat.le_refl _)⟩
            case measure => simp [intOf]; omega
      · obtain rfl : j = K := by omega
        go_wp2_with fail
        refine (l_like_same _ _ _ wo (HS9.out.below gB) HT.out.rd).mono ?_
        rintro e w12 ⟨rfl, hb12⟩
        have hW12 := below_size (hW9.trans (gB.mono hW9.size)) hb12
        clear hb12
        go_wp2_with fail
        go_ret
        exact ⟨rfl, hW12⟩
  · rw [if_neg hct4] at ha'
    subst ha'
    go_wp2_with fail
    refine (i_SubstituteWord _ _ (xs.drop c) _ _ L w5 HSUF.out HL5.out).mono ?_
    rintro e w6 ⟨vb, rfl, hIb, hb6⟩
    have hW6 := below_size hW5 hb6
    have HA6 := Lib.hid (HA5.out.below hb6)
    have HL6 := Lib.hid (HL5.out.below hb6)
    have HX6 := Lib.hid (HX5.out.below hb6)
    have HP6 := Lib.hid (HP5.out.below hb6)
    have HQ6 : Hid (Rd w6 vb B) := by
      have := hIb.rd
      show Rd w6 vb B
      rw [← HBe.out]; exact this
    obtain ⟨qo, qc, rfl, _, _⟩ := HQ6.out.form
    rw [show prodC (subC (K : Int) (xs.drop c) (M : Int) L) (subL (xs.drop c) L) = cB from HcB.out]
    clear hb6 hIb HSUF HAe HBe HcA HcB HL5 HX5 HP5 HA5
    by_cases hz : cA = 0 ∧ cB = 0
    case neg =>
      rcases HqA.out with rfl | rfl <;> rcases HqB.out with rfl | rfl
      · exact absurd ⟨rfl, rfl⟩ hz
      all_goals
        clear hz HqA HqB HAB
        go_wp2_with fail
        go_ret
        exact ⟨rfl, hW6⟩
    obtain ⟨rfl, rfl⟩ := hz
    obtain ⟨y1, y2⟩ := HAB.out rfl rfl
    have HY1 := Lib.hid y1
    have HY2 := Lib.hid y2
    clear HAB HqA HqB y1 y2
    go_wp2_with fail
    refine (i_MultiplyWords _ _ _ A B w6 HP6.out HQ6.out).mono ?_
    rintro e w7 ⟨vy, rfl, hIy, hb7⟩
    rw [HY2.out] at hIy
    rw [HY1.out]
    have hW7 := below_size hW6 hb7
    have HA7 := Lib.hid (HA6.out.below hb7)
    have HL7 := Lib.hid (HL6.out.below hb7)
    have HX7 := Lib.hid (HX6.out.below hb7)
    have HY7 := Lib.hid hIy.rd
    obtain ⟨yo, yc, rfl, _, _⟩ := HY7.out.form
    clear hb7 hIy HP6 HQ6 HL6 HX6 HA6 HY1 HY2
    go_wp2_with fail
    refine (l_like_same _ _ _ w7 HX7.out HY7.out).mono ?_
    rintro e w8 ⟨rfl, hb8⟩
    have hW8 := below_size hW7 hb8
    have HA8 := Lib.hid (HA7.out.below hb8)
    have HL8 := Lib.hid (HL7.out.below hb8)
    have HX8 := Lib.hid (HX7.out.below hb8)
    clear hb8 HY7 HX7 HL7 HA7
    go_wp2_with fail
    refine (i_ExponentSums _ _ X w8 HX8.out).mono ?_
    rintro e w9 ⟨vs, rfl, hIs, hb9⟩
    rw [HcX.out] at hIs
    rw [HcX.out]
    have hW9 := below_size hW8 hb9
    have HA9 := Lib.hid (HA8.out.below hb9)
    have HL9 := Lib.hid (HL8.out.below hb9)
    have HS9 : Hid (Rd w9 vs (totJ xs L M K 0)) := by
      show Rd _ _ _
      rw [← HSM.out]; exact hIs.rd
    obtain ⟨so, sc, rfl, _, _⟩ := rd_formN HS9.out (totJ_len xs L M K 0)
    clear hb9 hIs HcX HX8 HA8 HL8
    have hmx : (if 0 < M then (M : Int) else 0) = (M : Int) := by split <;> omega
    have hM1 : M ≤ 1000000000 := by omega
    go_wp2_with (at_make; refine wp_mkInts _ rfl _ _ rfl i0 Try.underlying22 hi hz0 hz1 hz2 _ _ _ _ M rfl rfl rfl rfl hM1 ?_)
    intro w10 hI10 hb10 hlt10
    have hW10 := below_size hW9 hb10
    have HA10 := Lib.hid (HA9.out.below hb10)
    rw [← totJ_zero xs L M] at hI10
    have HT10 := Lib.hid hI10
    have HB910 := Lib.hid hb10
    clear hb10 HA9 hI10 hmx
    go_wp2_with fail
    refine (i_ExponentSums _ _ xs w10 HA10.out).mono ?_
    rintro e w11 ⟨vp, rfl, hIp, hb11⟩
    rw [Hck.out] at hIp
    rw [Hck.out]
    have hW11 := below_size hW10 hb11
    have HT11 := Lib.hid (HT10.out.below hb11)
    have HP11 := Lib.hid (show Ints w11 w10.heap.size vp (expW (K : Int) xs) from hIp)
    obtain ⟨po2, pc2, rfl, _, _⟩ := rd_formN HP11.out.rd (n := K) (by rw [expW_length]; simp)
    have s11 := hb11.size
    have s911 : w9.heap.size ≤ w11.heap.size := by omega
    have HB9 : Hid (Below w9.heap.size w9 w11) := HB910.out.trans (hb11.mono (by omega))
    clear hb11 hIp HT10 HA10 Hck
    go_wp2_with fail
    go_loopw [23] (fun i wr => ∃ j : Nat, j ≤ K ∧ i = .int .i64 j ∧ Ints wr w9.heap.size (.slice (some ⟨w9.heap.size, 0, none⟩) M M) (totJ xs L M j 0) ∧ Chg w9.heap.size (w9.heap.size + 1) w11 wr) (fun i _ => K - (intOf i).toNat)
    case atStart => exact ⟨0, Nat.zero_le _, rfl, HT11.out, Chg.refl _ _ _⟩
    case round =>
      obtain ⟨j, hj, rfl, hT, hC⟩ := hrel
      have HT := Lib.hid hT
      have HC := Lib.hid hC
      obtain ⟨wo, hwo⟩ : ∃ x, x = wr := ⟨_, rfl⟩
      subst hwo
      have gB : Below w9.heap.size w9 wo := HB9.out.trans (hC.below (Nat.le_refl _) s911)
      have szo : w9.heap.size < wo.heap.size := by have := hC.size; omega
      clear hT hC
      by_cases hlt : j < K
      · have hjl : j < L.length := by rw [HLK.out]; exact hlt
        obtain ⟨bz, oz, r, rfl, hcz, hrz⟩ := (HL9.out.below gB).at hjl
        have HIj := Lib.hid (HcI.out j)
        have HRZ := Lib.hid hrz
        obtain ⟨ar, cr, rfl, _, _⟩ := hrz.form
        have HNX := Lib.hid (fun t ht => totJ_set xs L M j t ht)
        have HB := Lib.hid (fun t => HBD.out t j (by omega))
        have HE := Lib.hid (totJ_next xs L M j)
        obtain ⟨y, hy⟩ : ∃ y, L.getD j [] = y := ⟨_, rfl⟩
        rw [hy] at HIj HNX HB HRZ hcz
        clear hrz hy
        go_wp2_with fail
        refine (i_ExponentSums _ _ y wo HRZ.out).mono ?_
        rintro e w12 ⟨v1, rfl, hI1, hb12⟩
        rw [HIj.out] at hI1
        rw [HIj.out]
        have HO12 := Lib.hid (show Ints w12 wo.heap.size v1 (expW (M : Int) y) from hI1)
        obtain ⟨oo, oc, rfl, _, _⟩ := rd_formN HO12.out.rd (n := M) (by rw [expW_length]; simp)
        have HT12 := Lib.hid (HT.out.below hb12)
        have HC12 := Lib.hid (HC.out.trans (Chg.of_below hb12 w9.heap.size (w9.heap.size + 1)) (Nat.le_refl _) (Nat.le_refl _) (Nat.le_refl _) (Nat.le_refl _))
        have s12 := hb12.size
        clear hb12 hI1 HT HC HRZ HIj hcz gB
        go_wp2_with fail
        go_loopw [26] (fun i wr => ∃ t : Nat, t ≤ M ∧ i = .int .i64 t ∧ Ints wr w9.heap.size (.slice (some ⟨w9.heap.size, 0, none⟩) M M) (totJ xs L M j t) ∧ Chg w9.heap.size (w9.heap.size + 1) w12 wr) (fun i _ => M - (intOf i).toNat)
        case atStart => exact ⟨0, Nat.zero_le _, rfl, HT12.out, Chg.refl _ _ _⟩
        case round =>
          obtain ⟨t, ht, rfl, hT, hC⟩ := hrel
          have HC := Lib.hid hC
          have HT := Lib.hid hT
          by_cases htl : t < M
          · obtain ⟨c0, f0⟩ := hT.cellsG (totJ_len xs L M j t)
            have hct := c0 t htl
            have hft := f0 t
            rw [totJ_at xs L M j t htl, if_neg (Nat.lt_irrefl t)] at hct
            have hP := (HP11.out.chg (HC12.out.trans hC (Nat.le_refl _) (Nat.le_refl _) (Nat.le_refl _) (Nat.le_refl _)) (fun g hg => .inr (by have := (HP11.out.lt g hg).1; omega))).rd
            have hO := (HO12.out.chg hC (fun g hg => .inr (by have := (HO12.out.lt g hg).1; omega))).rd
            obtain ⟨bp, op, rfl, hcp⟩ := hP.at (show j < (expW (K : Int) xs).length by rw [expW_length]; simpa using hlt)
            obtain ⟨bo, oo2, rfl, hco⟩ := hO.at (show t < (expW (M : Int) y).length by rw [expW_length]; simpa using htl)
            rw [expW_cnt (K : Int) xs (t := j) (by simpa using hlt)] at hcp
            rw [expW_cnt (M : Int) y (t := t) (by simpa using htl)] at hco
            obtain ⟨b1, b2, b3, b4⟩ := HB.out t
            have hset := HNX.out t htl
            obtain ⟨hI2, hC2⟩ := hT.set (totJ_len xs L M j t).symm t (dotT xs L t j + cnt j xs * cnt t y)
            rw [hset] at hI2
            have HI2 := Lib.hid hI2
            have HC2 := Lib.hid hC2
            clear hset hI2 hC2 c0 f0 hP hO hT hC
            generalize dotT xs L t j = d at *
            obtain ⟨z, hz⟩ : ∃ z, cnt j xs * cnt t y = z := ⟨_, rfl⟩
            rw [hz] at HI2 HC2 b4
            generalize cnt j xs = p at *
            generalize cnt t y = q at *
            have W1 : IntKind.i64.wrap (p * q) = z := by rw [hz]; exact IntWalk.i64_in _ (by omega)
            have W2 : IntKind.i64.wrap (d + z) = d + z := IntWalk.i64_in _ (by omega)
            have x1 : (0 : Int) ≤ (t : Int) := by omega
            have x2 : (t : Int) < (M : Int) := by omega
            have x3 : (0 : Int) ≤ (j : Int) := by omega
            have x4 : (j : Int) < (K : Int) := by omega
            clear hz
            go_wp2_with fail
            apply via
            case h =>
              go_region
              all_goals exact ⟨rfl, rfl⟩
            clear W1 W2
            go_wp2_with fail
            go_roundw
            case rel => exact ⟨t + 1, by omega, by go_num, HI2.out, HC.out.trans (HC2.out.drew 1) (Nat.le_refl _) (Nat.le_refl _) (Nat.le_refl _) (Nat.le_refl _)⟩
            case measure => simp [intOf]; omega
          · obtain rfl : t = M := by omega
            rw [HE.out] at hT
            have HTx := Lib.hid hT
            clear hT hC
            go_wp2_with fail
            go_roundw
            case rel => exact ⟨j + 1, by omega, by go_num, HTx.out, HC12.out.trans HC.out (Nat.le_refl _) (Nat.le_refl _) (Nat.le_refl _) (Nat.le_refl _)⟩
            case measure => simp [intOf]; omega
      · obtain rfl : j = K := by omega
        go_wp2_with fail
        refine (l_like_same _ _ _ wo (HS9.out.below gB) HT.out.rd).mono ?_
        rintro e w12 ⟨rfl, hb12⟩
        have hW12 := below_size (hW9.trans (gB.mono hW9.size)) hb12
        clear hb12
        go_wp2_with fail
        go_ret
        exact ⟨rfl, hW12⟩
end Go.Proofs.Ythnpndheaailjaa.fnSubstitutions
