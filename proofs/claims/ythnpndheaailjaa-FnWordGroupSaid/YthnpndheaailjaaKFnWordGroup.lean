/-
  The walk of the law FnWordGroup.
-/
import Derived.Test.YthnpndheaailjaaDrx
import Derived.Test.YthnpndheaailjaaDrs
import Derived.Test.YthnpndheaailjaaGrw
import Derived.Test.YthnpndheaailjaaLik
namespace Go.Proofs.Ythnpndheaailjaa.fnWordGroup
set_option linter.unusedVariables false
set_option linter.unusedSimpArgs false
set_option maxRecDepth 100000
open Go.RowKit

set_option maxHeartbeats 8000000 in
theorem core (v : Value) (n : Nat) (w : World) (h : RdU w v n) : Calls Try.prog 10 #[v] w (RetV w (.bool true)) := by
  by_cases hb : 4096 < n
  · have hd : decide (4096 < n) = true := decide_eq_true hb
    go_enter Try.func10, Try.ntmps10
    go_wp2_with fail
    refine (l_big v n w h).mono ?_
    rintro e w' ⟨rfl, rfl⟩
    rw [hd]
    go_wp2_with fail
    go_ret
    exact ⟨rfl, Below.refl _ _⟩
  · have hd : decide (4096 < n) = false := decide_eq_false hb
    have hn : n ≤ 1000000 := by omega
    clear hb
    go_enter Try.func10, Try.ntmps10
    go_wp2_with fail
    refine (l_big v n w h).mono ?_
    rintro e w' ⟨rfl, rfl⟩
    rw [hd]
    clear hd
    go_wp2_with fail
    refine (s_DrawWordCommutator v n w h hn).mono ?_
    rintro e w1 ⟨k, va, xs, vb, ys, rfl, hA, hB, hB1⟩
    have HA1 := Lib.hid hA
    have HB1 := Lib.hid hB
    obtain ⟨ao, ca, rfl, _, _⟩ := hA.form
    obtain ⟨bo, cb, rfl, _, _⟩ := hB.form
    have HW := Lib.hid (wg_codes k xs ys)
    have HM : Hid (prodC (codeOf k [xs, ys]) (xs ++ ys) = 0 → prodC (codeOf k [ys, xs]) (ys ++ xs) = 0 → ∃ R, WgOut k xs ys R) := fun h3 h4 => wg_main h3 h4
    clear hA hB h
    go_wp2_with fail
    refine (i_WordCommutator k _ _ xs ys w1 HA1.out HB1.out).mono ?_
    rintro e w2 ⟨vc, rfl, hIc, hb2⟩
    have hW2 := below_size hB1 hb2
    have HA2 := Lib.hid (HA1.out.below hb2)
    have HB2 := Lib.hid (HB1.out.below hb2)
    have HC2 := Lib.hid hIc.rd
    clear hb2 hIc
    obtain ⟨m, hm⟩ : ∃ m, (prodL (codeOf k [xs, ys]) (commL xs ys)).length = m := ⟨_, rfl⟩
    obtain ⟨co, cc, rfl, _, _⟩ := rd_formN HC2.out hm
    have Hm := Lib.hid hm
    clear hm
    go_wp2_with fail
    refine (s_WordCommutator k _ _ xs ys w2 HA2.out HB2.out).mono ?_
    rintro e w3 ⟨vd, rfl, hId, hb3⟩
    have hW3 := below_size hW2 hb3
    have HA3 := Lib.hid (HA2.out.below hb3)
    have HB3 := Lib.hid (HB2.out.below hb3)
    have HC3 := Lib.hid (HC2.out.below hb3)
    have HD3 := Lib.hid hId.rd
    obtain ⟨do_, dc, rfl, _, _⟩ := hId.form
    clear hb3 hId
    obtain ⟨c1, hc1⟩ : ∃ c1, prodC (codeOf k [xs, ys]) (commL xs ys) = c1 := ⟨_, rfl⟩
    rw [hc1]
    have Hc1 := Lib.hid hc1
    clear hc1
    go_wp2_with fail
    refine (l_like_same _ _ _ w3 HC3.out HD3.out).mono ?_
    rintro e w4 ⟨rfl, hb4⟩
    have hW4 := below_size hW3 hb4
    have HA4 := Lib.hid (HA3.out.below hb4)
    have HB4 := Lib.hid (HB3.out.below hb4)
    clear hb4
    go_wp2_with fail
    refine (i_MultiplyWords k _ _ xs ys w4 HA4.out HB4.out).mono ?_
    rintro e w5 ⟨vp, rfl, hIp, hb5⟩
    have hW5 := below_size hW4 hb5
    have HA5 := Lib.hid (HA4.out.below hb5)
    have HB5 := Lib.hid (HB4.out.below hb5)
    have HP5 := Lib.hid hIp.rd
    obtain ⟨po, pc, rfl, _, _⟩ := hIp.form
    clear hb5 hIp
    obtain ⟨c3, hc3⟩ : ∃ c3, prodC (codeOf k [xs, ys]) (xs ++ ys) = c3 := ⟨_, rfl⟩
    rw [hc3]
    have Hc3 := Lib.hid hc3
    clear hc3
    go_wp2_with fail
    refine (i_MultiplyWords k _ _ ys xs w5 HB5.out HA5.out).mono ?_
    rintro e w6 ⟨vq, rfl, hIq, hb6⟩
    have hW6 := below_size hW5 hb6
    have HA6 := Lib.hid (HA5.out.below hb6)
    have HP6 := Lib.hid (HP5.out.below hb6)
    have HQ6 := Lib.hid hIq.rd
    obtain ⟨qo, qc, rfl, _, _⟩ := hIq.form
    clear hb6 hIq
    obtain ⟨c4, hc4⟩ : ∃ c4, prodC (codeOf k [ys, xs]) (ys ++ xs) = c4 := ⟨_, rfl⟩
    rw [hc4]
    have Hc4 := Lib.hid hc4
    clear hc4
    by_cases hz : c3 = 0 ∧ c4 = 0
    case neg =>
      have hw := HW.out
      rw [Hc1.out, Hc3.out, Hc4.out] at hw
      rcases hw with hw | ⟨hw3, hw4⟩
      · have n1 : (c1 != 0) = true := by simpa using hw
        clear hw
        by_cases h3 : c3 = 0
        · have n3 : (c3 != 0) = false := by simpa using h3
          have n4 : (c4 != 0) = true := by simpa using fun e => hz ⟨h3, e⟩
          clear h3 hz
          go_wp2_with fail
          go_ret
          exact ⟨rfl, hW6⟩
        · have n3 : (c3 != 0) = true := by simpa using h3
          clear h3 hz
          go_wp2_with fail
          go_ret
          exact ⟨rfl, hW6⟩
      · by_cases h1 : c1 = 0
        · subst h1
          rcases hw3 with rfl | rfl <;> rcases hw4 with rfl | rfl
          · exact absurd ⟨rfl, rfl⟩ hz
          all_goals
            clear hz
            go_wp2_with fail
            go_ret
            exact ⟨rfl, hW6⟩
        · have n1 : (c1 != 0) = true := by simpa using h1
          clear h1
          rcases hw3 with rfl | rfl <;> rcases hw4 with rfl | rfl
          · exact absurd ⟨rfl, rfl⟩ hz
          all_goals
            clear hz
            go_wp2_with fail
            go_ret
            exact ⟨rfl, hW6⟩
    obtain ⟨rfl, rfl⟩ := hz
    obtain ⟨R, o1, o2, o3, o4, o5, o6, o7, o8, o9⟩ := HM.out Hc3.out Hc4.out
    rw [o2] at HP6
    rw [o3] at HQ6
    rw [Hc1.out, Hm.out] at o9
    have H4 := Lib.hid o4
    have H5 := Lib.hid o5
    have H6 := Lib.hid o6
    have H7 := Lib.hid o7
    have H8 := Lib.hid o8
    have H1 := Lib.hid o1
    rw [o2, o3]
    clear o1 o2 o3 o4 o5 o6 o7 o8 HW HM Hc3 Hc4 HA1 HA2 HA3 HA4 HA5 HB1 HB2 HB3 HB4 HB5 HC2 HC3 HD3 HP5 Hm Hc1
    generalize hgab : redW (xs ++ ys) = AB at *
    generalize hgba : redW (ys ++ xs) = BA at *
    clear hgab hgba
    have KEY : ∃ z : Nat, z < 3 ∧ (z = 0 → c1 = 0 ∧ m = 0 ∧ AB = BA) ∧ (z = 1 → c1 = 0 ∧ ¬ m = 0 ∧ ¬ AB = BA) ∧ (z = 2 → ¬ c1 = 0) := by
      by_cases h1 : c1 = 0
      · by_cases h2 : AB = BA
        · exact ⟨0, by omega, fun _ => ⟨h1, (o9 h1).2 h2, h2⟩, fun e => by omega, fun e => by omega⟩
        · exact ⟨1, by omega, fun e => by omega, fun _ => ⟨h1, fun e => h2 ((o9 h1).1 e), h2⟩, fun e => by omega⟩
      · exact ⟨2, by omega, fun e => by omega, fun e => by omega, fun _ => h1⟩
    clear o9
    obtain ⟨z, hz, z0, z1, z2⟩ := KEY
    have hz3 : z = 0 ∨ z = 1 ∨ z = 2 := by omega
    rcases hz3 with rfl | rfl | rfl
    · obtain ⟨rfl, rfl, rfl⟩ := z0 rfl
      clear z0 z1 z2 hz
      go_wp2_with fail
      refine (l_like_same _ _ _ w6 HP6.out HQ6.out).mono ?_
      rintro e w7 ⟨rfl, hb7⟩
      have hW7 := below_size hW6 hb7
      have HA7 := Lib.hid (HA6.out.below hb7)
      have HP7 := Lib.hid (HP6.out.below hb7)
      have HQ7 := Lib.hid (HQ6.out.below hb7)
      clear hb7
      go_wp2_with fail
      refine (i_InvertWord k _ xs w7 HA7.out).mono ?_
      rintro e w8 ⟨vi, rfl, hIi, hb8⟩
      rw [H1.out] at hIi
      rw [H1.out]
      have hIi2 : Rd w8 vi (invW xs) := hIi.rd
      have hW8 := below_size hW7 hb8
      have HA8 := Lib.hid (HA7.out.below hb8)
      have HP8 := Lib.hid (HP7.out.below hb8)
      have HQ8 := Lib.hid (HQ7.out.below hb8)
      have HI8 := Lib.hid hIi2
      obtain ⟨io, ic, rfl, _, _⟩ := hIi2.form
      clear hb8 hIi hIi2
      go_wp2_with fail
      refine (i_MultiplyWords k _ _ xs (invW xs) w8 HA8.out HI8.out).mono ?_
      rintro e w9 ⟨vn, rfl, hIn, hb9⟩
      rw [H4.out] at hIn
      rw [H5.out]
      have hW9 := below_size hW8 hb9
      have HA9 := Lib.hid (HA8.out.below hb9)
      have HP9 := Lib.hid (HP8.out.below hb9)
      have HQ9 := Lib.hid (HQ8.out.below hb9)
      obtain ⟨no, nc, rfl, _, _⟩ := rd_formN hIn.rd (n := 0) rfl
      clear hb9 hIn
      go_wp2_with fail
      refine (i_MultiplyWords k _ _ _ xs w9 HP9.out HA9.out).mono ?_
      rintro e w10 ⟨vx, rfl, hIx, hb10⟩
      rw [H6.out] at hIx
      have hW10 := below_size hW9 hb10
      have HA10 := Lib.hid (HA9.out.below hb10)
      have HQ10 := Lib.hid (HQ9.out.below hb10)
      have HX10 := Lib.hid hIx.rd
      obtain ⟨xo, xc, rfl, _, _⟩ := hIx.form
      clear hb10 hIx
      go_wp2_with fail
      refine (i_MultiplyWords k _ _ xs _ w10 HA10.out HQ10.out).mono ?_
      rintro e w11 ⟨vy, rfl, hIy, hb11⟩
      rw [H7.out] at hIy
      have hW11 := below_size hW10 hb11
      have HX11 := Lib.hid (HX10.out.below hb11)
      have HY11 := Lib.hid hIy.rd
      obtain ⟨yo, yc, rfl, _, _⟩ := hIy.form
      clear hb11 hIy
      rcases H8.out with ⟨e1, e2, e3⟩ | ⟨e1, e2⟩
      · rw [e1, e2]
        have HE3 := Lib.hid e3
        clear e1 e2 e3
        go_wp2_with fail
        refine (l_like_same _ _ _ w11 HX11.out HY11.out).mono ?_
        rintro e w12 ⟨rfl, hb12⟩
        have hW12 := below_size hW11 hb12
        have HX12 := Lib.hid (HX11.out.below hb12)
        clear hb12
        go_wp2_with fail
        refine (i_IsReducedWord k _ R w12 HX12.out).mono ?_
        rintro e w13 ⟨rfl, hb13⟩
        have hW13 := below_size hW12 hb13
        rw [HE3.out]
        clear hb13
        go_wp2_with fail
        go_ret
        exact ⟨rfl, hW13⟩
      · rw [e1, e2]
        clear e1 e2
        go_wp2_with fail
        go_ret
        exact ⟨rfl, hW11⟩
    · obtain ⟨rfl, hm, hne⟩ := z1 rfl
      have hm1 : ((m : Int) == 0) = false := by simpa using hm
      have hdd : decide (AB = BA) = false := decide_eq_false hne
      clear z0 z1 z2 hz hm hne
      go_wp2_with fail
      refine (l_like _ _ _ _ w6 HP6.out HQ6.out).mono ?_
      rintro e w7 ⟨rfl, hb7⟩
      rw [hdd]
      have hW7 := below_size hW6 hb7
      have HA7 := Lib.hid (HA6.out.below hb7)
      have HP7 := Lib.hid (HP6.out.below hb7)
      have HQ7 := Lib.hid (HQ6.out.below hb7)
      clear hb7 hdd
      go_wp2_with fail
      refine (i_InvertWord k _ xs w7 HA7.out).mono ?_
      rintro e w8 ⟨vi, rfl, hIi, hb8⟩
      rw [H1.out] at hIi
      rw [H1.out]
      have hIi2 : Rd w8 vi (invW xs) := hIi.rd
      have hW8 := below_size hW7 hb8
      have HA8 := Lib.hid (HA7.out.below hb8)
      have HP8 := Lib.hid (HP7.out.below hb8)
      have HQ8 := Lib.hid (HQ7.out.below hb8)
      have HI8 := Lib.hid hIi2
      obtain ⟨io, ic, rfl, _, _⟩ := hIi2.form
      clear hb8 hIi hIi2
      go_wp2_with fail
      refine (i_MultiplyWords k _ _ xs (invW xs) w8 HA8.out HI8.out).mono ?_
      rintro e w9 ⟨vn, rfl, hIn, hb9⟩
      rw [H4.out] at hIn
      rw [H5.out]
      have hW9 := below_size hW8 hb9
      have HA9 := Lib.hid (HA8.out.below hb9)
      have HP9 := Lib.hid (HP8.out.below hb9)
      have HQ9 := Lib.hid (HQ8.out.below hb9)
      obtain ⟨no, nc, rfl, _, _⟩ := rd_formN hIn.rd (n := 0) rfl
      clear hb9 hIn
      go_wp2_with fail
      refine (i_MultiplyWords k _ _ _ xs w9 HP9.out HA9.out).mono ?_
      rintro e w10 ⟨vx, rfl, hIx, hb10⟩
      rw [H6.out] at hIx
      have hW10 := below_size hW9 hb10
      have HA10 := Lib.hid (HA9.out.below hb10)
      have HQ10 := Lib.hid (HQ9.out.below hb10)
      have HX10 := Lib.hid hIx.rd
      obtain ⟨xo, xc, rfl, _, _⟩ := hIx.form
      clear hb10 hIx
      go_wp2_with fail
      refine (i_MultiplyWords k _ _ xs _ w10 HA10.out HQ10.out).mono ?_
      rintro e w11 ⟨vy, rfl, hIy, hb11⟩
      rw [H7.out] at hIy
      have hW11 := below_size hW10 hb11
      have HX11 := Lib.hid (HX10.out.below hb11)
      have HY11 := Lib.hid hIy.rd
      obtain ⟨yo, yc, rfl, _, _⟩ := hIy.form
      clear hb11 hIy
      rcases H8.out with ⟨e1, e2, e3⟩ | ⟨e1, e2⟩
      · rw [e1, e2]
        have HE3 := Lib.hid e3
        clear e1 e2 e3
        go_wp2_with fail
        refine (l_like_same _ _ _ w11 HX11.out HY11.out).mono ?_
        rintro e w12 ⟨rfl, hb12⟩
        have hW12 := below_size hW11 hb12
        have HX12 := Lib.hid (HX11.out.below hb12)
        clear hb12
        go_wp2_with fail
        refine (i_IsReducedWord k _ R w12 HX12.out).mono ?_
        rintro e w13 ⟨rfl, hb13⟩
        have hW13 := below_size hW12 hb13
        rw [HE3.out]
        clear hb13
        go_wp2_with fail
        go_ret
        exact ⟨rfl, hW13⟩
      · rw [e1, e2]
        clear e1 e2
        go_wp2_with fail
        go_ret
        exact ⟨rfl, hW11⟩
    · have h1 : (c1 == 0) = false := by simpa using z2 rfl
      clear z0 z1 z2 hz
      obtain ⟨w7, hw7⟩ : ∃ x, x = w6 := ⟨_, rfl⟩
      subst hw7
      have hW7 := hW6
      have HA7 := HA6
      have HP7 := HP6
      have HQ7 := HQ6
      go_wp2_with fail
      refine (i_InvertWord k _ xs w7 HA7.out).mono ?_
      rintro e w8 ⟨vi, rfl, hIi, hb8⟩
      rw [H1.out] at hIi
      rw [H1.out]
      have hIi2 : Rd w8 vi (invW xs) := hIi.rd
      have hW8 := below_size hW7 hb8
      have HA8 := Lib.hid (HA7.out.below hb8)
      have HP8 := Lib.hid (HP7.out.below hb8)
      have HQ8 := Lib.hid (HQ7.out.below hb8)
      have HI8 := Lib.hid hIi2
      obtain ⟨io, ic, rfl, _, _⟩ := hIi2.form
      clear hb8 hIi hIi2
      go_wp2_with fail
      refine (i_MultiplyWords k _ _ xs (invW xs) w8 HA8.out HI8.out).mono ?_
      rintro e w9 ⟨vn, rfl, hIn, hb9⟩
      rw [H4.out] at hIn
      rw [H5.out]
      have hW9 := below_size hW8 hb9
      have HA9 := Lib.hid (HA8.out.below hb9)
      have HP9 := Lib.hid (HP8.out.below hb9)
      have HQ9 := Lib.hid (HQ8.out.below hb9)
      obtain ⟨no, nc, rfl, _, _⟩ := rd_formN hIn.rd (n := 0) rfl
      clear hb9 hIn
      go_wp2_with fail
      refine (i_MultiplyWords k _ _ _ xs w9 HP9.out HA9.out).mono ?_
      rintro e w10 ⟨vx, rfl, hIx, hb10⟩
      rw [H6.out] at hIx
      have hW10 := below_size hW9 hb10
      have HA10 := Lib.hid (HA9.out.below hb10)
      have HQ10 := Lib.hid (HQ9.out.below hb10)
      have HX10 := Lib.hid hIx.rd
      obtain ⟨xo, xc, rfl, _, _⟩ := hIx.form
      clear hb10 hIx
      go_wp2_with fail
      refine (i_MultiplyWords k _ _ xs _ w10 HA10.out HQ10.out).mono ?_
      rintro e w11 ⟨vy, rfl, hIy, hb11⟩
      rw [H7.out] at hIy
      have hW11 := below_size hW10 hb11
      have HX11 := Lib.hid (HX10.out.below hb11)
      have HY11 := Lib.hid hIy.rd
      obtain ⟨yo, yc, rfl, _, _⟩ := hIy.form
      clear hb11 hIy
      rcases H8.out with ⟨e1, e2, e3⟩ | ⟨e1, e2⟩
      · rw [e1, e2]
        have HE3 := Lib.hid e3
        clear e1 e2 e3
        go_wp2_with fail
        refine (l_like_same _ _ _ w11 HX11.out HY11.out).mono ?_
        rintro e w12 ⟨rfl, hb12⟩
        have hW12 := below_size hW11 hb12
        have HX12 := Lib.hid (HX11.out.below hb12)
        clear hb12
        go_wp2_with fail
        refine (i_IsReducedWord k _ R w12 HX12.out).mono ?_
        rintro e w13 ⟨rfl, hb13⟩
        have hW13 := below_size hW12 hb13
        rw [HE3.out]
        clear hb13
        go_wp2_with fail
        go_ret
        exact ⟨rfl, hW13⟩
      · rw [e1, e2]
        clear e1 e2
        go_wp2_with fail
        go_ret
        exact ⟨rfl, hW11⟩
end Go.Proofs.Ythnpndheaailjaa.fnWordGroup
