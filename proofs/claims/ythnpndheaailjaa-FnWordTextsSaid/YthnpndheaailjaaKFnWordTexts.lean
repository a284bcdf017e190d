/-
  The walk of the law FnWordTexts.
-/
import Derived.Test.YthnpndheaailjaaDrx
import Derived.Test.YthnpndheaailjaaDrs
import Derived.Test.YthnpndheaailjaaPtx
import Derived.Test.YthnpndheaailjaaText
import Derived.Test.YthnpndheaailjaaLik
namespace Go.Proofs.Ythnpndheaailjaa.fnWordTexts
set_option linter.unusedVariables false
set_option linter.unusedSimpArgs false
set_option maxRecDepth 100000
open Go.RowKit

set_option maxHeartbeats 2000000 in
theorem core (v : Value) (n : Nat) (w : World) (h : RdU w v n) : Calls Try.prog 9 #[v] w (RetV w (.bool true)) := by
  by_cases hb : 4096 < n
  · have hd : decide (4096 < n) = true := decide_eq_true hb
    go_enter Try.func9, Try.ntmps9
    go_wp2_with fail
    refine (l_big v n w h).mono ?_
    rintro e w' ⟨rfl, rfl⟩
    rw [hd]
    go_wp2_with fail
    go_ret
    exact ⟨rfl, Below.refl _ _⟩
  · have hd : decide (4096 < n) = false := decide_eq_false hb
    have hn : n ≤ 1000000 := by omega
    clear hb
    go_enter Try.func9, Try.ntmps9
    go_wp2_with fail
    refine (l_big v n w h).mono ?_
    rintro e w' ⟨rfl, rfl⟩
    rw [hd]
    clear hd
    go_wp2_with fail
    refine (s_DrawWordText v n w h hn).mono ?_
    rintro e w1 ⟨k, vw, xs, rfl, hk1, hk2, hI, hB⟩
    have HI := Lib.hid hI.rd
    obtain ⟨ao, cap, rfl, _, _⟩ := hI.form
    clear hI h
    go_wp2_with fail
    refine (i_WordText k _ xs w1 HI.out).mono ?_
    rintro e w2 ⟨rfl, hb2⟩
    have hB2 := below_size hB hb2
    have HI2 := Lib.hid (HI.out.below hb2)
    clear hb2
    go_wp2_with fail
    refine (s_WordText k _ xs w2 HI2.out).mono ?_
    rintro e w3 ⟨rfl, hb3⟩
    have hB3 := below_size hB2 hb3
    have HI3 := Lib.hid (HI2.out.below hb3)
    clear hb3
    by_cases hc : codeOf k [xs] = 0
    · have HZ := Lib.hid (codeOf_zero hc)
      have hk : inB k 0 6 = true := inB_true.2 HZ.out.1
      have hw : wordB k xs = true := HZ.out.2 xs (by simp)
      have hs : okS (codeOf k [xs]) (txtW xs) = txtW xs := by rw [hc]; rfl
      have HT := Lib.hid (prs_txt hk hw)
      have HL : Hid ((txtW xs).size ≤ 100000000) := by
        have h64 := (wordB_small HZ.out.1.2 hw).2
        show _ ≤ _
        by_cases h0 : xs.length = 0
        · rw [txtW_empty h0]; decide
        · rw [txtW_ne h0, strOfNums_size, txtL_length]; omega
      rw [hs, hc]
      generalize txtW xs = t at *
      clear hs hc hw hk
      go_wp2_with fail
      refine (i_ParseWord k t w3 HL.out).mono ?_
      rintro e w4 ⟨v4, rfl, hI4, hb4⟩
      have hB4 := below_size hB3 hb4
      have HI4 := Lib.hid (HI3.out.below hb4)
      rw [HT.out.2] at hI4
      rw [HT.out.1]
      obtain ⟨a4, c4, rfl, _, _⟩ := hI4.form
      clear hb4
      go_wp2_with fail
      refine (l_likeInts _ _ xs xs w4 hI4.rd HI4.out).mono ?_
      rintro e w5 ⟨rfl, hq⟩
      obtain ⟨q, rfl⟩ := hq
      rw [show decide (xs = xs) = true from decide_eq_true rfl]
      go_wp2_with fail
      go_ret
      exact ⟨rfl, below_drewN hB4 _⟩
    · have hw : isWordB k xs = false := by
        cases h0 : isWordB k xs with
        | false => rfl
        | true => exact absurd (codeOf_word h0) hc
      have h1 : (codeOf k [xs] != 0) = true := by simpa using hc
      generalize okS (codeOf k [xs]) (txtW xs) = t at *
      generalize codeOf k [xs] = c at *
      clear hc
      go_wp2_with fail
      refine (i_IsWord k _ xs w3 HI3.out).mono ?_
      rintro e w4 ⟨rfl, hb4⟩
      have hB4 := below_size hB3 hb4
      rw [hw]
      clear hb4 hw
      go_wp2_with fail
      go_ret
      exact ⟨rfl, hB4⟩
end Go.Proofs.Ythnpndheaailjaa.fnWordTexts
