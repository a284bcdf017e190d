/-
  SubstituteWord.
-/
import Derived.Test.YthnpndheaailjaaSums
import Derived.Test.YthnpndheaailjaaPresB
import Derived.IntWalk
namespace Go.Proofs.Ythnpndheaailjaa
set_option linter.unusedVariables false
set_option linter.unusedSimpArgs false
set_option maxRecDepth 100000
open Go.RowKit

def letImg (images : List (List Int)) (l : Int) : List Int := if 0 < l then images.getD (l - 1).toNat [] else invW (images.getD (-l - 1).toNat [])
def subL (w : List Int) (images : List (List Int)) : List Int := w.flatMap (letImg images)
theorem subL_succ (w : List Int) (images : List (List Int)) (j : Nat) (h : j < w.length) : subL (w.take (j + 1)) images = subL (w.take j) images ++ letImg images (w.getD j 0) := by
  unfold subL; rw [take_snoc w j 0 h]; simp
def allW (m : Int) (images : List (List Int)) : Bool := images.all (wordB m)
def subC (k : Int) (w : List Int) (m : Int) (images : List (List Int)) : Int := if inB k 0 6 && inB m 0 6 then (if wordB k w && (decide ((images.length : Int) = k) && allW m images) then 0 else 1) else 2
theorem subC_out {k : Int} {w : List Int} {m : Int} {images : List (List Int)} (h : (inB k 0 6 && inB m 0 6) = false) : subC k w m images = 2 := by simp [subC, h]
theorem subC_in {k : Int} {w : List Int} {m : Int} {images : List (List Int)} (h : inB k 0 6 = true) (h' : inB m 0 6 = true) : subC k w m images = if wordB k w && (decide ((images.length : Int) = k) && allW m images) then 0 else 1 := by simp [subC, h, h']
theorem allW_take (m : Int) (images : List (List Int)) (j : Nat) (h : j < images.length) : allW m (images.take (j + 1)) = (allW m (images.take j) && wordB m (images.getD j [])) := by
  unfold allW; rw [take_snoc images j [] h]; simp
theorem allW_false {m : Int} {images : List (List Int)} {j : Nat} (h : j < images.length) (hf : wordB m (images.getD j []) = false) : allW m images = false := by
  rw [allW, List.all_eq_false]
  refine ⟨images.getD j [], ?_, by rw [hf]; exact Bool.false_ne_true⟩
  have : images.getD j [] = images[j] := by simp [List.getD, h]
  rw [this]; exact List.getElem_mem h
theorem allW_at {m : Int} {images : List (List Int)} (h : allW m images = true) (j : Nat) : wordB m (images.getD j []) = true := by
  by_cases hj : j < images.length
  · cases hc : wordB m (images.getD j [])
    · rw [allW_false hj hc] at h; cases h
    · rfl
  · rw [List.getD_eq_getElem?_getD, List.getElem?_eq_none (by omega)]; exact wordB_nil m
theorem letImg_bd {m : Int} {images : List (List Int)} (hm : m ≤ 6) (h : allW m images = true) (l : Int) : (letImg images l).length ≤ 64 ∧ Small (letImg images l) := by
  unfold letImg
  split
  · have := wordB_small hm (allW_at h (l - 1).toNat); exact ⟨this.2, this.1⟩
  · have := wordB_small hm (allW_at h (-l - 1).toNat); exact ⟨by rw [invW_length]; exact this.2, invW_small this.1⟩
theorem subL_len {m : Int} {images : List (List Int)} (hm : m ≤ 6) (h : allW m images = true) (w : List Int) : (subL w images).length ≤ 64 * w.length := by
  induction w with
  | nil => simp [subL]
  | cons x w ih =>
    have := (letImg_bd hm h x).1
    unfold subL at *
    simp only [List.flatMap_cons, List.length_append, List.length_cons]; omega
theorem subL_small {m : Int} {images : List (List Int)} (hm : m ≤ 6) (h : allW m images = true) (w : List Int) : Small (subL w images) := by
  intro x hx
  obtain ⟨l, _, hl⟩ := List.mem_flatMap.1 hx
  exact (letImg_bd hm h l).2 x hl
theorem letImg_pos {images : List (List Int)} (m : Nat) : letImg images ((m : Int) + 1) = images.getD m [] := by
  unfold letImg; rw [if_pos (by omega), show ((m : Int) + 1 - 1).toNat = m by omega]
theorem letImg_neg {images : List (List Int)} (m : Nat) : letImg images (-((m : Int) + 1)) = invW (images.getD m []) := by
  unfold letImg; rw [if_neg (by omega), show (-(-((m : Int) + 1)) - 1).toNat = m by omega]
theorem letB_cases {k l : Int} (hk0 : 0 ≤ k) (h : letB k l = true) : ∃ m : Nat, (m : Int) < k ∧ (l = (m : Int) + 1 ∨ l = -((m : Int) + 1)) := by
  simp only [letB, Bool.and_eq_true, bne_iff_ne] at h
  have h1 := inB_true.1 h.2
  have h2 := h.1
  by_cases hp : 0 < l
  · exact ⟨(l - 1).toNat, by omega, .inl (by omega)⟩
  · exact ⟨(-l - 1).toNat, by omega, .inr (by omega)⟩
--== spec.l06Replace
set_option maxHeartbeats 2000000 in
theorem s_l06Replace (K : Nat) (m : Int) (v vi : Value) (xs : List Int) (images : List (List Int)) (w : World) (hv : Rd w v xs) (hvi : Rd2 w vi images) (hK : (K : Int) ≤ 6) (hW : wordB K xs = true) (hl : images.length = K) (hm : m ≤ 6) (hi' : allW m images = true) :
    Calls Try.prog 120 #[v, vi] w (RetInts w (subL xs images)) := by
  obtain ⟨i0, hi, hz0, hz1, hz2⟩ := info_parts Try.info2
  obtain ⟨hsm, h64⟩ := wordB_small hK hW
  have HW := Lib.hid hW
  have HI := Lib.hid hi'
  have HL := Lib.hid hl
  have HV := Lib.hid hvi
  have HX := Lib.hid hv
  obtain ⟨ao, cap, rfl, _, _⟩ := hv.form
  obtain ⟨ai, capi, rfl, _, _⟩ := hvi.form
  clear hW hi' hl hv hvi
  go_enter Try.func120, Try.ntmps120
  go_wp2_with fail
  go_loopw [5, 6] (fun u i wr => ∃ j : Nat, j ≤ xs.length ∧ i = .int .i64 j ∧ Ints wr w.heap.size u (subL (xs.take j) images) ∧ Below w.heap.size w wr) (fun _ i _ => xs.length - (intOf i).toNat)
  case atStart => exact ⟨0, Nat.zero_le _, rfl, by rw [List.take_zero]; exact Ints.empty w, below_alloc _ _⟩
  case round =>
    obtain ⟨j, hj, rfl, hI, hB⟩ := hrel
    have hS := hB.size
    by_cases hlt : j < xs.length
    · obtain ⟨b, off, rfl, hcell⟩ := (HX.out.below hB).at hlt
      obtain ⟨q, hq, hx⟩ := letB_cases (Int.natCast_nonneg K) (wordB_letter HW.out j hlt)
      have hql : q < images.length := by rw [HL.out]; omega
      obtain ⟨bi, offi, r, rfl, hci, hr⟩ := (HV.out.below hB).at hql
      have HS := Lib.hid (subL_succ xs images j hlt)
      have hRl : (subL (xs.take j) images).length ≤ 1000000000 := by
        have := subL_len hm HI.out (xs.take j)
        rw [List.length_take] at this; omega
      have hwq := wordB_small hm (allW_at HI.out q)
      have HQ := Lib.hid hwq
      have hq64 := hwq.2
      clear hwq
      generalize subL (xs.take j) images = R at *
      rcases hx with hx | hx
      · rw [hx] at hcell HS
        rw [letImg_pos] at HS
        clear hx
        generalize images.getD q [] = y at *
        obtain ⟨ar, capr, rfl, _, _⟩ := hr.form
        go_wp2_with (at_builtin; refine wp_appN _ rfl _ _ rfl w.heap.size i0 Try.underlying22 hi hz0 hz1 hz2 _ _ rfl hI _ y rfl hr (by omega) (by omega) (by omega) ?_)
        intro v' w2 hI1 hG hB1
        go_wp2_with fail
        go_roundw
        case rel => exact ⟨j + 1, by omega, by go_num, by rw [HS.out]; exact hI1, hB.trans hB1⟩
        case measure => simp [intOf]; omega
      · rw [hx] at hcell HS
        rw [letImg_neg] at HS
        clear hx
        generalize images.getD q [] = y at *
        obtain ⟨ar, capr, rfl, _, _⟩ := hr.form
        go_wp2_with fail
        refine (s_l06Invert _ y _ hr (by omega) HQ.out.1).mono ?_
        rintro e w2 ⟨v2, rfl, hI2, hB2⟩
        have hI' := hI.below hB2
        have hB3 := hB.trans (hB2.mono hS)
        have hS2 := hB2.size
        obtain ⟨a2, cap2, rfl, _, _⟩ := hI2.form
        have hlen := invW_length y
        have HLn := Lib.hid hlen
        clear hlen
        go_wp2_with (at_builtin; refine wp_appN _ rfl _ _ rfl w.heap.size i0 Try.underlying22 hi hz0 hz1 hz2 _ _ rfl hI' _ (invW y) rfl hI2.rd (by omega) (by rw [HLn.out]; omega) (by omega) ?_)
        intro v' w3 hI1 hG hB1
        go_wp2_with fail
        go_roundw
        case rel => exact ⟨j + 1, by omega, by go_num, by rw [HS.out]; exact hI1, hB3.trans hB1⟩
        case measure => simp [intOf]; omega
    · obtain rfl : j = xs.length := by omega
      rw [List.take_length] at hI
      go_wp2_with fail
      go_ret
      exact ⟨_, rfl, hI, hB⟩
--== spec.SubstituteWord
set_option maxHeartbeats 4000000 in
theorem s_SubstituteWord (k : Int) (v : Value) (xs : List Int) (m : Int) (vi : Value) (images : List (List Int)) (w : World) (hv : Rd w v xs) (hvi : Rd2 w vi images) :
    Calls Try.prog 58 #[.int .i64 k, v, .int .i64 m, vi] w (RetInts2 w (prodL (subC k xs m images) (subL xs images)) (prodC (subC k xs m images) (subL xs images))) := by
  have HX := Lib.hid hv
  have HV := Lib.hid hvi
  obtain ⟨ao, cap, rfl, _, _⟩ := hv.form
  obtain ⟨ai, capi, rfl, hci1, hci2⟩ := hvi.form
  clear hv hvi
  by_cases hk : inB k 0 6 = true
  case neg =>
    have hk' : inB k 0 6 = false := by simpa using hk
    clear hk
    have HC := Lib.hid (prodL_ne (subL xs images) (c0 := subC k xs m images) (by rw [subC_out (by rw [hk']; rfl)]; omega))
    rw [HC.out.1, HC.out.2, subC_out (by rw [hk']; rfl)]
    go_enter Try.func58, Try.ntmps58
    go_wp2_with (go_at_call 68; refine (s_l01In _ _ _ _).mono ?_; rintro e w' ⟨rfl, rfl⟩)
    go_ret2
    exact ⟨_, rfl, Ints.nil _ _, Below.refl _ _⟩
  by_cases hm : inB m 0 6 = true
  case neg =>
    have hm' : inB m 0 6 = false := by simpa using hm
    clear hm
    have HC := Lib.hid (prodL_ne (subL xs images) (c0 := subC k xs m images) (by rw [subC_out (by rw [hm']; simp)]; omega))
    rw [HC.out.1, HC.out.2, subC_out (by rw [hm']; simp)]
    go_enter Try.func58, Try.ntmps58
    go_wp2_with (go_at_call 68; refine (s_l01In _ _ _ _).mono ?_; rintro e w' ⟨rfl, rfl⟩)
    go_ret2
    exact ⟨_, rfl, Ints.nil _ _, Below.refl _ _⟩
  obtain ⟨k0, k6⟩ := inB_true.1 hk
  obtain ⟨m0, m6⟩ := inB_true.1 hm
  have HK := Lib.hid (subC_in (w := xs) (images := images) hk hm)
  by_cases hw : wordB k xs = true
  case neg =>
    have hw' : wordB k xs = false := by simpa using hw
    clear hw
    have HC0 : subC k xs m images = 1 := by rw [HK.out, hw']; rfl
    have HC := Lib.hid (prodL_ne (subL xs images) (c0 := subC k xs m images) (by omega))
    rw [HC.out.1, HC.out.2, HC0]
    clear HC0
    go_enter Try.func58, Try.ntmps58
    go_wp2_with (first | (go_at_call 68; refine (s_l01In _ _ _ _).mono ?_; rintro e w' ⟨rfl, rfl⟩) | (go_at_call 119; refine (s_l06Word _ _ xs _ (by omega) (by omega) HX.out).mono ?_; rintro e w' ⟨rfl, rfl⟩))
    go_ret2
    exact ⟨_, rfl, Ints.nil _ _, Below.refl _ _⟩
  by_cases hl : (images.length : Int) = k
  case neg =>
    have HC0 : subC k xs m images = 1 := by rw [HK.out, hw, decide_eq_false hl]; rfl
    have HC := Lib.hid (prodL_ne (subL xs images) (c0 := subC k xs m images) (by omega))
    rw [HC.out.1, HC.out.2, HC0]
    clear HC0
    have t1 : ((images.length : Int) == k) = false := by simpa using hl
    have t2 : ((images.length : Int) != k) = true := by simpa using hl
    clear hl
    go_enter Try.func58, Try.ntmps58
    go_wp2_with (first | (go_at_call 68; refine (s_l01In _ _ _ _).mono ?_; rintro e w' ⟨rfl, rfl⟩) | (go_at_call 119; refine (s_l06Word _ _ xs _ (by omega) (by omega) HX.out).mono ?_; rintro e w' ⟨rfl, rfl⟩))
    go_ret2
    exact ⟨_, rfl, Ints.nil _ _, Below.refl _ _⟩
  have HLN := Lib.hid hl
  have t1 : ((images.length : Int) == k) = true := by simpa using hl
  have t2 : ((images.length : Int) != k) = false := by simpa using hl
  clear hl
  have HWd := Lib.hid hw
  have HKin := Lib.hid hk
  have HMin := Lib.hid hm
  go_enter Try.func58, Try.ntmps58
  go_wp2_with (first | (go_at_call 68; refine (s_l01In _ _ _ _).mono ?_; rintro e w' ⟨rfl, rfl⟩) | (go_at_call 119; refine (s_l06Word _ _ xs _ (by omega) (by omega) HX.out).mono ?_; rintro e w' ⟨rfl, rfl⟩))
  clear t1 t2 hw hk hm
  go_loop [10] (fun i => ∃ j : Nat, j ≤ images.length ∧ i = .int .i64 j ∧ allW m (images.take j) = true) (fun i => images.length - (intOf i).toNat)
  case atStart => exact ⟨0, Nat.zero_le _, rfl, rfl⟩
  case round =>
    obtain ⟨j, hj, rfl, hal⟩ := hrel
    have HA := Lib.hid hal
    clear hal
    by_cases hlt : j < images.length
    · obtain ⟨bi, offi, r, rfl, hcell, hr⟩ := HV.out.at hlt
      have HS := Lib.hid (allW_take m images j hlt)
      have HF := Lib.hid (fun h => allW_false (m := m) hlt h)
      generalize images.getD j [] = y at *
      by_cases hy : wordB m y = true
      · go_wp2_with (go_at_call 119; refine (s_l06Word _ _ y _ (by omega) (by omega) hr).mono ?_; rintro e w' ⟨rfl, rfl⟩)
        go_round
        case rel => exact ⟨j + 1, by omega, by go_num, by rw [HS.out, HA.out, hy]; rfl⟩
        case measure => simp [intOf]; omega
      · have hy' : wordB m y = false := by simpa using hy
        clear hy
        have HC0 : subC k xs m images = 1 := by rw [HK.out, HF.out hy']; simp
        have HC := Lib.hid (prodL_ne (subL xs images) (c0 := subC k xs m images) (by omega))
        have HC0 := Lib.hid HC0
        go_wp2_with (go_at_call 119; refine (s_l06Word _ _ y _ (by omega) (by omega) hr).mono ?_; rintro e w' ⟨rfl, rfl⟩)
        go_ret2
        exact ⟨_, ret_tup (by rw [HC.out.2, HC0.out]), by rw [HC.out.1]; exact Ints.nil _ _, Below.refl _ _⟩
    · obtain rfl : j = images.length := by omega
      have hal : allW m images = true := by have := HA.out; rwa [List.take_length] at this
      have HC0 : Hid (subC k xs m images = 0) := by show _ = _; rw [HK.out, HWd.out, hal, decide_eq_true HLN.out]; rfl
      have HC := Lib.hid (prodL_zero (subL xs images) HC0.out)
      obtain ⟨K, hKe⟩ : ∃ K : Nat, k = (K : Int) := ⟨k.toNat, by omega⟩
      have HAl := Lib.hid hal
      have hsl := subL_len m6 hal xs
      have h64 := (wordB_small k6 HWd.out).2
      clear hal
      go_wp2_with fail
      refine (s_l06Replace K m _ _ xs images _ HX.out HV.out (by omega) (by rw [← hKe]; exact HWd.out) (by have := HLN.out; omega) m6 HAl.out).mono ?_
      rintro e w2 ⟨v2, rfl, hI, hB⟩
      go_wp2_with fail
      refine (s_l06Result _ _ _ hI.rd (by omega) (subL_small m6 HAl.out xs)).mono ?_
      rintro e w3 ⟨v3, rfl, hI3, hB3⟩
      have hB4 := below_size hB hB3
      have hI4 := hI3.mono hB.size
      clear hI3 hB3
      go_wp2_with fail
      go_ret2
      exact ⟨_, ret_tup HC.out.2.symm, by rw [HC.out.1]; exact hI4, hB4⟩
--== impl.SubstituteWord
set_option maxHeartbeats 4000000 in
theorem i_SubstituteWord (k : Int) (v : Value) (xs : List Int) (m : Int) (vi : Value) (images : List (List Int)) (w : World) (hv : Rd w v xs) (hvi : Rd2 w vi images) :
    Calls Try.prog 57 #[.int .i64 k, v, .int .i64 m, vi] w (RetInts2 w (prodL (subC k xs m images) (subL xs images)) (prodC (subC k xs m images) (subL xs images))) := by
  have HX := Lib.hid hv
  have HV := Lib.hid hvi
  obtain ⟨ao, cap, rfl, _, _⟩ := hv.form
  obtain ⟨ai, capi, rfl, hci1, hci2⟩ := hvi.form
  clear hv hvi
  by_cases hk : inB k 0 6 = true
  case neg =>
    have hk' : inB k 0 6 = false := by simpa using hk
    clear hk
    have HC := Lib.hid (prodL_ne (subL xs images) (c0 := subC k xs m images) (by rw [subC_out (by rw [hk']; rfl)]; omega))
    rw [HC.out.1, HC.out.2, subC_out (by rw [hk']; rfl)]
    go_enter Try.func57, Try.ntmps57
    go_wp2_with (go_at_call 111; refine (i_gensFit _ _).mono ?_; rintro e w' ⟨rfl, rfl⟩)
    go_ret2
    exact ⟨_, rfl, Ints.nil _ _, Below.refl _ _⟩
  by_cases hm : inB m 0 6 = true
  case neg =>
    have hm' : inB m 0 6 = false := by simpa using hm
    clear hm
    have HC := Lib.hid (prodL_ne (subL xs images) (c0 := subC k xs m images) (by rw [subC_out (by rw [hm']; simp)]; omega))
    rw [HC.out.1, HC.out.2, subC_out (by rw [hm']; simp)]
    go_enter Try.func57, Try.ntmps57
    go_wp2_with (go_at_call 111; refine (i_gensFit _ _).mono ?_; rintro e w' ⟨rfl, rfl⟩)
    go_ret2
    exact ⟨_, rfl, Ints.nil _ _, Below.refl _ _⟩
  obtain ⟨k0, k6⟩ := inB_true.1 hk
  obtain ⟨m0, m6⟩ := inB_true.1 hm
  have HK := Lib.hid (subC_in (w := xs) (images := images) hk hm)
  by_cases hw : wordB k xs = true
  case neg =>
    have hw' : wordB k xs = false := by simpa using hw
    clear hw
    have HC0 : subC k xs m images = 1 := by rw [HK.out, hw']; rfl
    have HC := Lib.hid (prodL_ne (subL xs images) (c0 := subC k xs m images) (by omega))
    rw [HC.out.1, HC.out.2, HC0]
    clear HC0
    go_enter Try.func57, Try.ntmps57
    go_wp2_with (first | (go_at_call 111; refine (i_gensFit _ _).mono ?_; rintro e w' ⟨rfl, rfl⟩) | (go_at_call 112; refine (i_wordFits _ _ xs _ (by omega) (by omega) HX.out).mono ?_; rintro e w' ⟨rfl, rfl⟩))
    go_ret2
    exact ⟨_, rfl, Ints.nil _ _, Below.refl _ _⟩
  by_cases hl : (images.length : Int) = k
  case neg =>
    have HC0 : subC k xs m images = 1 := by rw [HK.out, hw, decide_eq_false hl]; rfl
    have HC := Lib.hid (prodL_ne (subL xs images) (c0 := subC k xs m images) (by omega))
    rw [HC.out.1, HC.out.2, HC0]
    clear HC0
    have t1 : ((images.length : Int) == k) = false := by simpa using hl
    have t2 : ((images.length : Int) != k) = true := by simpa using hl
    clear hl
    go_enter Try.func57, Try.ntmps57
    go_wp2_with (first | (go_at_call 111; refine (i_gensFit _ _).mono ?_; rintro e w' ⟨rfl, rfl⟩) | (go_at_call 112; refine (i_wordFits _ _ xs _ (by omega) (by omega) HX.out).mono ?_; rintro e w' ⟨rfl, rfl⟩))
    go_ret2
    exact ⟨_, rfl, Ints.nil _ _, Below.refl _ _⟩
  have HLN := Lib.hid hl
  have t1 : ((images.length : Int) == k) = true := by simpa using hl
  have t2 : ((images.length : Int) != k) = false := by simpa using hl
  clear hl
  have HWd := Lib.hid hw
  have HKin := Lib.hid hk
  have HMin := Lib.hid hm
  have HCode : Hid (codeOf m images = if allW m images then 0 else 1) := codeOf_in images hm
  by_cases hal : allW m images = true
  case neg =>
    have hal' : allW m images = false := by simpa using hal
    clear hal
    have HC0 : subC k xs m images = 1 := by rw [HK.out, hal']; simp
    have HC := Lib.hid (prodL_ne (subL xs images) (c0 := subC k xs m images) (by omega))
    rw [HC.out.1, HC.out.2, HC0]
    clear HC0
    have HCo : Hid (codeOf m images = 1) := by show _ = _; rw [HCode.out, hal']; rfl
    clear hal'
    go_enter Try.func57, Try.ntmps57
    go_wp2_with (first | (go_at_call 111; refine (i_gensFit _ _).mono ?_; rintro e w' ⟨rfl, rfl⟩) | (go_at_call 112; refine (i_wordFits _ _ xs _ (by omega) (by omega) HX.out).mono ?_; rintro e w' ⟨rfl, rfl⟩) | (go_at_call 72; refine (i_wordCode _ _ images _ HV.out).mono ?_; rintro e w' ⟨rfl, rfl⟩; rw [HCo.out]))
    go_ret2
    exact ⟨_, rfl, Ints.nil _ _, Below.refl _ _⟩
  have HCo : Hid (codeOf m images = 0) := by show _ = _; rw [HCode.out, hal]; rfl
  have HC0 : Hid (subC k xs m images = 0) := by show _ = _; rw [HK.out, HWd.out, hal, decide_eq_true HLN.out]; rfl
  have HC := Lib.hid (prodL_zero (subL xs images) HC0.out)
  obtain ⟨K, hKe⟩ : ∃ K : Nat, k = (K : Int) := ⟨k.toNat, by omega⟩
  have HKe := Lib.hid hKe
  have HAl := Lib.hid hal
  have hsl := subL_len m6 hal xs
  have h64 := (wordB_small k6 HWd.out).2
  obtain ⟨i0, hi, hz0, hz1, hz2⟩ := info_parts Try.info2
  clear hal hKe
  go_enter Try.func57, Try.ntmps57
  go_wp2_with (first | (go_at_call 111; refine (i_gensFit _ _).mono ?_; rintro e w' ⟨rfl, rfl⟩) | (go_at_call 112; refine (i_wordFits _ _ xs _ (by omega) (by omega) HX.out).mono ?_; rintro e w' ⟨rfl, rfl⟩) | (go_at_call 72; refine (i_wordCode _ _ images _ HV.out).mono ?_; rintro e w' ⟨rfl, rfl⟩; rw [HCo.out]))
  clear t1 t2 hw hk hm
  go_loopw [10, 40] (fun u i wr => ∃ j : Nat, j ≤ xs.length ∧ i = .int .i64 j ∧ Ints wr w.heap.size u (subL (xs.take j) images) ∧ Below w.heap.size w wr) (fun _ i _ => xs.length - (intOf i).toNat)
  case atStart => exact ⟨0, Nat.zero_le _, rfl, by rw [List.take_zero]; exact Ints.nil _ _, Below.refl _ _⟩
  case round =>
    obtain ⟨j, hj, rfl, hI, hB⟩ := hrel
    have hS := hB.size
    by_cases hlt : j < xs.length
    · obtain ⟨b, off, rfl, hcell⟩ := (Rd.below HX.out hB).at hlt
      obtain ⟨q, hq, hx⟩ := letB_cases k0 (wordB_letter HWd.out j hlt)
      have hql : q < images.length := by have := HLN.out; omega
      obtain ⟨bi, offi, r, rfl, hci, hr⟩ := (Rd2.below HV.out hB).at hql
      have HS := Lib.hid (subL_succ xs images j hlt)
      have hRl : (subL (xs.take j) images).length ≤ 1000000000 := by
        have := subL_len m6 HAl.out (xs.take j)
        rw [List.length_take] at this; omega
      have hwq := wordB_small m6 (allW_at HAl.out q)
      have HQ := Lib.hid hwq
      have hq64 := hwq.2
      have hq6 : q ≤ 6 := by omega
      have habs : Hid (∀ w, Calls Try.prog 118 #[.int .i64 (xs.getD j 0)] w fun e w' => e = .returned (.int .i64 ((q : Int) + 1)) ∧ w = w') := fun w => by
        have := i_abs (xs.getD j 0) w (by omega)
        rwa [show absI (xs.getD j 0) = (q : Int) + 1 by unfold absI; split <;> omega] at this
      clear hwq
      generalize subL (xs.take j) images = R at *
      rcases hx with hx | hx
      · rw [hx] at hcell HS habs
        rw [letImg_pos] at HS
        clear hx
        generalize images.getD q [] = y at *
        obtain ⟨ar, capr, rfl, _, _⟩ := hr.form
        go_wp2_with fail
        refine (habs.out _).mono ?_
        rintro e w' ⟨rfl, rfl⟩
        go_wp2_with (at_builtin; refine wp_appN _ rfl _ _ rfl w.heap.size i0 Try.underlying22 hi hz0 hz1 hz2 _ _ rfl hI _ y rfl hr (by omega) (by omega) (by omega) ?_)
        intro v' w2 hI1 hG hB1
        go_wp2_with fail
        go_roundw
        case rel => exact ⟨j + 1, by omega, by go_num, by rw [HS.out]; exact hI1, hB.trans hB1⟩
        case measure => simp [intOf]; omega
      · rw [hx] at hcell HS habs
        rw [letImg_neg] at HS
        clear hx
        generalize images.getD q [] = y at *
        obtain ⟨ar, capr, rfl, _, _⟩ := hr.form
        go_wp2_with fail
        refine (habs.out _).mono ?_
        rintro e w' ⟨rfl, rfl⟩
        go_wp2_with fail
        refine (i_invertWord _ y _ hr (by omega) HQ.out.1).mono ?_
        rintro e w2 ⟨v2, rfl, hI2, hB2⟩
        have hI' := hI.below hB2
        have hB3 := hB.trans (hB2.mono hS)
        have hS2 := hB2.size
        obtain ⟨a2, cap2, rfl, _, _⟩ := hI2.form
        have hlen := invW_length y
        have HLn := Lib.hid hlen
        clear hlen
        go_wp2_with (at_builtin; refine wp_appN _ rfl _ _ rfl w.heap.size i0 Try.underlying22 hi hz0 hz1 hz2 _ _ rfl hI' _ (invW y) rfl hI2.rd (by omega) (by rw [HLn.out]; omega) (by omega) ?_)
        intro v' w3 hI1 hG hB1
        go_wp2_with fail
        go_roundw
        case rel => exact ⟨j + 1, by omega, by go_num, by rw [HS.out]; exact hI1, hB3.trans hB1⟩
        case measure => simp [intOf]; omega
    · obtain rfl : j = xs.length := by omega
      rw [List.take_length] at hI
      go_wp2_with fail
      refine (i_reduceWord _ _ _ hI.rd (by omega) (subL_small m6 HAl.out xs)).mono ?_
      rintro e w3 ⟨v3, rfl, hI3, hB3⟩
      have hB4 := below_size hB hB3
      have hI4 := hI3.mono hB.size
      clear hI3 hB3 hI
      obtain ⟨a3, c3, rfl, _, _⟩ := hI4.form
      go_wp2_with fail
      refine (i_shortWord w.heap.size _ _ _ hI4).mono ?_
      rintro e w' ⟨⟨v4, rfl, hI5⟩, rfl⟩
      go_wp2_with fail
      go_ret2
      exact ⟨_, ret_tup HC.out.2.symm, by rw [HC.out.1]; exact hI5, hB4⟩
end Go.Proofs.Ythnpndheaailjaa
