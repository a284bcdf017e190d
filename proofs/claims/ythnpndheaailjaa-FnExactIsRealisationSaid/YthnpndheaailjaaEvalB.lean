/-
  EvaluateBijections.
-/
import Derived.Test.YthnpndheaailjaaBij
import Derived.Test.YthnpndheaailjaaSubst
import Derived.Test.YthnpndheaailjaaPresD
namespace Go.Proofs.Ythnpndheaailjaa
set_option linter.unusedVariables false
set_option linter.unusedSimpArgs false
set_option maxRecDepth 100000
open Go.RowKit

def szB (n : Nat) (b : List Int) : Bool := decide (b.length = n) && isBijB b
def sizedB (n : Nat) (l : List (List Int)) : Bool := l.all (szB n)
theorem sizedB_take (n : Nat) (l : List (List Int)) (j : Nat) (h : j < l.length) : sizedB n (l.take (j + 1)) = (sizedB n (l.take j) && szB n (l.getD j [])) := by
  unfold sizedB; rw [take_snoc l j [] h]; simp
theorem getL_in {l : List (List Int)} {j : Nat} (h : j < l.length) : l.getD j [] ∈ l := by
  have : l.getD j [] = l[j] := by simp [List.getD, h]
  rw [this]; exact List.getElem_mem h
theorem sizedB_false {n : Nat} {l : List (List Int)} {j : Nat} (h : j < l.length) (hf : szB n (l.getD j []) = false) : sizedB n l = false := by
  rw [sizedB, List.all_eq_false]; exact ⟨_, getL_in h, by rw [hf]; exact Bool.false_ne_true⟩
theorem sizedB_at {n : Nat} {l : List (List Int)} (h : sizedB n l = true) {j : Nat} (hj : j < l.length) : (l.getD j []).length = n ∧ isBijB (l.getD j []) = true := by
  have := List.all_eq_true.1 h _ (getL_in hj)
  simpa [szB] using this
def evB (w : List Int) (l : List (List Int)) : Bool := (decide (1 ≤ l.length) && decide (l.length ≤ 6)) && (wordB l.length w && sizedB (l.getD 0 []).length l)
def letBij (l : List (List Int)) (x : Int) : List Int := if 0 < x then l.getD (x - 1).toNat [] else backL (l.getD (-x - 1).toNat [])
def selfL (n : Nat) : List Int := (List.range n).map fun (t : Nat) => (t : Int)
def evTo (w : List Int) (l : List (List Int)) (j : Nat) : List Int := (w.take j).foldl (fun out x => compL out (letBij l x)) (selfL (l.getD 0 []).length)
def evL (w : List Int) (l : List (List Int)) : List Int := evTo w l w.length
theorem evTo_succ (w : List Int) (l : List (List Int)) (j : Nat) (h : j < w.length) : evTo w l (j + 1) = compL (evTo w l j) (letBij l (w.getD j 0)) := by
  unfold evTo; rw [take_snoc w j 0 h]; simp
theorem selfL_succ (n : Nat) : selfL (n + 1) = selfL n ++ [(n : Int)] := by simp [selfL, List.range_succ]
theorem selfL_len (n : Nat) : (selfL n).length = n := by simp [selfL]
theorem letBij_pos {l : List (List Int)} (m : Nat) : letBij l ((m : Int) + 1) = l.getD m [] := by
  unfold letBij; rw [if_pos (by omega), show ((m : Int) + 1 - 1).toNat = m by omega]
theorem letBij_neg {l : List (List Int)} (m : Nat) : letBij l (-((m : Int) + 1)) = backL (l.getD m []) := by
  unfold letBij; rw [if_neg (by omega), show (-(-((m : Int) + 1)) - 1).toNat = m by omega]
theorem evTo_len (w : List Int) (l : List (List Int)) (j : Nat) (hj : j ≤ w.length) : (evTo w l j).length = (l.getD 0 []).length := by
  induction j with
  | zero => simp [evTo, selfL_len]
  | succ j ih => rw [evTo_succ _ _ _ (by omega), compL_length, ih (by omega)]
theorem inR_self (n : Nat) : InR (selfL n) n := by
  intro j hj
  rw [selfL_len] at hj
  exact ⟨j, by simp [selfL, List.getD, hj], hj⟩
theorem inR_back {xs : List Int} (h : bijB xs = true) : InR (backL xs) xs.length := by
  have : ∀ j, j ≤ xs.length → InR (backTo xs j) xs.length := by
    intro j
    induction j with
    | zero =>
      intro _ t ht
      rw [backTo_zero, List.length_replicate] at ht
      exact ⟨0, by rw [backTo_zero, List.getD_eq_getElem?_getD, List.getElem?_replicate]; split <;> rfl, by omega⟩
    | succ j ih =>
      intro hj t ht
      obtain ⟨m, hm, _⟩ := bijB_at h j (by omega)
      rw [backTo_succ xs j m hm] at ht ⊢
      rw [List.length_set] at ht
      rw [vset]
      split
      · exact ⟨j, rfl, by omega⟩
      · exact ih (by omega) t ht
  intro j hj
  rw [backL_length] at hj
  exact this xs.length (Nat.le_refl _) j (by rw [backTo_length]; exact hj)
theorem inR_comp {xs ys : List Int} {n : Nat} (hx : InR xs ys.length) (hy : InR ys n) : InR (compL xs ys) n := by
  intro j hj
  rw [compL_length] at hj
  obtain ⟨m, hm, hlt⟩ := hx j hj
  obtain ⟨q, hq, hqn⟩ := hy m hlt
  refine ⟨q, ?_, hqn⟩
  have : (compL xs ys).getD j 0 = ys.getD (xs.getD j 0).toNat 0 := by
    unfold compL
    rw [List.getD_eq_getElem?_getD, List.getElem?_map, List.getElem?_eq_getElem hj]
    simp [List.getD, hj]
  rw [this, hm, Int.toNat_natCast, hq]
theorem isBijB_bij {xs : List Int} (h : isBijB xs = true) : bijB xs = true ∧ xs.length ≤ 128 := isBijB_at h
theorem letBij_ok {l : List (List Int)} {n m : Nat} (hs : sizedB n l = true) (hm : m < l.length) : (l.getD m []).length = n ∧ bijB (l.getD m []) = true ∧ n ≤ 128 ∧ InR (l.getD m []) n ∧ InR (backL (l.getD m [])) n ∧ (backL (l.getD m [])).length = n := by
  obtain ⟨h1, h2⟩ := sizedB_at hs hm
  obtain ⟨h3, h4⟩ := isBijB_bij h2
  have h5 := inR_back h3
  rw [h1] at h5
  exact ⟨h1, h3, by omega, bijB_inR h3 h1, h5, by rw [backL_length]; exact h1⟩
theorem evTo_inR {w : List Int} {l : List (List Int)} (hw : wordB l.length w = true) (hs : sizedB (l.getD 0 []).length l = true) (j : Nat) (hj : j ≤ w.length) : InR (evTo w l j) (l.getD 0 []).length := by
  induction j with
  | zero => simpa [evTo] using inR_self (l.getD 0 []).length
  | succ j ih =>
    rw [evTo_succ _ _ _ (by omega)]
    obtain ⟨q, hq, hx⟩ := letB_cases (Int.natCast_nonneg l.length) (wordB_letter hw j (by omega))
    obtain ⟨o1, o2, o3, o4, o5, o6⟩ := letBij_ok hs (m := q) (by omega)
    have ih := ih (by omega)
    rcases hx with hx | hx <;> rw [hx]
    · rw [letBij_pos]; exact inR_comp (by rw [o1]; exact ih) o4
    · rw [letBij_neg]; exact inR_comp (by rw [o6]; exact ih) o5
--== spec.l11Sized
set_option maxHeartbeats 2000000 in
theorem s_l11Sized (v : Value) (l : List (List Int)) (n : Nat) (w : World) (hv : Rd2 w v l) (hn : n ≤ 9223372036854775807) :
    Calls Try.prog 140 #[v, .int .i64 n] w (RetV w (.bool (sizedB n l))) := by
  have HV := Lib.hid hv
  obtain ⟨ai, capi, rfl, hc1, hc2⟩ := hv.form
  clear hv
  go_enter Try.func140, Try.ntmps140
  go_wp2_with fail
  go_loopw [5] (fun i wr => ∃ j : Nat, j ≤ l.length ∧ i = .int .i64 j ∧ sizedB n (l.take j) = true ∧ Below w.heap.size w wr) (fun i _ => l.length - (intOf i).toNat)
  case atStart => exact ⟨0, Nat.zero_le _, rfl, rfl, Below.refl _ _⟩
  case round =>
    obtain ⟨j, hj, rfl, hs, hB⟩ := hrel
    have HS := Lib.hid hs
    clear hs
    by_cases hlt : j < l.length
    · obtain ⟨bi, offi, r, rfl, hcell, hr⟩ := (Rd2.below HV.out hB).at hlt
      have HT := Lib.hid (sizedB_take n l j hlt)
      have HF := Lib.hid (fun h => sizedB_false (n := n) hlt h)
      generalize l.getD j [] = y at *
      obtain ⟨ar, capr, rfl, _, _⟩ := hr.form
      by_cases hy : y.length = n
      · have t1 : ((y.length : Int) == (n : Int)) = true := by simp [hy]
        have t2 : ((y.length : Int) != (n : Int)) = false := by simp [hy]
        have HY := Lib.hid hy
        clear hy
        by_cases hb : isBijB y = true
        · go_wp2_with fail
          refine (s_IsBijection _ y _ hr).mono ?_
          rintro e w2 ⟨rfl, hB2⟩
          rw [hb]
          have hB3 := below_size hB hB2
          go_wp2_with fail
          go_roundw
          case rel => exact ⟨j + 1, by omega, by go_num, by rw [HT.out, HS.out]; simp [szB, HY.out, hb], hB3⟩
          case measure => simp [intOf]; omega
        · have hb' : isBijB y = false := by simpa using hb
          clear hb
          have HX : Hid (sizedB n l = false) := HF.out (by simp [szB, hb'])
          go_wp2_with fail
          refine (s_IsBijection _ y _ hr).mono ?_
          rintro e w2 ⟨rfl, hB2⟩
          rw [hb']
          have hB3 := below_size hB hB2
          go_wp2_with fail
          go_ret
          exact ⟨ret_bool HX.out.symm, hB3⟩
      · have t1 : ((y.length : Int) == (n : Int)) = false := by simp; omega
        have t2 : ((y.length : Int) != (n : Int)) = true := by simp; omega
        have HX : Hid (sizedB n l = false) := HF.out (by simp [szB, hy])
        clear hy
        go_wp2_with fail
        go_ret
        exact ⟨ret_bool HX.out.symm, hB⟩
    · obtain rfl : j = l.length := by omega
      have HX : Hid (sizedB n l = true) := by have := HS.out; rwa [List.take_length] at this
      go_wp2_with fail
      go_ret
      exact ⟨ret_bool HX.out.symm, hB⟩
--== spec.l11Self
set_option maxHeartbeats 1000000 in
theorem s_l11Self (n : Nat) (w : World) (hn : n ≤ 10000) : Calls Try.prog 142 #[.int .i64 n] w (RetInts w (selfL n)) := by
  obtain ⟨i0, hi, hz0, hz1, hz2⟩ := info_parts Try.info2
  go_enter Try.func142, Try.ntmps142
  go_wp2_with fail
  go_loopw [3, 4] (fun u i wr => ∃ j : Nat, j ≤ n ∧ i = .int .i64 j ∧ Ints wr w.heap.size u (selfL j) ∧ Below w.heap.size w wr) (fun _ i _ => n - (intOf i).toNat)
  case atStart => exact ⟨0, Nat.zero_le _, rfl, Ints.empty w, below_alloc _ _⟩
  case round =>
    obtain ⟨j, hj, rfl, hI, hB⟩ := hrel
    have hS := hB.size
    by_cases hlt : j < n
    · have HS := Lib.hid (selfL_succ j)
      have hl : (selfL j).length ≤ 1000000000 := by rw [selfL_len]; omega
      generalize selfL j = R at *
      go_wp2_with (at_builtin; refine wp_app1 _ rfl _ _ rfl w.heap.size i0 Try.underlying22 hi hz0 hz1 hz2 _ _ rfl hI (j : Int) rfl hl (by omega) ?_)
      intro v' w1 hI1 hG hB1
      go_wp2_with fail
      go_roundw
      case rel => exact ⟨j + 1, by omega, by go_num, by rw [HS.out]; exact hI1, hB.trans hB1⟩
      case measure => simp [intOf]; omega
    · obtain rfl : j = n := by omega
      go_wp2_with fail
      go_ret
      exact ⟨_, rfl, hI, hB⟩
--== spec.l11Eval
set_option maxHeartbeats 2000000 in
theorem s_l11Eval (v vi : Value) (xs : List Int) (l : List (List Int)) (w : World) (hv : Rd w v xs) (hvi : Rd2 w vi l) (hl : l.length ≤ 6) (hW : wordB l.length xs = true) (hs : sizedB (l.getD 0 []).length l = true) (hn : (l.getD 0 []).length ≤ 128) :
    Calls Try.prog 141 #[v, vi, .int .i64 ((l.getD 0 []).length : Nat)] w (RetInts w (evL xs l)) := by
  have HW := Lib.hid hW
  have HZ := Lib.hid hs
  have HV := Lib.hid hvi
  have HX := Lib.hid hv
  obtain ⟨hsm, h64⟩ := wordB_small (by omega) hW
  obtain ⟨ao, cap, rfl, _, _⟩ := hv.form
  obtain ⟨ai, capi, rfl, _, _⟩ := hvi.form
  have HLen : Hid (∀ j, j ≤ xs.length → (evTo xs l j).length = (l.getD 0 []).length) := fun j hj => evTo_len xs l j hj
  have HIn : Hid (∀ j, j ≤ xs.length → InR (evTo xs l j) (l.getD 0 []).length) := fun j hj => evTo_inR hW hs j hj
  have HE0 : Hid (evTo xs l 0 = selfL (l.getD 0 []).length) := rfl
  clear hW hs hv hvi
  generalize hN : (l.getD 0 []).length = N at *
  clear hN
  go_enter Try.func141, Try.ntmps141
  go_wp2_with fail
  refine (s_l11Self N _ (by omega)).mono ?_
  rintro e w1 ⟨v1, rfl, hI1, hB1⟩
  go_wp2_with fail
  go_loopw [7, 8] (fun u i wr => ∃ j : Nat, j ≤ xs.length ∧ i = .int .i64 j ∧ Ints wr w.heap.size u (evTo xs l j) ∧ Below w.heap.size w wr) (fun _ i _ => xs.length - (intOf i).toNat)
  case atStart => exact ⟨0, Nat.zero_le _, rfl, by rw [HE0.out]; exact hI1, hB1⟩
  case round =>
    clear hI1 hB1
    obtain ⟨j, hj, rfl, hI, hB⟩ := hrel
    have hS := hB.size
    by_cases hlt : j < xs.length
    · obtain ⟨b, off, rfl, hcell⟩ := (Rd.below HX.out hB).at hlt
      obtain ⟨q, hq, hx⟩ := letB_cases (Int.natCast_nonneg l.length) (wordB_letter HW.out j hlt)
      have hql : q < l.length := by omega
      obtain ⟨bi, offi, r, rfl, hci, hr⟩ := (Rd2.below HV.out hB).at hql
      have HS := Lib.hid (evTo_succ xs l j hlt)
      have HO := Lib.hid (letBij_ok HZ.out hql)
      have hRl := HLen.out j hj
      have hRi := HIn.out j hj
      have HRl := Lib.hid hRl
      have HRi := Lib.hid hRi
      have hle : (evTo xs l j).length ≤ 128 := by omega
      clear hRl hRi
      generalize evTo xs l j = R at *
      rcases hx with hx | hx
      · rw [hx] at hcell HS
        rw [letBij_pos] at HS
        clear hx
        generalize l.getD q [] = y at *
        obtain ⟨ar, capr, rfl, _, _⟩ := hr.form
        go_wp2_with fail
        refine (s_l11After _ _ R y _ hI.rd hr (by omega) (by rw [HO.out.1]; exact HRi.out)).mono ?_
        rintro e w2 ⟨v2, rfl, hI2, hB2⟩
        have hB3 := below_size hB hB2
        have hI3 := hI2.mono hS
        clear hI2 hB2
        go_wp2_with fail
        go_roundw
        case rel => exact ⟨j + 1, by omega, by go_num, by rw [HS.out]; exact hI3, hB3⟩
        case measure => simp [intOf]; omega
      · rw [hx] at hcell HS
        rw [letBij_neg] at HS
        clear hx
        generalize l.getD q [] = y at *
        obtain ⟨ar, capr, rfl, _, _⟩ := hr.form
        go_wp2_with fail
        refine (s_l11Back _ y _ hr (by have := HO.out.1; omega) HO.out.2.1).mono ?_
        rintro e w2 ⟨v2, rfl, hI2, hB2⟩
        have hI' := hI.below hB2
        have hB3 := below_size hB hB2
        clear hI hB2
        go_wp2_with fail
        refine (s_l11After _ _ R (backL y) _ hI'.rd hI2.rd (by omega) (by rw [HO.out.2.2.2.2.2]; exact HRi.out)).mono ?_
        rintro e w3 ⟨v3, rfl, hI3, hB4⟩
        have hB5 := below_size hB3 hB4
        have hI4 := hI3.mono hB3.size
        clear hI3 hB4 hI2 hI'
        go_wp2_with fail
        go_roundw
        case rel => exact ⟨j + 1, by omega, by go_num, by rw [HS.out]; exact hI4, hB5⟩
        case measure => simp [intOf]; omega
    · obtain rfl : j = xs.length := by omega
      go_wp2_with fail
      go_ret
      exact ⟨_, rfl, hI, hB⟩
--== exported
theorem evB_no1 {xs : List Int} {l : List (List Int)} (h : ¬ (1 ≤ l.length ∧ l.length ≤ 6)) : evB xs l = false := by
  cases hb : evB xs l
  · rfl
  · simp only [evB, Bool.and_eq_true, decide_eq_true_eq] at hb; exact absurd hb.1 h
theorem evB_no2 {xs : List Int} {l : List (List Int)} (h : sizedB (l.getD 0 []).length l = false) : evB xs l = false := by unfold evB; rw [h, Bool.and_false, Bool.and_false]
theorem evB_no3 {xs : List Int} {l : List (List Int)} (h : wordB l.length xs = false) : evB xs l = false := by unfold evB; rw [h, Bool.false_and, Bool.and_false]
theorem evB_yes {xs : List Int} {l : List (List Int)} (h1 : 1 ≤ l.length) (h6 : l.length ≤ 6) (h : sizedB (l.getD 0 []).length l = true) (hw : wordB l.length xs = true) : evB xs l = true := by
  simp only [evB, Bool.and_eq_true, decide_eq_true_eq]; exact ⟨⟨h1, h6⟩, hw, h⟩
theorem evB_true {xs : List Int} {l : List (List Int)} (h : evB xs l = true) : (l.getD 0 []).length ≤ 128 := by
  simp only [evB, Bool.and_eq_true, decide_eq_true_eq] at h
  have := sizedB_at h.2.2 (j := 0) (by omega)
  exact (isBijB_bij this.2).2
theorem len_EvaluateBijections (xs : List Int) (l : List (List Int)) : (okX (evB xs l) (evL xs l)).length ≤ 1000000000 := by
  by_cases h : evB xs l = true
  · rw [h]; have := evB_true h; have := evTo_len xs l xs.length (Nat.le_refl _); show (evTo xs l xs.length).length ≤ _; omega
  · have h' : evB xs l = false := by simpa using h
    rw [h']; simp [okX]
--== impl.composeWord
theorem selfTo_set (n j : Nat) (h : j < n) : (selfL j ++ List.replicate (n - j) (0 : Int)).set j (j : Int) = selfL (j + 1) ++ List.replicate (n - (j + 1)) 0 := by
  rw [List.set_append_right _ _ (by rw [selfL_len]; exact Nat.le_refl _), selfL_len, Nat.sub_self, selfL_succ]
  have : n - j = (n - (j + 1)) + 1 := by omega
  rw [this, List.replicate_succ]
  simp
set_option maxHeartbeats 2000000 in
theorem i_composeWord (v vi : Value) (xs : List Int) (l : List (List Int)) (w : World) (hv : Rd w v xs) (hvi : Rd2 w vi l) (hl : l.length ≤ 6) (hW : wordB l.length xs = true) (hs : sizedB (l.getD 0 []).length l = true) (hn : (l.getD 0 []).length ≤ 128) :
    Calls Try.prog 100 #[v, vi, .int .i64 ((l.getD 0 []).length : Nat)] w (RetInts w (evL xs l)) := by
  obtain ⟨i0, hi, hz0, hz1, hz2⟩ := info_parts Try.info2
  have HW := Lib.hid hW
  have HZ := Lib.hid hs
  have HV := Lib.hid hvi
  have HX := Lib.hid hv
  obtain ⟨hsm, h64⟩ := wordB_small (by omega) hW
  obtain ⟨ao, cap, rfl, _, _⟩ := hv.form
  obtain ⟨ai, capi, rfl, _, _⟩ := hvi.form
  have HLen : Hid (∀ j, j ≤ xs.length → (evTo xs l j).length = (l.getD 0 []).length) := fun j hj => evTo_len xs l j hj
  have HIn : Hid (∀ j, j ≤ xs.length → InR (evTo xs l j) (l.getD 0 []).length) := fun j hj => evTo_inR hW hs j hj
  have HE0 : Hid (evTo xs l 0 = selfL (l.getD 0 []).length) := rfl
  clear hW hs hv hvi
  generalize hN : (l.getD 0 []).length = N at *
  clear hN
  go_enter Try.func100, Try.ntmps100
  go_wp2_with (at_make; refine wp_mkInts _ rfl _ _ rfl i0 Try.underlying22 hi hz0 hz1 hz2 _ _ _ _ N rfl rfl rfl rfl (by omega) ?_)
  intro w1 hI1 hB1 hlt1
  go_wp2_with fail
  go_loopw [16] (fun i wr => ∃ j : Nat, j ≤ N ∧ i = .int .i64 j ∧ Ints wr w.heap.size (.slice (some ⟨w.heap.size, 0, none⟩) N N) (selfL j ++ List.replicate (N - j) 0) ∧ Below w.heap.size w wr) (fun i _ => N - (intOf i).toNat)
  case atStart => exact ⟨0, Nat.zero_le _, rfl, by simpa [selfL] using hI1, hB1⟩
  case round =>
    clear hI1 hB1 hlt1
    obtain ⟨j, hj, rfl, hI, hB⟩ := hrel
    have hS := hB.size
    have hlen : N = (selfL j ++ List.replicate (N - j) (0 : Int)).length := by rw [List.length_append, selfL_len, List.length_replicate]; omega
    by_cases hlt : j < N
    · obtain ⟨hcell, hfz⟩ := hI.cell hlen j hlt
      obtain ⟨h1, h2⟩ := hI.set hlen j (j : Int)
      rw [selfTo_set N j hlt] at h1
      have hB2 := hB.trans (h2.below (Nat.le_refl _) hS)
      clear hlen hI
      go_wp2_with fail
      go_roundw
      case rel => exact ⟨j + 1, by omega, by go_num, h1, hB2⟩
      case measure => simp [intOf]; omega
    · obtain rfl : j = N := by omega
      rw [Nat.sub_self, List.replicate_zero, List.append_nil, ← HE0.out] at hI
      clear hlen
      go_wp2_with fail
      go_loopw [7, 26] (fun u i wr => ∃ q : Nat, q ≤ xs.length ∧ i = .int .i64 q ∧ Ints wr w.heap.size u (evTo xs l q) ∧ Below w.heap.size w wr) (fun _ i _ => xs.length - (intOf i).toNat)
      case atStart => exact ⟨0, Nat.zero_le _, rfl, hI, hB⟩
      case round =>
        clear hI hB hS
        obtain ⟨q, hq0, rfl, hI, hB⟩ := hrel
        have hS := hB.size
        by_cases hlt : q < xs.length
        · obtain ⟨b, off, rfl, hcell⟩ := (Rd.below HX.out hB).at hlt
          obtain ⟨m, hm, hx⟩ := letB_cases (Int.natCast_nonneg l.length) (wordB_letter HW.out q hlt)
          have hql : m < l.length := by omega
          obtain ⟨bi, offi, r, rfl, hci, hr⟩ := (Rd2.below HV.out hB).at hql
          have HS := Lib.hid (evTo_succ xs l q hlt)
          have HO := Lib.hid (letBij_ok HZ.out hql)
          have hRl := HLen.out q hq0
          have hRi := HIn.out q hq0
          have HRl := Lib.hid hRl
          have HRi := Lib.hid hRi
          have hle : (evTo xs l q).length ≤ 128 := by omega
          have habs : Hid (∀ w, Calls Try.prog 118 #[.int .i64 (xs.getD q 0)] w fun e w' => e = .returned (.int .i64 ((m : Int) + 1)) ∧ w = w') := fun w => by
            have := i_abs (xs.getD q 0) w (by omega)
            rwa [show absI (xs.getD q 0) = (m : Int) + 1 by unfold absI; split <;> omega] at this
          clear hRl hRi
          generalize evTo xs l q = R at *
          rcases hx with hx | hx
          · rw [hx] at hcell HS habs
            rw [letBij_pos] at HS
            clear hx
            generalize l.getD m [] = y at *
            obtain ⟨ar, capr, rfl, _, _⟩ := hr.form
            go_wp2_with fail
            refine (habs.out _).mono ?_
            rintro e w' ⟨rfl, rfl⟩
            go_wp2_with fail
            refine (i_compose _ _ R y _ hI.rd hr (by omega) (by rw [HO.out.1]; exact HRi.out)).mono ?_
            rintro e w2 ⟨v2, rfl, hI2, hB2⟩
            have hB3 := below_size hB hB2
            have hI3 := hI2.mono hS
            clear hI2 hB2
            go_wp2_with fail
            go_roundw
            case rel => exact ⟨q + 1, by omega, by go_num, by rw [HS.out]; exact hI3, hB3⟩
            case measure => simp [intOf]; omega
          · rw [hx] at hcell HS habs
            rw [letBij_neg] at HS
            clear hx
            generalize l.getD m [] = y at *
            obtain ⟨ar, capr, rfl, _, _⟩ := hr.form
            go_wp2_with fail
            refine (habs.out _).mono ?_
            rintro e w' ⟨rfl, rfl⟩
            go_wp2_with fail
            refine (i_inverseBijection _ y _ hr (by have := HO.out.1; omega) HO.out.2.1).mono ?_
            rintro e w2 ⟨v2, rfl, hI2, hB2⟩
            have hI' := hI.below hB2
            have hB3 := below_size hB hB2
            clear hI hB2
            go_wp2_with fail
            refine (i_compose _ _ R (backL y) _ hI'.rd hI2.rd (by omega) (by rw [HO.out.2.2.2.2.2]; exact HRi.out)).mono ?_
            rintro e w3 ⟨v3, rfl, hI3, hB4⟩
            have hB5 := below_size hB3 hB4
            have hI4 := hI3.mono hB3.size
            clear hI3 hB4 hI2 hI'
            go_wp2_with fail
            go_roundw
            case rel => exact ⟨q + 1, by omega, by go_num, by rw [HS.out]; exact hI4, hB5⟩
            case measure => simp [intOf]; omega
        · obtain rfl : q = xs.length := by omega
          go_wp2_with fail
          go_ret
          exact ⟨_, rfl, hI, hB⟩
