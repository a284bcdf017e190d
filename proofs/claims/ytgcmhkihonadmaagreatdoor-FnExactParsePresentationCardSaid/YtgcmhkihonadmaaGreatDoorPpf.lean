/-
  The exponents of a word that a text spells: both walks.
-/
import Derived.Test.YtgcmhkihonadmaaGreatDoorPpe
namespace Go.Proofs.YtgcmhkihonadmaaGreatDoor
set_option linter.unusedVariables false
set_option linter.unusedSimpArgs false
set_option maxRecDepth 100000
open Go.RowKit Go.PlainAid

--== plain
/-- no letter is an inverse -/
def pB (xs : List Int) : Bool := xs.all fun x => decide (0 ≤ x)
/-- letters of n generators and their inverses -/
def LtS (n : Nat) (xs : List Int) : Prop := ∀ j, j < xs.length → (∃ q : Nat, xs.getD j 0 = (q : Int) + 1 ∧ q < n) ∨ (xs.getD j 0 < 0 ∧ -(n : Int) ≤ xs.getD j 0)
def vpL (n : Nat) (xs : List Int) : List Int := if pB xs = true then vecL n xs else []
theorem pB_no {xs : List Int} {j : Nat} (hj : j < xs.length) (h : xs.getD j 0 < 0) : pB xs = false := by
  unfold pB
  exact List.all_eq_false.2 ⟨xs.getD j 0, getD_mem hj, by rw [decide_eq_false (by omega)]; exact Bool.false_ne_true⟩
theorem pB_yes {xs : List Int} (h : ∀ j, j < xs.length → 0 ≤ xs.getD j 0) : pB xs = true := by
  unfold pB
  refine List.all_eq_true.2 fun x hx => ?_
  obtain ⟨k, hk, rfl⟩ := mem_getD hx
  exact decide_eq_true (h k hk)
theorem vpL_no {n : Nat} {xs : List Int} (h : pB xs = false) : vpL n xs = [] := by unfold vpL; rw [h]; rfl
theorem vpL_yes {n : Nat} {xs : List Int} (h : pB xs = true) : vpL n xs = vecL n xs := if_pos h
theorem vec_atP {n : Nat} {xs : List Int} {j q : Nat} (hj : j < xs.length) (h : xs.getD j 0 = (q : Int) + 1) : vecL n (xs.take (j + 1)) = (vecL n (xs.take j)).set q ((vecL n (xs.take j)).getD q 0 + 1) := by
  rw [vecL_succ n xs j hj]
  unfold vecS
  rw [h, show ((q : Int) + 1 - 1).toNat = q by omega]
theorem vec_bdP {n : Nat} {xs : List Int} (j q : Nat) : 0 ≤ (vecL n (xs.take j)).getD q 0 ∧ (vecL n (xs.take j)).getD q 0 ≤ xs.length := by
  have := vecL_bd n (xs.take j) q
  rw [List.length_take] at this
  omega
theorem lets_at {s : ByteArray} {m j : Nat} (h : j < m) : (letsL s m).getD j 0 = ltrI (bt s j) := by simp [letsL, List.getD, h]
theorem rdL_lt {n : Nat} {s : ByteArray} : LtS n (rdL n s) := by
  unfold rdL
  split
  · intro j hj; simp at hj
  split
  · rename_i _ hv
    intro j hj
    rw [letsL_length] at hj
    rw [lets_at hj]
    have h1 := List.all_eq_true.1 hv j (List.mem_range.2 hj)
    simp only [ltrB, Bool.or_eq_true, Bool.and_eq_true, decide_eq_true_eq] at h1
    unfold ltrI
    split
    · exact .inl ⟨(bt s j - 97).toNat, by omega, by omega⟩
    · exact .inr (by omega)
  · intro j hj; simp at hj
theorem rdL_len {n : Nat} {s : ByteArray} : (rdL n s).length ≤ s.size := by
  unfold rdL
  split
  · simp
  split
  · rw [letsL_length]; exact Nat.le_refl _
  · simp
--== spec.l07Vector
set_option maxHeartbeats 4000000 in
theorem s_l07VectorG (n : Nat) (v : Value) (xs : List Int) (w : World) (hv : Rd w v xs) (hw : LtS n xs) (hn : n ≤ 1000) (hx : xs.length ≤ 100000000) :
    Calls Tryz.prog 31 #[.int .i64 n, v] w (RetIntsB w (vpL n xs) (pB xs)) := by
  obtain ⟨i0, hi0, hz0, hz1, hz2⟩ := info_parts Tryz.info2
  obtain ⟨ao, cap, rfl, _, _⟩ := hv.form
  have HV2 := Lib.hid hv
  have HWp := Lib.hid hw
  clear hv hw
  go_enter Tryz.func31, Tryz.ntmps31
  go_wp2_with (at_make; refine wp_mkInts _ rfl _ _ rfl i0 Tryz.underlying22 hi0 hz0 hz1 hz2 _ _ _ _ n rfl rfl rfl rfl (by omega) ?_)
  intro w3 hI hB3 hlt3
  go_wp2_with fail
  go_loopw [7] (fun i wr2 => ∃ j : Nat, j ≤ xs.length ∧ i = .int .i64 j ∧ Ints wr2 w.heap.size (.slice (some ⟨w.heap.size, 0, none⟩) n n) (vecL n (xs.take j)) ∧ Below w.heap.size w wr2 ∧ Hid (∀ t, t < j → 0 ≤ xs.getD t 0)) (fun i _ => xs.length - (intOf i).toNat)
  case atStart => exact ⟨0, Nat.zero_le _, rfl, hI, hB3, fun t h => by omega⟩
  case round =>
    clear hI hB3 hlt3
    obtain ⟨j, hj, rfl, hI, hB5, HA⟩ := hrel
    have hS5 := hB5.size
    have HV5 := Lib.hid (HV2.out.below hB5)
    by_cases hlt : j < xs.length
    · obtain ⟨b, off, rfl, hcell⟩ := HV5.out.at hlt
      have L3 : (j : Int) < (xs.length : Int) := by omega
      rcases HWp.out j hlt with ⟨q, hq1, hq2⟩ | ⟨hneg, _⟩
      · have hq3 := vec_atP (n := n) hlt hq1
        have HA2 : Hid (∀ t, t < j + 1 → 0 ≤ xs.getD t 0) := fun t ht => by
          by_cases h : t < j
          · exact HA.out t h
          · obtain rfl : t = j := by omega
            omega
        rw [hq1] at hcell
        have hlen : n = (vecL n (xs.take j)).length := (vecL_len _ _).symm
        obtain ⟨hcell2, hfz⟩ := hI.cell hlen q hq2
        have hbd := vec_bdP (n := n) (xs := xs) j q
        obtain ⟨h1, h2⟩ := hI.set hlen q ((vecL n (xs.take j)).getD q 0 + 1)
        have hB6 := hB5.trans (h2.below (Nat.le_refl _) hS5)
        have HQ := Lib.hid hq3
        have HQ1 := Lib.hid hq1
        clear hq3 hq1 hlen h2 hI
        generalize vecL n (xs.take j) = R at *
        generalize R.getD q 0 = y at *
        have W1 : IntKind.i64.wrap ((q : Int) + 1 - 1) = (q : Int) := by rw [IntWalk.i64_in _ (by omega)]; omega
        have W3 : IntKind.i64.wrap (q : Int) = (q : Int) := IntWalk.i64_in _ (by omega)
        have W2 : IntKind.i64.wrap (y + 1) = y + 1 := IntWalk.i64_in _ (by omega)
        have L1 : (q : Int) < (n : Int) := by omega
        have L2 : (0 : Int) ≤ (q : Int) := by omega
        go_wp2_with fail
        apply via
        case h =>
          go_region
          all_goals exact ⟨rfl, rfl⟩
        clear W1 W2 W3
        go_wp2_with fail
        go_roundw
        case rel => exact ⟨j + 1, by omega, by go_num, by rw [HQ.out]; first | exact h1 | exact h1.drew, by first | exact hB6 | exact hB6.drew, HA2⟩
        case measure => simp [intOf]; omega
      · have HF := Lib.hid (pB_no hlt hneg)
        obtain ⟨x, hx⟩ : ∃ x, xs.getD j 0 = x := ⟨_, rfl⟩
        rw [hx] at hcell hneg
        clear hI hx
        go_wp2_with fail
        go_ret2
        exact ⟨_, by rw [HF.out]; rfl, by rw [vpL_no HF.out]; exact Ints.nil _ _, hB5⟩
    · obtain rfl : j = xs.length := by omega
      have HF := Lib.hid (pB_yes HA.out)
      rw [List.take_length] at hI
      go_wp2_with fail
      go_ret2
      exact ⟨_, by rw [HF.out]; rfl, by rw [vpL_yes HF.out]; exact hI, hB5⟩
--== impl.exponentsOf
set_option maxHeartbeats 4000000 in
theorem i_exponentsOf (n : Nat) (s : ByteArray) (w : World) (hn : n ≤ 6) (hs : s.size ≤ 100000000) :
    Calls Tryz.prog 44 #[.int .i64 n, .string s] w (RetIntsB w (vpL n (rdL n s)) (pB (rdL n s) && rdOk n s)) := by
  obtain ⟨i0, hi0, hz0, hz1, hz2⟩ := info_parts Tryz.info2
  have HWp := Lib.hid (rdL_lt (n := n) (s := s))
  have hxl : (rdL n s).length ≤ 100000000 := Nat.le_trans rdL_len hs
  have HRW : Hid (∀ wx, Calls Tryz.prog 56 #[.int .i64 n, .string s] wx (RetIntsB wx (rdL n s) (rdOk n s))) := fun wx => i_readWord n s wx (by omega) (by omega) hs
  generalize rdL n s = xs at *
  obtain ⟨rb, hrb⟩ : ∃ rb, rdOk n s = rb := ⟨_, rfl⟩
  rw [hrb] at HRW ⊢
  clear hrb
  go_enter Tryz.func44, Tryz.ntmps44
  go_wp2_with fail
  refine (HRW.out _).mono ?_
  rintro e w2 ⟨v, rfl, hI2, hB2⟩
  obtain ⟨ao, cap, rfl, _, _⟩ := hI2.form
  have HV2 := Lib.hid hI2.rd
  have HB2 := Lib.hid hB2
  clear hI2 hB2
  go_wp2_with (at_make; refine wp_mkInts _ rfl _ _ rfl i0 Tryz.underlying22 hi0 hz0 hz1 hz2 _ _ _ _ n rfl rfl rfl rfl (by omega) ?_)
  intro w3 hI hB3 hlt3
  go_wp2_with fail
  go_loopw [21] (fun i wr2 => ∃ j : Nat, j ≤ xs.length ∧ i = .int .i64 j ∧ Ints wr2 w2.heap.size (.slice (some ⟨w2.heap.size, 0, none⟩) n n) (vecL n (xs.take j)) ∧ Below w2.heap.size w2 wr2 ∧ Hid (∀ t, t < j → 0 ≤ xs.getD t 0)) (fun i _ => xs.length - (intOf i).toNat)
  case atStart => exact ⟨0, Nat.zero_le _, rfl, hI, hB3, fun t h => by omega⟩
  case round =>
    clear hI hB3 hlt3
    obtain ⟨j, hj, rfl, hI, hB5, HA⟩ := hrel
    have hS5 := hB5.size
    have HB5 := Lib.hid (below_size HB2.out hB5)
    have HV5 := Lib.hid (HV2.out.below hB5)
    by_cases hlt : j < xs.length
    · obtain ⟨b, off, rfl, hcell⟩ := HV5.out.at hlt
      have L3 : (j : Int) < (xs.length : Int) := by omega
      rcases HWp.out j hlt with ⟨q, hq1, hq2⟩ | ⟨hneg, _⟩
      · have hq3 := vec_atP (n := n) hlt hq1
        have HA2 : Hid (∀ t, t < j + 1 → 0 ≤ xs.getD t 0) := fun t ht => by
          by_cases h : t < j
          · exact HA.out t h
          · obtain rfl : t = j := by omega
            omega
        rw [hq1] at hcell
        have hlen : n = (vecL n (xs.take j)).length := (vecL_len _ _).symm
        obtain ⟨hcell2, hfz⟩ := hI.cell hlen q hq2
        have hbd := vec_bdP (n := n) (xs := xs) j q
        obtain ⟨h1, h2⟩ := hI.set hlen q ((vecL n (xs.take j)).getD q 0 + 1)
        have hB6 := hB5.trans (h2.below (Nat.le_refl _) hS5)
        have HQ := Lib.hid hq3
        have HQ1 := Lib.hid hq1
        clear hq3 hq1 hlen h2 hI
        generalize vecL n (xs.take j) = R at *
        generalize R.getD q 0 = y at *
        have W1 : IntKind.i64.wrap ((q : Int) + 1 - 1) = (q : Int) := by rw [IntWalk.i64_in _ (by omega)]; omega
        have W3 : IntKind.i64.wrap (q : Int) = (q : Int) := IntWalk.i64_in _ (by omega)
        have W2 : IntKind.i64.wrap (y + 1) = y + 1 := IntWalk.i64_in _ (by omega)
        have L1 : (q : Int) < (n : Int) := by omega
        have L2 : (0 : Int) ≤ (q : Int) := by omega
        go_wp2_with fail
        go_roundw
        case rel => exact ⟨j + 1, by omega, by go_num, by rw [HQ.out]; first | exact h1 | exact h1.drew, by first | exact hB6 | exact hB6.drew, HA2⟩
        case measure => simp [intOf]; omega
      · have HF := Lib.hid (pB_no hlt hneg)
        obtain ⟨x, hx⟩ : ∃ x, xs.getD j 0 = x := ⟨_, rfl⟩
        rw [hx] at hcell hneg
        clear hI hx
        go_wp2_with fail
        go_ret2
        exact ⟨_, by rw [HF.out]; rfl, by rw [vpL_no HF.out]; exact Ints.nil _ _, HB5.out⟩
    · obtain rfl : j = xs.length := by omega
      have HF := Lib.hid (pB_yes HA.out)
      rw [List.take_length] at hI
      have hI9 := hI.mono HB2.out.size
      go_wp2_with fail
      go_ret2
      exact ⟨_, by rw [HF.out]; rfl, by rw [vpL_yes HF.out]; exact hI9, HB5.out⟩
--== the letter that a text is
/-- the letter that a text is: what generatorOf answers -/
def gnI (n : Nat) (s : ByteArray) : Int := if s.size = 1 ∧ 97 ≤ bt s 0 ∧ bt s 0 - 97 < n then bt s 0 - 97 else 0
def gnB (n : Nat) (s : ByteArray) : Bool := decide (s.size = 1 ∧ 97 ≤ bt s 0 ∧ bt s 0 - 97 < (n : Int))
theorem gn_no {n : Nat} {s : ByteArray} (h : ¬ (s.size = 1 ∧ 97 ≤ bt s 0 ∧ bt s 0 - 97 < (n : Int))) : gnI n s = 0 ∧ gnB n s = false := ⟨if_neg h, decide_eq_false h⟩
theorem gn_yes {n : Nat} {s : ByteArray} (h : s.size = 1 ∧ 97 ≤ bt s 0 ∧ bt s 0 - 97 < (n : Int)) : gnI n s = bt s 0 - 97 ∧ gnB n s = true := ⟨if_pos h, decide_eq_true h⟩
theorem ret_ib {a c : Int} {b d : Bool} (h : a = c) (h' : b = d) : Ending.returned (.tuple #[.int .i64 a, .bool b]) = .returned (.tuple #[.int .i64 c, .bool d]) := by rw [h, h']
--== impl.generatorOf
set_option maxHeartbeats 4000000 in
theorem i_generatorOf (n : Nat) (s : ByteArray) (w : World) (hn : n ≤ 6) :
    Calls Tryz.prog 45 #[.int .i64 n, .string s] w fun e w' => e = .returned (.tuple #[.int .i64 (gnI n s), .bool (gnB n s)]) ∧ w' = w := by
  have hbt := get_bt s
  have h00 := bt_nonneg s 0
  have h01 := bt_le s 0
  by_cases hz : s.size = 1
  case neg =>
    have HX := Lib.hid (gn_no (n := n) (s := s) fun h => hz h.1)
    have hzI : ((s.size : Int) != 1) = true := by rw [bne_iff_ne]; omega
    go_enter Tryz.func45, Tryz.ntmps45
    go_wp2_with fail
    go_ret2
    exact ⟨ret_ib HX.out.1.symm HX.out.2.symm, rfl⟩
  have hzI : ((s.size : Int) != 1) = false := by rw [hz]; rfl
  by_cases h97 : 97 ≤ bt s 0
  case neg =>
    have HX := Lib.hid (gn_no (n := n) (s := s) fun h => h97 h.2.1)
    have h97' : bt s 0 < 97 := by omega
    go_enter Tryz.func45, Tryz.ntmps45
    go_wp2_with fail
    go_ret2
    exact ⟨ret_ib HX.out.1.symm HX.out.2.symm, rfl⟩
  have h97' : ¬ bt s 0 < 97 := by omega
  by_cases hl : bt s 0 - 97 < (n : Int)
  case neg =>
    have HX := Lib.hid (gn_no (n := n) (s := s) fun h => hl h.2.2)
    have hl' : (n : Int) ≤ bt s 0 - 97 := by omega
    go_enter Tryz.func45, Tryz.ntmps45
    go_wp2_with fail
    go_ret2
    exact ⟨ret_ib HX.out.1.symm HX.out.2.symm, rfl⟩
  have HX := Lib.hid (gn_yes (n := n) (s := s) ⟨hz, h97, hl⟩)
  have hl' : ¬ (n : Int) ≤ bt s 0 - 97 := by omega
  go_enter Tryz.func45, Tryz.ntmps45
  go_wp2_with fail
  go_ret2
  exact ⟨ret_ib HX.out.1.symm HX.out.2.symm, rfl⟩
--== end
end Go.Proofs.YtgcmhkihonadmaaGreatDoor
