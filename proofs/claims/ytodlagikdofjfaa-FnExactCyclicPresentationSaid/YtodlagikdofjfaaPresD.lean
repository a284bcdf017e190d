/-
  The order of a presentation; normal words, exported.
-/
import Derived.Test.YtodlagikdofjfaaPresC
namespace Go.Proofs.Ytodlagikdofjfaa
set_option linter.unusedVariables false
set_option linter.unusedSimpArgs false
set_option maxRecDepth 100000
open Go.RowKit

def okI (c : Bool) (n : Int) : Int := if c then n else 0
def cod1 (c : Bool) : Int := if c then 0 else 1
def okX (c : Bool) (xs : List Int) : List Int := if c then xs else []
theorem ret_ii {a b c d : Int} (h : a = b) (h' : c = d) : Ending.returned (.tuple #[.int .i64 a, .int .i64 c]) = .returned (.tuple #[.int .i64 b, .int .i64 d]) := by rw [h, h']
--== impl.orderOf
set_option maxHeartbeats 800000 in
theorem i_orderOf (vp : Value) (p : Pres) (w : World) (hp : PtrP w vp p) (ho : ordB p.orders = true) :
    Calls Try.prog 82 #[vp] w fun e w' => e = .returned (.int .i64 (prodO p.orders)) ∧ w = w' := by
  obtain ⟨pb, v1, v2, v3, rfl, hp1, hp2, hp3, hR, _, _⟩ := hp
  clear hp2 hp3
  obtain ⟨os, pw, cj⟩ := p
  simp only at hR ho ⊢
  obtain ⟨ao, cap, rfl, hc1, hc2, _, hA⟩ := hR
  have hpr := (ordB_true ho).1
  have hbd : ∀ j, 1 ≤ prodO (os.take j) ∧ prodO (os.take j) ≤ 729 := fun j => by
    have h1 := prodO_take hpr j
    have h2 := (ordB_true ho).2.2.2
    have : primesB (os.take j) = true := List.all_eq_true.2 fun x hx => List.all_eq_true.1 hpr x (List.mem_of_mem_take hx)
    have := (prod_both _ this).1
    omega
  have HB := Lib.hid hbd
  clear hbd
  go_enter Try.func82, Try.ntmps82
  go_wp2
  go_loop [3, 11] (fun u i => ∃ j : Nat, j ≤ os.length ∧ i = .int .i64 j ∧ u = .int .i64 (prodO (os.take j))) (fun _ i => os.length - (intOf i).toNat)
  case atStart => exact ⟨0, Nat.zero_le _, rfl, rfl⟩
  case round =>
    obtain ⟨j, hj, rfl, rfl⟩ := hrel
    obtain ⟨hb1, hb2⟩ := HB.out j
    by_cases hlt : j < os.length
    · rcases hA with hA | ⟨b, off, rfl, hA⟩
      · omega
      have hcell := hA j hlt
      have hob := primesB_at hpr (getD_mem hlt)
      have HS : Hid (prodO (os.take (j + 1)) = prodO (os.take j) * os.getD j 0) := by show _ = _; rw [take_snoc os j 0 hlt, prodO_snoc]
      have hb3 := HB.out (j + 1)
      rw [HS.out] at hb3
      clear hA hpr ho
      generalize os.getD j 0 = o at *
      generalize prodO (os.take j) = u at *
      go_wp2
      go_round
      case rel => exact ⟨j + 1, by omega, by go_num, by rw [HS.out]⟩
      case measure => simp [intOf]; omega
    · obtain rfl : j = os.length := by omega
      go_wp2
      go_ret
      exact ⟨ret_int (by simp), rfl⟩
--== impl.PresentationOrder
set_option maxHeartbeats 2000000 in
theorem i_PresentationOrder (v1 v2 v3 : Value) (p : Pres) (w : World) (hp : RdP w v1 v2 v3 p) :
    Calls Try.prog 39 #[.agg #[v1, v2, v3]] w (RetV w (.tuple #[.int .i64 (okI (validB p) (prodO p.orders)), .int .i64 (cod1 (validB p))])) := by
  have HP := Lib.hid hp
  obtain ⟨ao1, cap1, rfl, _, _⟩ := hp.1.form
  obtain ⟨ao2, cap2, rfl, _, _⟩ := hp.2.1.form
  obtain ⟨ao3, cap3, rfl, _, _⟩ := hp.2.2.form
  have g0 := below_alloc w (Obj.cells #[Value.slice ao1 p.orders.length cap1, Value.slice ao2 p.powers.length cap2, Value.slice ao3 p.conj.length cap3] 26)
  clear hp
  by_cases hV : validB p = true
  case neg =>
    have hV' : validB p = false := by simpa using hV
    rw [hV']
    go_enter Try.func39, Try.ntmps39
    go_wp2_with fail
    refine (i_IsPresentation _ _ _ p _ (HP.out.below g0)).mono ?_
    rintro e w1 ⟨rfl, hb⟩
    have g1 := below_size g0 hb
    rw [hV']
    clear hb hV' hV
    go_wp2_with fail
    go_ret2
    exact ⟨rfl, g1⟩
  have HO := Lib.hid (validB_true.1 hV).ord
  rw [hV]
  go_enter Try.func39, Try.ntmps39
  go_wp2_with fail
  refine (i_IsPresentation _ _ _ p _ (HP.out.below g0)).mono ?_
  rintro e w1 ⟨rfl, hb⟩
  have g1 := below_size g0 hb
  have PT : PtrP w1 (.pointer (some ⟨w.heap.size, 0, none⟩)) p := PtrP.below ⟨_, _, _, _, rfl, by simp [go_sem], by simp [go_sem], by simp [go_sem], HP.out.below g0⟩ hb
  rw [hV]
  clear hb hV
  go_wp2_with fail
  refine (i_orderOf _ p _ PT HO.out).mono ?_
  rintro e w' ⟨rfl, rfl⟩
  go_wp2_with fail
  go_ret2
  exact ⟨rfl, g1⟩
--== spec.PresentationOrder
set_option maxHeartbeats 2000000 in
theorem s_PresentationOrder (v1 v2 v3 : Value) (p : Pres) (w : World) (hp : RdP w v1 v2 v3 p) :
    Calls Try.prog 38 #[.agg #[v1, v2, v3]] w (RetV w (.tuple #[.int .i64 (okI (validB p) (prodO p.orders)), .int .i64 (cod1 (validB p))])) := by
  have HP := Lib.hid hp
  obtain ⟨ao1, cap1, rfl, _, _⟩ := hp.1.form
  obtain ⟨ao2, cap2, rfl, _, _⟩ := hp.2.1.form
  obtain ⟨ao3, cap3, rfl, _, _⟩ := hp.2.2.form
  have g0 := below_alloc w (Obj.cells #[Value.slice ao1 p.orders.length cap1, Value.slice ao2 p.powers.length cap2, Value.slice ao3 p.conj.length cap3] 26)
  clear hp
  by_cases hV : validB p = true
  case neg =>
    have hV' : validB p = false := by simpa using hV
    rw [hV']
    go_enter Try.func38, Try.ntmps38
    go_wp2_with fail
    refine (s_IsPresentation _ _ _ p _ (HP.out.below g0)).mono ?_
    rintro e w1 ⟨rfl, hb⟩
    have g1 := below_size g0 hb
    rw [hV']
    clear hb hV' hV
    go_wp2_with fail
    go_ret2
    exact ⟨rfl, g1⟩
  have HO := Lib.hid (validB_true.1 hV).ord
  rw [hV]
  go_enter Try.func38, Try.ntmps38
  go_wp2_with fail
  refine (s_IsPresentation _ _ _ p _ (HP.out.below g0)).mono ?_
  rintro e w1 ⟨rfl, hb⟩
  have g1 := below_size g0 hb
  obtain ⟨c1, f1⟩ := bcell hb
  have z1 : w.heap.size < w1.heap.size := by have := hb.size; simp at this; omega
  rw [hV]
  clear hb hV
  go_wp2_with fail
  refine (s_l07Product _ p.orders _ (HP.out.1.below g1) (ordB_true HO.out).1).mono ?_
  rintro e w' ⟨rfl, rfl⟩
  rw [(ordB_true HO.out).2.1]
  go_wp2_with fail
  go_ret2
  exact ⟨rfl, g1⟩
--== impl.NormalWord
set_option maxHeartbeats 2000000 in
theorem i_NormalWord (v1 v2 v3 : Value) (p : Pres) (v : Value) (xs : List Int) (w : World) (hp : RdP w v1 v2 v3 p) (hv : Rd w v xs) :
    Calls Try.prog 45 #[.agg #[v1, v2, v3], v] w (RetInts2 w (okX (exvB p xs) (nwL xs)) (cod1 (exvB p xs))) := by
  have HP := Lib.hid hp
  obtain ⟨ao1, cap1, rfl, _, _⟩ := hp.1.form
  obtain ⟨ao2, cap2, rfl, _, _⟩ := hp.2.1.form
  obtain ⟨ao3, cap3, rfl, _, _⟩ := hp.2.2.form
  have g0 := below_alloc w (Obj.cells #[Value.slice ao1 p.orders.length cap1, Value.slice ao2 p.powers.length cap2, Value.slice ao3 p.conj.length cap3] 26)
  clear hp
  by_cases hV : exvB p xs = true
  case neg =>
    have hV' : exvB p xs = false := by simpa using hV
    rw [hV']
    go_enter Try.func45, Try.ntmps45
    go_wp2_with fail
    refine (i_IsExponentVector _ _ _ p _ xs _ (HP.out.below g0) (hv.below g0)).mono ?_
    rintro e w1 ⟨rfl, hb⟩
    have g1 := below_size g0 hb
    rw [hV']
    clear hb hV' hV
    go_wp2_with fail
    go_ret2
    exact ⟨_, rfl, Ints.nil _ _, g1⟩
  have HS := Lib.hid (exvB_sm hV)
  rw [hV]
  go_enter Try.func45, Try.ntmps45
  go_wp2_with fail
  refine (i_IsExponentVector _ _ _ p _ xs _ (HP.out.below g0) (hv.below g0)).mono ?_
  rintro e w1 ⟨rfl, hb⟩
  have g1 := below_size g0 hb
  rw [hV]
  clear hb hV
  go_wp2_with fail
  refine (i_normalWord _ xs _ (hv.below g1) HS.out).mono ?_
  rintro e w2 ⟨v2, rfl, hI, hb⟩
  have g2 := below_size g1 hb
  have s1 := g1.size
  clear hb
  go_wp2_with fail
  go_ret2
  exact ⟨_, rfl, hI.mono s1, g2⟩
--== spec.NormalWord
set_option maxHeartbeats 2000000 in
theorem s_NormalWord (v1 v2 v3 : Value) (p : Pres) (v : Value) (xs : List Int) (w : World) (hp : RdP w v1 v2 v3 p) (hv : Rd w v xs) :
    Calls Try.prog 44 #[.agg #[v1, v2, v3], v] w (RetInts2 w (okX (exvB p xs) (nwL xs)) (cod1 (exvB p xs))) := by
  have HP := Lib.hid hp
  obtain ⟨ao1, cap1, rfl, _, _⟩ := hp.1.form
  obtain ⟨ao2, cap2, rfl, _, _⟩ := hp.2.1.form
  obtain ⟨ao3, cap3, rfl, _, _⟩ := hp.2.2.form
  have g0 := below_alloc w (Obj.cells #[Value.slice ao1 p.orders.length cap1, Value.slice ao2 p.powers.length cap2, Value.slice ao3 p.conj.length cap3] 26)
  clear hp
  by_cases hV : exvB p xs = true
  case neg =>
    have hV' : exvB p xs = false := by simpa using hV
    rw [hV']
    go_enter Try.func44, Try.ntmps44
    go_wp2_with fail
    refine (s_IsExponentVector _ _ _ p _ xs _ (HP.out.below g0) (hv.below g0)).mono ?_
    rintro e w1 ⟨rfl, hb⟩
    have g1 := below_size g0 hb
    rw [hV']
    clear hb hV' hV
    go_wp2_with fail
    go_ret2
    exact ⟨_, rfl, Ints.nil _ _, g1⟩
  have HS := Lib.hid (exvB_sm hV)
  rw [hV]
  go_enter Try.func44, Try.ntmps44
  go_wp2_with fail
  refine (s_IsExponentVector _ _ _ p _ xs _ (HP.out.below g0) (hv.below g0)).mono ?_
  rintro e w1 ⟨rfl, hb⟩
  have g1 := below_size g0 hb
  rw [hV]
  clear hb hV
  go_wp2_with fail
  refine (s_l07Word _ xs _ (hv.below g1) HS.out).mono ?_
  rintro e w2 ⟨v2, rfl, hI, hb⟩
  have g2 := below_size g1 hb
  have s1 := g1.size
  clear hb
  go_wp2_with fail
  go_ret2
  exact ⟨_, rfl, hI.mono s1, g2⟩
theorem len_NormalWord (p : Pres) (xs : List Int) : (okX (exvB p xs) (nwL xs)).length ≤ 1000000000 := by
  by_cases h : exvB p xs = true
  · rw [h]; have := nwL_len (exvB_sm h); simp [okX]; omega
  · have h' : exvB p xs = false := by simpa using h
    rw [h']; simp [okX]
end Go.Proofs.Ytodlagikdofjfaa
