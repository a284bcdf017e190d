/-
  Positive words; normal words, tested.
-/
import Derived.Test.YtjefjhbnkcokhaaRed
namespace Go.Proofs.Ytjefjhbnkcokhaa
set_option linter.unusedVariables false
set_option linter.unusedSimpArgs false
set_option maxRecDepth 100000
open Go.RowKit

--== impl.positiveWord
set_option maxHeartbeats 800000 in
theorem i_positiveWord (vp v : Value) (p : Pres) (xs : List Int) (w : World) (hp : PtrP w vp p) (hv : Rd w v xs) (hn : p.n ≤ 1000) :
    Calls Try.prog 75 #[vp, v] w fun e w' => e = .returned (.bool (posB p.n xs)) ∧ w = w' := by
  obtain ⟨pb, v1, v2, v3, rfl, hp1, hp2, hp3, hR, _, _⟩ := hp
  clear hp2 hp3
  obtain ⟨aq, capq, rfl, _, _⟩ := hR.form
  have HV := Lib.hid hv
  obtain ⟨ao, cap, rfl, hc1, hc2⟩ := hv.form
  have hn' : p.orders.length ≤ 1000 := hn
  have HN : Hid (p.orders.length = p.n) := rfl
  clear hv hR
  go_enter Try.func75, Try.ntmps75
  go_wp2
  go_loop [9] (fun i => ∃ j : Nat, j ≤ xs.length ∧ i = .int .i64 j ∧ posB p.n (xs.take j) = true) (fun i => xs.length - (intOf i).toNat)
  case atStart => exact ⟨0, Nat.zero_le _, rfl, rfl⟩
  case round =>
    obtain ⟨j, hj, rfl, hall⟩ := hrel
    have HA := Lib.hid hall
    clear hall
    by_cases hlt : j < xs.length
    · obtain ⟨b, off, rfl, hcell⟩ := Rd.at HV.out hlt
      have HS : Hid (posB p.n (xs.take (j + 1)) = (posB p.n (xs.take j) && inB (xs.getD j 0) 1 p.n)) := all_take_succ _ xs j hlt
      have HF := Lib.hid (fun h => posB_false (n := p.n) hlt h)
      generalize xs.getD j 0 = x at *
      by_cases hin : inB x 1 p.n = true
      · go_wp2_with (go_at_call 52; refine (i_inside _ _ _ _).mono ?_; rintro e w' ⟨rfl, rfl⟩; rw [show inB x 1 (p.orders.length : Int) = true from hin])
        go_round
        case rel => exact ⟨j + 1, by omega, by go_num, by rw [HS.out, HA.out, hin]; rfl⟩
        case measure => simp [intOf]; omega
      · have hin' : inB x 1 p.n = false := by simpa using hin
        clear hin
        go_wp2_with (go_at_call 52; refine (i_inside _ _ _ _).mono ?_; rintro e w' ⟨rfl, rfl⟩; rw [show inB x 1 (p.orders.length : Int) = false from hin'])
        go_ret
        exact ⟨ret_bool (HF.out hin').symm, rfl⟩
    · obtain rfl : j = xs.length := by omega
      have HX : Hid (posB p.n xs = true) := by have := HA.out; rwa [List.take_length] at this
      go_wp2
      go_ret
      exact ⟨ret_bool HX.out.symm, rfl⟩
--== spec.l09Positive
def posM (n : Nat) (xs : List Int) (m : Nat) : Bool := posB n xs && decide (xs.length ≤ m)
theorem posM_len {n : Nat} {xs : List Int} {m : Nat} (h : ¬ xs.length ≤ m) : posM n xs m = false := by simp [posM, h]
theorem posM_in {n : Nat} {xs : List Int} {m : Nat} (h : xs.length ≤ m) : posM n xs m = posB n xs := by simp [posM, h]
set_option maxHeartbeats 800000 in
theorem s_l09Positive (n : Nat) (v : Value) (xs : List Int) (m : Nat) (w : World) (hv : Rd w v xs) (hn : n ≤ 1000) (hm : m ≤ 100000) :
    Calls Try.prog 81 #[.int .i64 n, v, .int .i64 m] w fun e w' => e = .returned (.bool (posM n xs m)) ∧ w = w' := by
  have HV := Lib.hid hv
  obtain ⟨ao, cap, rfl, hc1, hc2⟩ := hv.form
  clear hv
  by_cases hl : xs.length ≤ m
  case neg =>
    have HX := Lib.hid (posM_len (n := n) hl)
    go_enter Try.func81, Try.ntmps81
    go_wp2
    go_ret
    exact ⟨ret_bool HX.out.symm, rfl⟩
  have HX := Lib.hid (posM_in (n := n) hl)
  have D0 : decide (m < xs.length) = false := by simp; omega
  go_enter Try.func81, Try.ntmps81
  go_wp2
  go_loop [7] (fun i => ∃ j : Nat, j ≤ xs.length ∧ i = .int .i64 j ∧ posB n (xs.take j) = true) (fun i => xs.length - (intOf i).toNat)
  case atStart => exact ⟨0, Nat.zero_le _, rfl, rfl⟩
  case round =>
    obtain ⟨j, hj, rfl, hall⟩ := hrel
    have HA := Lib.hid hall
    clear hall
    by_cases hlt : j < xs.length
    · obtain ⟨b, off, rfl, hcell⟩ := Rd.at HV.out hlt
      have HS : Hid (posB n (xs.take (j + 1)) = (posB n (xs.take j) && inB (xs.getD j 0) 1 n)) := all_take_succ _ xs j hlt
      have HF := Lib.hid (fun h => posB_false (n := n) hlt h)
      generalize xs.getD j 0 = x at *
      by_cases hin : inB x 1 n = true
      · go_wp2_with (go_at_call 44; refine (s_l01In _ _ _ _).mono ?_; rintro e w' ⟨rfl, rfl⟩; rw [hin])
        go_round
        case rel => exact ⟨j + 1, by omega, by go_num, by rw [HS.out, HA.out, hin]; rfl⟩
        case measure => simp [intOf]; omega
      · have hin' : inB x 1 n = false := by simpa using hin
        clear hin
        go_wp2_with (go_at_call 44; refine (s_l01In _ _ _ _).mono ?_; rintro e w' ⟨rfl, rfl⟩; rw [hin'])
        go_ret
        exact ⟨ret_bool (by rw [HX.out, HF.out hin']), rfl⟩
    · obtain rfl : j = xs.length := by omega
      have HX2 : Hid (posB n xs = true) := by have := HA.out; rwa [List.take_length] at this
      go_wp2
      go_ret
      exact ⟨ret_bool (by rw [HX.out, HX2.out]), rfl⟩
--== normal
def posV (p : Pres) (xs : List Int) : Bool := validB p && posM p.n xs 64
def norB (p : Pres) (xs : List Int) : Bool := posV p xs && decide (firstR p.orders xs < 0)
--== impl.IsNormalWord
set_option maxHeartbeats 4000000 in
theorem i_IsNormalWord (v1 v2 v3 : Value) (p : Pres) (v : Value) (xs : List Int) (w : World) (hp : RdP w v1 v2 v3 p) (hv : Rd w v xs) :
    Calls Try.prog 38 #[.agg #[v1, v2, v3], v] w (RetV w (.bool (norB p xs))) := by
  have HP := Lib.hid hp
  have HV := Lib.hid hv
  obtain ⟨ao1, cap1, rfl, _, _⟩ := hp.1.form
  obtain ⟨ao2, cap2, rfl, _, _⟩ := hp.2.1.form
  obtain ⟨ao3, cap3, rfl, _, _⟩ := hp.2.2.form
  obtain ⟨ao, cap, rfl, hc1, hc2⟩ := hv.form
  have g0 := below_alloc w (Obj.cells #[Value.slice ao1 p.orders.length cap1, Value.slice ao2 p.powers.length cap2, Value.slice ao3 p.conj.length cap3] 28)
  have B0 := Bx.new w (Value.slice ao1 p.orders.length cap1) (Value.slice ao2 p.powers.length cap2) (Value.slice ao3 p.conj.length cap3)
  clear hp hv
  by_cases hV : validB p = true
  case neg =>
    have hV' : validB p = false := by simpa using hV
    have HX : Hid (norB p xs = false) := by show _ = _; simp [norB, posV, hV']
    clear hV
    go_enter Try.func38, Try.ntmps38
    go_wp2_with fail
    refine (i_IsPresentation _ _ _ p _ (HP.out.below g0)).mono ?_
    rintro e w1 ⟨rfl, hb⟩
    have g1 := below_size g0 hb
    have B1 := B0.below hb (by simp)
    rw [hV']
    clear hb hV'
    go_wp2_with fail
    go_ret
    exact ⟨ret_bool HX.out.symm, g1⟩
  have HVd := Lib.hid (validB_true.1 hV)
  have hn6 : p.orders.length ≤ 6 := HVd.out.n6
  have HVt := Lib.hid hV
  by_cases hP : posB p.n xs = true
  case neg =>
    have hP' : posB p.n xs = false := by simpa using hP
    have HX : Hid (norB p xs = false) := by show _ = _; simp [norB, posV, posM, hP']
    clear hP
    go_enter Try.func38, Try.ntmps38
    go_wp2_with fail
    refine (i_IsPresentation _ _ _ p _ (HP.out.below g0)).mono ?_
    rintro e w1 ⟨rfl, hb⟩
    have g1 := below_size g0 hb
    have B1 := B0.below hb (by simp)
    rw [hV]
    have PT := B1.ptr (HP.out.below g1)
    clear hb hV
    go_wp2_with fail
    refine (i_positiveWord _ _ p xs _ PT (Rd.below HV.out g1) (by unfold Pres.n; omega)).mono ?_
    rintro e w' ⟨rfl, rfl⟩
    rw [hP']
    go_wp2_with fail
    go_ret
    exact ⟨ret_bool HX.out.symm, g1⟩
  have HPw := Lib.hid hP
  by_cases hl : xs.length ≤ 64
  case neg =>
    have HX : Hid (norB p xs = false) := by show _ = _; simp [norB, posV, posM, hl]
    go_enter Try.func38, Try.ntmps38
    go_wp2_with fail
    refine (i_IsPresentation _ _ _ p _ (HP.out.below g0)).mono ?_
    rintro e w1 ⟨rfl, hb⟩
    have g1 := below_size g0 hb
    have B1 := B0.below hb (by simp)
    rw [hV]
    have PT := B1.ptr (HP.out.below g1)
    clear hb hV
    go_wp2_with fail
    refine (i_positiveWord _ _ p xs _ PT (Rd.below HV.out g1) (by unfold Pres.n; omega)).mono ?_
    rintro e w' ⟨rfl, rfl⟩
    rw [hP]
    clear hP
    go_wp2_with fail
    go_ret
    exact ⟨ret_bool HX.out.symm, g1⟩
  have HX : Hid (norB p xs = decide (firstR p.orders xs < 0)) := by show _ = _; simp [norB, posV, posM, hl, HVt.out, HPw.out]
  go_enter Try.func38, Try.ntmps38
  go_wp2_with fail
  refine (i_IsPresentation _ _ _ p _ (HP.out.below g0)).mono ?_
  rintro e w1 ⟨rfl, hb⟩
  have g1 := below_size g0 hb
  have B1 := B0.below hb (by simp)
  rw [hV]
  have PT := B1.ptr (HP.out.below g1)
  clear hb hV
  go_wp2_with fail
  refine (i_positiveWord _ _ p xs _ PT (Rd.below HV.out g1) (by unfold Pres.n; omega)).mono ?_
  rintro e w' ⟨rfl, rfl⟩
  rw [hP]
  clear hP
  go_wp2_with fail
  refine (i_reducibleAt _ _ p xs _ PT (Rd.below HV.out g1) (posB_true HPw.out) (ordB_true HVd.out.ord).1 (by omega)).mono ?_
  rintro e w2 ⟨rfl, n, rfl⟩
  generalize firstR p.orders xs = f at *
  go_wp2_with fail
  go_ret
  exact ⟨ret_bool HX.out.symm, below_drewN g1 _⟩
