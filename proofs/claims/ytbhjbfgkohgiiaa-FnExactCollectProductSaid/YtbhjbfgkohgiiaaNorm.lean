/-
  Positive words; normal words, tested.
-/
import Derived.Test.YtbhjbfgkohgiiaaRed
namespace Go.Proofs.Ytbhjbfgkohgiiaa
set_option linter.unusedVariables false
set_option linter.unusedSimpArgs false
set_option maxRecDepth 100000
open Go.RowKit

--== impl.positiveWord
set_option maxHeartbeats 800000 in
theorem i_positiveWord (vp v : Value) (p : Pres) (xs : List Int) (w : World) (hp : PtrP w vp p) (hv : Rd w v xs) (hn : p.n ≤ 1000) :
    Calls Try.prog 82 #[vp, v] w fun e w' => e = .returned (.bool (posB p.n xs)) ∧ w = w' := by
  obtain ⟨pb, v1, v2, v3, rfl, hp1, hp2, hp3, hR, _, _⟩ := hp
  clear hp2 hp3
  obtain ⟨aq, capq, rfl, _, _⟩ := hR.form
  have HV := Lib.hid hv
  obtain ⟨ao, cap, rfl, hc1, hc2⟩ := hv.form
  have hn' : p.orders.length ≤ 1000 := hn
  have HN : Hid (p.orders.length = p.n) := rfl
  clear hv hR
  go_enter Try.func82, Try.ntmps82
  go_wp2
  go_loop [9] (fun i => ∃ j : Nat, j ≤ xs.length ∧ i = .int .i64 j ∧ posB p.n (xs.take j) = true) (fun i => xs.length - (intOf i).toNat)
  case atStart => exact ⟨0, Nat.zero_le _, rfl, rfl⟩
  case round =>
    obtain ⟨j, hj, rfl, hall⟩ := hrel
    have HA := Lib.hid hall
    clear hall
    by_cases hlt : j < xs.length
    · obtain ⟨b, off, rfl, hcell⟩ := Rd.at HV.out hlt
      have HS : Hid (posB p.n (xs.take (j + 1)) = (posB p.n (xs.take j) && inB (xs.getD j 0) 1 p.n)) := all_take_succ _ xs j hlt
      have HF := Lib.hid (fun h => posB_false (n := p.n) hlt h)
      generalize xs.getD j 0 = x at *
      by_cases hin : inB x 1 p.n = true
      · go_wp2_with (go_at_call 65; refine (i_inside _ _ _ _).mono ?_; rintro e w' ⟨rfl, rfl⟩; rw [show inB x 1 (p.orders.length : Int) = true from hin])
        go_round
        case rel => exact ⟨j + 1, by omega, by go_num, by rw [HS.out, HA.out, hin]; rfl⟩
        case measure => simp [intOf]; omega
      · have hin' : inB x 1 p.n = false := by simpa using hin
        clear hin
        go_wp2_with (go_at_call 65; refine (i_inside _ _ _ _).mono ?_; rintro e w' ⟨rfl, rfl⟩; rw [show inB x 1 (p.orders.length : Int) = false from hin'])
        go_ret
        exact ⟨ret_bool (HF.out hin').symm, rfl⟩
    · obtain rfl : j = xs.length := by omega
      have HX : Hid (posB p.n xs = true) := by have := HA.out; rwa [List.take_length] at this
      go_wp2
      go_ret
      exact ⟨ret_bool HX.out.symm, rfl⟩
--== spec.l09Positive
def posM (n : Nat) (xs : List Int) (m : Nat) : Bool := posB n xs && decide (xs.length ≤ m)
theorem posM_len {n : Nat} {xs : List Int} {m : Nat} (h : ¬ xs.length ≤ m) : posM n xs m = false := by simp [posM, h]
theorem posM_in {n : Nat} {xs : List Int} {m : Nat} (h : xs.length ≤ m) : posM n xs m = posB n xs := by simp [posM, h]
set_option maxHeartbeats 800000 in
theorem s_l09Positive (n : Nat) (v : Value) (xs : List Int) (m : Nat) (w : World) (hv : Rd w v xs) (hn : n ≤ 1000) (hm : m ≤ 100000) :
    Calls Try.prog 79 #[.int .i64 n, v, .int .i64 m] w fun e w' => e = .returned (.bool (posM n xs m)) ∧ w = w' := by
  have HV := Lib.hid hv
  obtain ⟨ao, cap, rfl, hc1, hc2⟩ := hv.form
  clear hv
  by_cases hl : xs.length ≤ m
  case neg =>
    have HX := Lib.hid (posM_len (n := n) hl)
    go_enter Try.func79, Try.ntmps79
    go_wp2
    go_ret
    exact ⟨ret_bool HX.out.symm, rfl⟩
  have HX := Lib.hid (posM_in (n := n) hl)
  have D0 : decide (m < xs.length) = false := by simp; omega
  go_enter Try.func79, Try.ntmps79
  go_wp2
  go_loop [7] (fun i => ∃ j : Nat, j ≤ xs.length ∧ i = .int .i64 j ∧ posB n (xs.take j) = true) (fun i => xs.length - (intOf i).toNat)
  case atStart => exact ⟨0, Nat.zero_le _, rfl, rfl⟩
  case round =>
    obtain ⟨j, hj, rfl, hall⟩ := hrel
    have HA := Lib.hid hall
    clear hall
    by_cases hlt : j < xs.length
    · obtain ⟨b, off, rfl, hcell⟩ := Rd.at HV.out hlt
      have HS : Hid (posB n (xs.take (j + 1)) = (posB n (xs.take j) && inB (xs.getD j 0) 1 n)) := all_take_succ _ xs j hlt
      have HF := Lib.hid (fun h => posB_false (n := n) hlt h)
      generalize xs.getD j 0 = x at *
      by_cases hin : inB x 1 n = true
      · go_wp2_with (go_at_call 61; refine (s_l01In _ _ _ _).mono ?_; rintro e w' ⟨rfl, rfl⟩; rw [hin])
        go_round
        case rel => exact ⟨j + 1, by omega, by go_num, by rw [HS.out, HA.out, hin]; rfl⟩
        case measure => simp [intOf]; omega
      · have hin' : inB x 1 n = false := by simpa using hin
        clear hin
        go_wp2_with (go_at_call 61; refine (s_l01In _ _ _ _).mono ?_; rintro e w' ⟨rfl, rfl⟩; rw [hin'])
        go_ret
        exact ⟨ret_bool (by rw [HX.out, HF.out hin']), rfl⟩
    · obtain rfl : j = xs.length := by omega
      have HX2 : Hid (posB n xs = true) := by have := HA.out; rwa [List.take_length] at this
      go_wp2
      go_ret
      exact ⟨ret_bool (by rw [HX.out, HX2.out]), rfl⟩
--== normal
def posV (p : Pres) (xs : List Int) : Bool := validB p && posM p.n xs 64
def norB (p : Pres) (xs : List Int) : Bool := posV p xs && decide (firstR p.orders xs < 0)
