/-
  Words: is a list a word; its reduced form; its inverse.
-/
import Derived.Test.YtjnnjnhmecidmaaLeaf
namespace Go.Proofs.Ytjnnjnhmecidmaa
set_option linter.unusedVariables false
set_option linter.unusedSimpArgs false
set_option maxRecDepth 100000
open Go.RowKit

/-- a letter over k generators -/
def letB (k l : Int) : Bool := (l != 0) && inB l (-k) k
/-- a word over k generators -/
def wordB (k : Int) (w : List Int) : Bool := w.all (letB k) && decide (w.length ≤ 64)

theorem all_take_succ (f : Int → Bool) (xs : List Int) (k : Nat) (h : k < xs.length) : (xs.take (k + 1)).all f = ((xs.take k).all f && f (xs.getD k 0)) := by
  rw [take_snoc xs k 0 h]; simp
theorem all_false_of (f : Int → Bool) (xs : List Int) (k : Nat) (h : k < xs.length) (hf : f (xs.getD k 0) = false) : xs.all f = false := by
  rw [List.all_eq_false]; exact ⟨_, getD_mem h, by rw [hf]; simp⟩
theorem letB_zero (k : Int) : letB k 0 = false := by simp [letB]
theorem letB_of {k l : Int} (h : l ≠ 0) : letB k l = inB l (-k) k := by simp [letB, h]

--== impl.wordFits
set_option maxHeartbeats 400000 in
theorem i_wordFits (k : Int) (v : Value) (xs : List Int) (w : World) (hk0 : 0 ≤ k) (hk1 : k ≤ 1000) (hv : Rd w v xs) :
    Calls Try.prog 121 #[.int .i64 k, v] w fun e w' => e = .returned (.bool (wordB k xs)) ∧ w = w' := by
  obtain ⟨ao, cap, rfl, hc1, hc2, _, hA⟩ := hv
  go_enter Try.func121, Try.ntmps121
  go_wp2
  go_loop [9] (fun i => ∃ j : Nat, j ≤ xs.length ∧ i = .int .i64 j ∧ (xs.take j).all (letB k) = true) (fun i => xs.length - (intOf i).toNat)
  case atStart => exact ⟨0, Nat.zero_le _, rfl, rfl⟩
  case round =>
    obtain ⟨j, hj, rfl, hall⟩ := hrel
    by_cases hlt : j < xs.length
    · rcases hA with hA | ⟨b, off, rfl, hA⟩
      · omega
      have hcell := hA j hlt
      have HS := Lib.hid (all_take_succ (letB k) xs j hlt)
      have HF := Lib.hid (all_false_of (letB k) xs j hlt)
      have HA := Lib.hid hall
      clear hA hall
      generalize xs.getD j 0 = x at *
      by_cases hx : x = 0
      · subst hx
        go_wp2
        go_ret
        exact ⟨ret_bool (by unfold wordB; rw [HF.out (letB_zero k)]; rfl), rfl⟩
      · have hx1 : (x == 0) = false := by simp [hx]
        have HX := Lib.hid hx
        clear hx
        by_cases hin : inB x (-k) k = true
        · go_wp2_with (go_at_call 93; refine (i_inside _ _ _ _).mono ?_; rintro e w' ⟨rfl, rfl⟩)
          go_round
          case rel => exact ⟨j + 1, by omega, by go_num, by rw [HS.out, HA.out, letB_of HX.out, hin]; rfl⟩
          case measure => simp [intOf]; omega
        · have hin' : inB x (-k) k = false := by simpa using hin
          clear hin
          go_wp2_with (go_at_call 93; refine (i_inside _ _ _ _).mono ?_; rintro e w' ⟨rfl, rfl⟩)
          go_ret
          exact ⟨ret_bool (by unfold wordB; rw [HF.out (by rw [letB_of HX.out]; exact hin')]; rfl), rfl⟩
    · obtain rfl : j = xs.length := by omega
      rw [List.take_length] at hall
      have HA := Lib.hid hall
      clear hall
      by_cases h64 : xs.length ≤ 64 <;>
        (go_wp2
         go_ret
         exact ⟨ret_bool (by unfold wordB; rw [HA.out]; simp [h64]; omega), rfl⟩)
--== spec.l06Word
set_option maxHeartbeats 400000 in
theorem s_l06Word (k : Int) (v : Value) (xs : List Int) (w : World) (hk0 : 0 ≤ k) (hk1 : k ≤ 1000) (hv : Rd w v xs) :
    Calls Try.prog 131 #[.int .i64 k, v] w fun e w' => e = .returned (.bool (wordB k xs)) ∧ w = w' := by
  obtain ⟨ao, cap, rfl, hc1, hc2, _, hA⟩ := hv
  by_cases h64 : xs.length ≤ 64
  · go_enter Try.func131, Try.ntmps131
    go_wp2
    go_loop [5] (fun i => ∃ j : Nat, j ≤ xs.length ∧ i = .int .i64 j ∧ (xs.take j).all (letB k) = true) (fun i => xs.length - (intOf i).toNat)
    case atStart => exact ⟨0, Nat.zero_le _, rfl, rfl⟩
    case round =>
      obtain ⟨j, hj, rfl, hall⟩ := hrel
      by_cases hlt : j < xs.length
      · rcases hA with hA | ⟨b, off, rfl, hA⟩
        · omega
        have hcell := hA j hlt
        have HS := Lib.hid (all_take_succ (letB k) xs j hlt)
        have HF := Lib.hid (all_false_of (letB k) xs j hlt)
        have HA := Lib.hid hall
        clear hA hall
        generalize xs.getD j 0 = x at *
        by_cases hx : x = 0
        · subst hx
          go_wp2
          go_ret
          exact ⟨ret_bool (by unfold wordB; rw [HF.out (letB_zero k)]; rfl), rfl⟩
        · have hx1 : (x == 0) = false := by simp [hx]
          have HX := Lib.hid hx
          clear hx
          by_cases hin : inB x (-k) k = true
          · go_wp2_with (go_at_call 89; refine (s_l01In _ _ _ _).mono ?_; rintro e w' ⟨rfl, rfl⟩)
            go_round
            case rel => exact ⟨j + 1, by omega, by go_num, by rw [HS.out, HA.out, letB_of HX.out, hin]; rfl⟩
            case measure => simp [intOf]; omega
          · have hin' : inB x (-k) k = false := by simpa using hin
            clear hin
            go_wp2_with (go_at_call 89; refine (s_l01In _ _ _ _).mono ?_; rintro e w' ⟨rfl, rfl⟩)
            go_ret
            exact ⟨ret_bool (by unfold wordB; rw [HF.out (by rw [letB_of HX.out]; exact hin')]; rfl), rfl⟩
      · obtain rfl : j = xs.length := by omega
        rw [List.take_length] at hall
        have HA := Lib.hid hall
        clear hall
        go_wp2
        go_ret
        exact ⟨ret_bool (by unfold wordB; rw [HA.out]; simp [h64]), rfl⟩
  · go_enter Try.func131, Try.ntmps131
    go_wp2
    go_ret
    exact ⟨ret_bool (by unfold wordB; rw [decide_eq_false h64]; simp), rfl⟩
--== IsWord
def isWordB (k : Int) (w : List Int) : Bool := inB k 0 6 && wordB k w
--== impl.IsWord
theorem i_IsWord' (k : Int) (v : Value) (xs : List Int) (w : World) (hv : Rd w v xs) :
    Calls Try.prog 53 #[.int .i64 k, v] w fun e w' => e = .returned (.bool (isWordB k xs)) ∧ w = w' := by
  by_cases hk : inB k 0 6 = true
  · obtain ⟨h0, h1⟩ := inB_true.1 hk
    go_enter Try.func53, Try.ntmps53
    go_wp2_with (first | (go_at_call 120; refine (i_gensFit _ _).mono ?_; rintro e w' ⟨rfl, rfl⟩) | (go_at_call 121; refine (i_wordFits _ _ xs _ (by omega) (by omega) hv).mono ?_; rintro e w' ⟨rfl, rfl⟩))
    go_ret
    exact ⟨ret_bool (by simp [isWordB, hk]), rfl⟩
  · have hk' : inB k 0 6 = false := by simpa using hk
    clear hk
    go_enter Try.func53, Try.ntmps53
    go_wp2_with (go_at_call 120; refine (i_gensFit _ _).mono ?_; rintro e w' ⟨rfl, rfl⟩)
    go_ret
    exact ⟨ret_bool (by simp [isWordB, hk']), rfl⟩
theorem i_IsWord (k : Int) (v : Value) (xs : List Int) (w : World) (hv : Rd w v xs) : Calls Try.prog 53 #[.int .i64 k, v] w (RetV w (.bool (isWordB k xs))) := retV_same (i_IsWord' k v xs w hv)
