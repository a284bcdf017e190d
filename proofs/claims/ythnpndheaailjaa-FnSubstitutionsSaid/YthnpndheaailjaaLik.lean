/-
  Comparing integers, a code's length.
-/
import Derived.Test.YthnpndheaailjaaSrc
namespace Go.Proofs.Ythnpndheaailjaa
set_option linter.unusedVariables false
set_option linter.unusedSimpArgs false
set_option maxRecDepth 100000
open Go.RowKit

theorem codeOf_word {k : Int} {xs : List Int} (h : isWordB k xs = true) : codeOf k [xs] = 0 := by
  unfold isWordB at h
  rw [Bool.and_eq_true] at h
  rw [codeOf_in _ h.1]
  simp [h.2]
theorem rd_formN {w : World} {v : Value} {xs : List Int} (h : Rd w v xs) {n : Nat} (e : xs.length = n) : ∃ ao cap, v = .slice ao n cap ∧ n ≤ cap ∧ cap ≤ 9223372036854775807 := by subst e; exact h.form
--== laws.big
theorem l_big (v : Value) (n : Nat) (w : World) (h : RdU w v n) : Calls Try.prog 43 #[v] w fun e w' => e = .returned (.bool (decide (4096 < n))) ∧ w = w' := by
  obtain ⟨ao, cap, rfl, h1, h2, _⟩ := h
  by_cases hb : 4096 < n
  · rw [decide_eq_true hb]
    go_enter Try.func43, Try.ntmps43
    go_wp2
    go_ret
    exact ⟨ret_bool (decide_eq_true (by omega)), rfl⟩
  · rw [decide_eq_false hb]
    go_enter Try.func43, Try.ntmps43
    go_wp2
    go_ret
    exact ⟨ret_bool (decide_eq_false (by omega)), rfl⟩
--== laws.likeInts
set_option maxHeartbeats 400000 in
theorem l_likeInts (va vb : Value) (xs ys : List Int) (w : World) (ha : Rd w va xs) (hb : Rd w vb ys) :
    Calls Try.prog 49 #[va, vb] w (RetQuiet w (.bool (decide (xs = ys)))) := by
  obtain ⟨ao, cap, rfl, ha1, ha2, _, hA⟩ := ha
  obtain ⟨bo, cap', rfl, hb1, hb2, _, hB⟩ := hb
  by_cases hl : xs.length = ys.length
  · have HL := Lib.hid hl
    have hl1 : ((xs.length : Int) != ys.length) = false := by simp [hl]
    have hl2 : xs.length ≤ ys.length := by omega
    have hl3 : ys.length ≤ xs.length := by omega
    clear hl
    go_enter Try.func49, Try.ntmps49
    go_wp2
    go_loopw [5] (fun i wr => ∃ k : Nat, k ≤ xs.length ∧ i = .int .i64 k ∧ (∀ j, j < k → xs.getD j 0 = ys.getD j 0) ∧ ∃ n, wr = w.drewN n) (fun i _ => xs.length - (intOf i).toNat)
    case atStart => exact ⟨0, Nat.zero_le _, rfl, fun j h => by omega, 0, rfl⟩
    case round =>
      obtain ⟨k, hk, rfl, hpre, n, rfl⟩ := hrel
      have HP := Lib.hid hpre
      clear hpre
      by_cases hlt : k < xs.length
      · rcases hA with hA | ⟨b, off, rfl, hA⟩
        · omega
        rcases hB with hB | ⟨b', off', rfl, hB⟩
        · omega
        have hA' := hA k hlt
        have hB' := hB k (by omega)
        clear hA hB
        by_cases hab : xs.getD k 0 = ys.getD k 0
        · have HAB := Lib.hid hab
          rw [← hab] at hB'
          clear hab
          have HX : Hid (∀ j, j < k + 1 → xs.getD j 0 = ys.getD j 0) := fun j hj => by
            by_cases h : j < k
            · exact HP.out j h
            · obtain rfl : j = k := by omega
              exact HAB.out
          clear HP HAB
          generalize xs.getD k 0 = x at hA' hB'
          go_wp2
          go_quiet (fail)
          go_wp2
          go_roundw
          case rel => exact ⟨k + 1, by omega, by go_num, HX.out, by first | exact ⟨_, rfl⟩ | exact drewN_drewN _ _ _⟩
          case measure => simp [intOf]; omega
        · have HAB := Lib.hid hab
          have hab1 : (xs.getD k 0 != ys.getD k 0) = true := by simpa using hab
          clear hab HP
          have HX : Hid (decide (xs = ys) = false) := decide_eq_false fun e => HAB.out (by rw [e])
          clear HAB
          generalize xs.getD k 0 = x at hA' hab1
          generalize ys.getD k 0 = y at hB' hab1
          go_wp2
          go_quiet (fail)
          go_wp2
          go_ret
          exact ⟨ret_bool HX.out.symm, by first | exact ⟨_, rfl⟩ | exact drewN_drewN _ _ _⟩
      · go_wp2
        go_ret
        exact ⟨ret_bool (decide_eq_true (all_eq HL.out fun j hj => HP.out j (by omega))).symm, n, rfl⟩
  · have HL := Lib.hid hl
    have hl1 : ((xs.length : Int) != ys.length) = true := by simp; omega
    clear hl
    go_enter Try.func49, Try.ntmps49
    go_wp2
    go_ret
    exact ⟨ret_bool (decide_eq_false fun e => HL.out (by rw [e])).symm, 0, rfl⟩
theorem l_like (va vb : Value) (xs ys : List Int) (w : World) (ha : Rd w va xs) (hb : Rd w vb ys) : Calls Try.prog 49 #[va, vb] w (RetV w (.bool (decide (xs = ys)))) :=
  (l_likeInts va vb xs ys w ha hb).mono fun _ _ h => h.below
theorem l_like_same (va vb : Value) (xs : List Int) (w : World) (ha : Rd w va xs) (hb : Rd w vb xs) : Calls Try.prog 49 #[va, vb] w (RetV w (.bool true)) :=
  (l_like va vb xs xs w ha hb).mono fun _ _ h => by rwa [decide_eq_true rfl] at h
end Go.Proofs.Ythnpndheaailjaa
