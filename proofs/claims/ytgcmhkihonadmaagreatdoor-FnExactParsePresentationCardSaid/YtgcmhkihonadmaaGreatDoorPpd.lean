/-
  Numbers of a text, and the relative orders: the reference's walks.
-/
import Derived.Test.YtgcmhkihonadmaaGreatDoorPpc
import Derived.Test.YtgcmhkihonadmaaGreatDoorPtb
namespace Go.Proofs.YtgcmhkihonadmaaGreatDoor
set_option linter.unusedVariables false
set_option linter.unusedSimpArgs false
set_option maxRecDepth 100000
open Go.RowKit Go.PlainAid

--== plain
def vf (s : ByteArray) : Nat → Nat
  | 0 => 0
  | i + 1 => 10 * vf s i + (bt s i - 48).toNat
def digB (s : ByteArray) (i : Nat) : Bool := decide (48 ≤ bt s i) && decide (bt s i ≤ 57)
def shV (s : ByteArray) : Bool := decide (s.size = 0) || (decide (6 < s.size) || (decide (1 < s.size) && decide (bt s 0 = 48)))
/-- the number that a text spells, or -1 -/
def vlI (s : ByteArray) : Int := if shV s = true then -1 else if (List.range s.size).all (digB s) = true then (vf s s.size : Int) else -1
theorem digB_true {s : ByteArray} {i : Nat} : digB s i = true ↔ 48 ≤ bt s i ∧ bt s i ≤ 57 := by simp [digB]
theorem vf_lt {s : ByteArray} (i : Nat) (h : ∀ t, t < i → digB s t = true) : vf s i < 10 ^ i := by
  induction i with
  | zero => simp [vf]
  | succ i ih =>
    have h1 := ih fun t ht => h t (by omega)
    have h2 := digB_true.1 (h i (by omega))
    rw [vf, Nat.pow_succ]
    generalize 10 ^ i = P at *
    omega
theorem vf_6 {s : ByteArray} {i : Nat} (hi : i ≤ 6) (h : ∀ t, t < i → digB s t = true) : vf s i < 1000000 :=
  Nat.lt_of_lt_of_le (vf_lt i h) (Nat.le_trans (Nat.pow_le_pow_right (by omega) hi) (by decide))
theorem vlI_sh {s : ByteArray} (h : shV s = true) : vlI s = -1 := if_pos h
theorem vlI_bad {s : ByteArray} {i : Nat} (hi : i < s.size) (h : digB s i = false) : vlI s = -1 := by
  unfold vlI
  split
  · rfl
  · rw [if_neg]
    intro e
    have := List.all_eq_true.1 e i (List.mem_range.2 hi)
    rw [h] at this; cases this
theorem vlI_ok {s : ByteArray} (h0 : shV s = false) (h : ∀ t, t < s.size → digB s t = true) : vlI s = (vf s s.size : Int) := by
  unfold vlI
  rw [h0, if_neg (by simp), if_pos (List.all_eq_true.2 fun t ht => h t (List.mem_range.1 ht))]
theorem vlI_dg {s : ByteArray} {o : Int} (h0 : 0 ≤ o) (h1 : o < 10) (h : s.data.toList = dg o) : vlI s = o := by
  have hz : s.size = 1 := (sz_of h).trans (dg_len h0 h1)
  obtain ⟨x, hd, hx⟩ := drop_at (s := s) (i := 0) (by omega)
  rw [List.drop_zero, h, dg_small h0 h1] at hd
  have hx2 : x = UInt8.ofNat (48 + o.toNat) := by
    have := List.cons.inj hd
    exact this.1.symm
  have hb : bt s 0 = 48 + o := by rw [hx, hx2, UInt8.toNat_ofNat']; omega
  have hs : shV s = false := by unfold shV; rw [hz]; simp
  rw [vlI_ok hs fun t ht => by
    obtain rfl : t = 0 := by omega
    exact digB_true.2 (by omega), hz]
  simp only [vf, hb]
  omega
--== spec.l01Value
set_option maxHeartbeats 4000000 in
theorem s_l01Value (s : ByteArray) (w : World) :
    Calls Tryz.prog 25 #[.string s] w fun e w' => e = .returned (.int .i64 (vlI s)) ∧ w' = w := by
  have hbt := get_bt s
  have h00 := bt_nonneg s 0
  have h01 := bt_le s 0
  by_cases hz : s.size = 0
  · have HX := Lib.hid (vlI_sh (s := s) (by unfold shV; rw [hz]; rfl))
    go_enter Tryz.func25, Tryz.ntmps25
    go_wp2_with fail
    go_ret
    exact ⟨by rw [HX.out]; rfl, rfl⟩
  by_cases h6 : 6 < s.size
  · have HX := Lib.hid (vlI_sh (s := s) (by unfold shV; simp [h6]))
    go_enter Tryz.func25, Tryz.ntmps25
    go_wp2_with fail
    go_ret
    exact ⟨by rw [HX.out]; rfl, rfl⟩
  by_cases hc : 1 < s.size ∧ bt s 0 = 48
  · obtain ⟨hc1, hc2⟩ := hc
    have HX := Lib.hid (vlI_sh (s := s) (by unfold shV; simp [hc1, hc2]))
    go_enter Tryz.func25, Tryz.ntmps25
    go_wp2_with fail
    go_ret
    exact ⟨by rw [HX.out]; rfl, rfl⟩
  have HSH : Hid (shV s = false) := by
    show _ = _
    unfold shV
    rw [decide_eq_false hz, decide_eq_false h6]
    by_cases h1 : 1 < s.size
    · rw [decide_eq_false fun e => hc ⟨h1, e⟩]; simp
    · rw [decide_eq_false h1]; rfl
  have HD : s.size = 1 ∨ (1 < s.size ∧ ¬ bt s 0 = 48) := by
    by_cases h1 : 1 < s.size
    · exact .inr ⟨h1, fun e => hc ⟨h1, e⟩⟩
    · exact .inl (by omega)
  clear hc
  have e1 : ((s.size : Int) == 0) = false := by rw [beq_eq_false_iff_ne]; omega
  have e2 : ¬ (6 : Int) < (s.size : Int) := by omega
  have HD : s.size = 1 ∨ ((1 : Int) < (s.size : Int) ∧ (bt s 0 == 48) = false) := by
    rcases HD with h | ⟨h, h2⟩
    · exact .inl h
    · exact .inr ⟨by omega, by rw [beq_eq_false_iff_ne]; exact h2⟩
  rcases HD with hd | ⟨hd, hd2⟩
  all_goals
    go_enter Tryz.func25, Tryz.ntmps25
    go_wp2_with fail
    go_loopw [3, 4] (fun u t wr => ∃ i : Nat, i ≤ s.size ∧ t = .int .i64 i ∧ u = .int .i64 (vf s i : Nat) ∧ (∀ t, t < i → digB s t = true) ∧ wr = w) (fun _ t _ => s.size - (intOf t).toNat)
    case atStart => exact ⟨0, Nat.zero_le _, rfl, rfl, fun t h => by omega, rfl⟩
    case round =>
      obtain ⟨i, hi, rfl, rfl, hall, hw⟩ := hrel
      subst hw
      have HA := Lib.hid hall
      by_cases hlt : i < s.size
      · have h0 := bt_nonneg s i
        have h1 := bt_le s i
        have hv := vf_6 (by omega) hall
        obtain ⟨V, hV⟩ : ∃ V, vf s i = V := ⟨_, rfl⟩
        have HV := Lib.hid (show vf s (i + 1) = 10 * V + (bt s i - 48).toNat by rw [vf, hV])
        rw [hV] at hv ⊢
        clear hall hV
        by_cases hg : digB s i = true
        · have HG := Lib.hid hg
          have hg2 := digB_true.1 hg
          obtain ⟨hg3, hg4⟩ := hg2
          clear hg
          go_wp2_with fail
          go_roundw
          case rel => exact ⟨i + 1, by omega, by go_num, by rw [HV.out]; congr 1; omega, fun t ht => by
            by_cases h : t < i
            · exact HA.out t h
            · obtain rfl : t = i := by omega
              exact HG.out, (by first | rfl | trivial)⟩
          case measure => (simp [intOf]; try omega)
        · have HX := Lib.hid (vlI_bad hlt (by simpa using hg))
          by_cases hg3 : 48 ≤ bt s i
          · have hg4 : 57 < bt s i := by
              rcases Int.lt_or_le 57 (bt s i) with h | h
              · exact h
              · exact absurd (digB_true.2 ⟨hg3, h⟩) hg
            clear hg
            go_wp2_with fail
            go_ret
            exact ⟨by rw [HX.out]; rfl, rfl⟩
          · have hg4 : bt s i < 48 := by omega
            clear hg
            go_wp2_with fail
            go_ret
            exact ⟨by rw [HX.out]; rfl, rfl⟩
      · obtain rfl : i = s.size := by omega
        have HX := Lib.hid (vlI_ok HSH.out hall)
        clear hall
        go_wp2_with fail
        go_ret
        exact ⟨by rw [HX.out]; rfl, rfl⟩
--== end
end Go.Proofs.YtgcmhkihonadmaaGreatDoor
