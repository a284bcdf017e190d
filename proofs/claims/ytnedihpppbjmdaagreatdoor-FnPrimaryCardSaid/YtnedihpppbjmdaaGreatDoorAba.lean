/-
  The reference's base of a prime power and its order on prime powers.
-/
import Derived.Test.YtnedihpppbjmdaaGreatDoorQba
import Derived.Test.YtnedihpppbjmdaaGreatDoorPrb
namespace Go.Proofs.YtnedihpppbjmdaaGreatDoor
set_option linter.unusedVariables false
set_option linter.unusedSimpArgs false
set_option maxRecDepth 100000
open Go.RowKit

theorem bs_dvd {q : Nat} (h : PPw q) : bs q ∣ q := by
  obtain ⟨e, h1, h2, h3, _⟩ := h.ex
  obtain ⟨k, rfl⟩ : ∃ k, e = k + 1 := ⟨e - 1, by omega⟩
  exact ⟨bs q ^ k, by rw [← Nat.pow_succ']; exact h3⟩
theorem bs_two {q : Nat} (h : PPw q) : 2 ≤ bs q := by obtain ⟨e, h1, _⟩ := h.ex; exact h1.1
theorem bs_step {q d : Nat} (h : PPw q) (hd : d ≤ bs q) (hm : ¬ q % d = 0) : d + 1 ≤ bs q := by
  apply Classical.byContradiction
  intro hc
  have : d = bs q := by omega
  exact hm (this ▸ Nat.mod_eq_zero_of_dvd (bs_dvd h))
theorem bs_end {q d : Nat} (h : PPw q) (hd : d ≤ bs q) (hm : q < d * d) : bs q = q := by
  obtain ⟨e, h1, h2, h3, _⟩ := h.ex
  by_cases he : e = 1
  · subst he; rw [Nat.pow_one] at h3; exact h3.symm
  · exfalso
    have h4 : bs q ^ 2 ≤ bs q ^ e := Nat.pow_le_pow_right (by have := h1.1; omega) (by omega)
    rw [← h3, Nat.pow_two] at h4
    have := Nat.mul_le_mul hd hd
    omega
theorem bs_hit {q d : Nat} (h : PPw q) (hd : d ≤ bs q) (h2 : 2 ≤ d) (hm : q % d = 0) : d = bs q := by
  obtain ⟨e, h1, _, h3, _⟩ := h.ex
  obtain ⟨p, hp, hpd⟩ := prm_ex d h2
  have h4 : p ∣ bs q ^ e := h3 ▸ Nat.dvd_trans hpd (Nat.dvd_of_mod_eq_zero hm)
  have h5 := hp.pow h1 h4
  have := Nat.le_of_dvd (by omega) hpd
  omega
theorem pow_rem {p k : Nat} (hp : 2 ≤ p) : (p ^ k % p = 0 ↔ k ≠ 0) ∧ (k ≠ 0 → p ^ k / p = p ^ (k - 1)) := by
  cases k with
  | zero => simp; omega
  | succ k =>
    refine ⟨⟨fun _ => by omega, fun _ => ?_⟩, fun _ => ?_⟩
    · rw [Nat.pow_succ]; exact Nat.mul_mod_left _ _
    · rw [Nat.pow_succ, Nat.mul_div_cancel _ (by omega)]; rfl
--== spec.l05Base
set_option maxHeartbeats 2000000 in
theorem s_l05Base (q : Nat) (hq : PPw q) (w : World) : Calls Tryz.prog 77 #[.int .i64 q] w fun e w' => e = .returned (.int .i64 ((bs q : Nat) : Int)) ∧ w = w' := by
  have HQ := Lib.hid hq
  have hq2 : 2 ≤ q ∧ q ≤ 1000000 := ⟨hq.two, hq.1⟩
  have hb2 := bs_two hq
  have HEX : Hid (∃ e, q = bs q ^ e) := let ⟨e, _, _, h, _⟩ := hq.ex; ⟨e, h⟩
  clear hq
  obtain ⟨p, hp⟩ : ∃ p, bs q = p := ⟨_, rfl⟩
  have HP := Lib.hid hp
  rw [hp] at hb2 HEX ⊢
  clear hp
  go_enter Tryz.func77, Tryz.ntmps77
  go_wp2_with fail
  go_loopw [3] (fun dv wr => ∃ d : Nat, dv = .int .i64 d ∧ 2 ≤ d ∧ d ≤ p ∧ d ≤ 1001 ∧ w = wr) (fun dv _ => 2000 - (intOf dv).toNat)
  case atStart => exact ⟨2, rfl, Nat.le_refl _, hb2, by omega, rfl⟩
  case round =>
    obtain ⟨d, rfl, hd2, hdp, hd3, rfl⟩ := hrel
    have hbd := sq_bd' hd3
    have hdb : d ≤ bs q := by rw [HP.out]; exact hdp
    by_cases hsq : q < d * d
    · have h1 := sq_lt' hsq
      have HE := Lib.hid (bs_end HQ.out hdb hsq)
      clear hsq hdb
      go_wp2_with fail
      go_ret
      exact ⟨by rw [← HP.out, HE.out]; rfl, rfl⟩
    · have h1 := sq_ge' hsq
      have hd1000 := sq_small' hsq hq2.2
      by_cases hm : q % d = 0
      · have hm' : ((q : Int) % (d : Int)) = 0 := by rw [← Int.natCast_emod, hm]; rfl
        have hD : d = p := by rw [← HP.out]; exact bs_hit HQ.out hdb hd2 hm
        subst hD
        clear hsq hdb
        go_wp2_with fail
        clear hbd h1 hm hm'
        go_loopw [0] (fun nv wr2 => ∃ k m : Nat, nv = .int .i64 m ∧ m = d ^ k ∧ m ≤ q ∧ w = wr2) (fun nv _ => (intOf nv).toNat)
        case atStart => exact ⟨_, q, rfl, HEX.out.choose_spec, Nat.le_refl _, rfl⟩
        case round =>
          obtain ⟨k, m, rfl, hm, hmq, rfl⟩ := hrel
          have hpr := pow_rem (p := d) (k := k) hd2
          have hm1 : 1 ≤ m := by rw [hm]; exact Nat.pow_pos (by omega)
          by_cases hk : k = 0
          · subst hk
            rw [Nat.pow_zero] at hm
            subst hm
            have hr : (1 : Int) % (d : Int) = 1 := by have h : ((1 : Nat) : Int) % (d : Int) = ((1 % d : Nat) : Int) := (Int.natCast_emod 1 d).symm; rw [Nat.mod_eq_of_lt (by omega)] at h; exact h
            clear hpr
            go_wp2_with fail
            go_ret
            exact ⟨rfl, rfl⟩
          · have hr0 : m % d = 0 := by rw [hm]; exact hpr.1.2 hk
            have hr1 : m / d = d ^ (k - 1) := by rw [hm]; exact hpr.2 hk
            have hr : (m : Int) % (d : Int) = 0 := by rw [← Int.natCast_emod, hr0]; rfl
            have hq0 : (m : Int) / (d : Int) = ((m / d : Nat) : Int) := (Int.natCast_ediv m d).symm
            have hh := div_half (n := m) (d := d) hd2
            have HR1 := Lib.hid hr1
            clear hpr hr1 hm hr0
            generalize m / d = x at *
            go_wp2_with fail
            go_roundw
            case rel => exact ⟨k - 1, x, by go_num, HR1.out, by omega, by trivial⟩
            case measure => simp [intOf]; omega
      · have hm' : ¬ ((q : Int) % (d : Int)) = 0 := by rw [← Int.natCast_emod]; exact fun h => hm (by exact_mod_cast h)
        have hD : d + 1 ≤ p := by rw [← HP.out]; exact bs_step HQ.out hdb hm
        clear hsq hdb hm
        go_wp2_with fail
        go_roundw
        case rel => exact ⟨d + 1, by go_num, by omega, hD, by omega, by trivial⟩
        case measure => simp [intOf]; omega
--== spec.l05Before
set_option maxHeartbeats 1000000 in
theorem s_l05Before (x y : Nat) (hx : PPw x) (hy : PPw y) (w : World) : Calls Tryz.prog 52 #[.int .i64 x, .int .i64 y] w fun e w' => e = .returned (.bool (bef x y)) ∧ w = w' := by
  have HX := Lib.hid (s_l05Base x hx)
  have HY := Lib.hid (s_l05Base y hy)
  have HB : Hid (bef x y = decide (bs x < bs y ∨ bs x = bs y ∧ x < y)) := rfl
  clear hx hy
  generalize bs x = p at *
  generalize bs y = q at *
  generalize bef x y = r at *
  go_enter Tryz.func52, Tryz.ntmps52
  go_wp2_with fail
  refine (HX.out w).mono ?_
  rintro e w1 ⟨rfl, rfl⟩
  go_wp2_with fail
  refine (HY.out w).mono ?_
  rintro e w1 ⟨rfl, rfl⟩
  by_cases h1 : p < q
  · have e1 : r = true := by rw [HB.out]; simp [h1]
    subst e1
    go_wp2_with fail
    go_ret
    exact ⟨rfl, rfl⟩
  · by_cases h2 : p = q
    · subst h2
      by_cases h3 : x < y
      · have e1 : r = true := by rw [HB.out]; simp [h3]
        subst e1
        go_wp2_with fail
        go_ret
        exact ⟨rfl, rfl⟩
      · have e1 : r = false := by rw [HB.out]; simp [h3]
        subst e1
        go_wp2_with fail
        go_ret
        exact ⟨rfl, rfl⟩
    · have e1 : r = false := by rw [HB.out]; simp [h1, h2]
      subst e1
      go_wp2_with fail
      go_ret
      exact ⟨rfl, rfl⟩
end Go.Proofs.YtnedihpppbjmdaaGreatDoor
