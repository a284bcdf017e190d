/-
  Powers of numbers; the comparison of prime powers by their primes, and that it gives no draw back.
-/
import Derived.Test.YtnedihpppbjmdaaGreatDoorFad
import Derived.Test.YtnedihpppbjmdaaGreatDoorPrb
import Derived.Test.YtnedihpppbjmdaaGreatDoorQba
namespace Go.Proofs.YtnedihpppbjmdaaGreatDoor
set_option linter.unusedVariables false
set_option linter.unusedSimpArgs false
set_option maxRecDepth 100000
open Go.RowKit

def cmpI (x y : Int) : Int := if x < y then -1 else if y < x then 1 else 0
def orI (x y : Int) : Int := if x = 0 then y else x
/-- how the program compares two prime powers -/
def cfP (x y : Nat) : Int := orI (cmpI (bs x) (bs y)) (cmpI x y)
theorem cfP_lt (x y : Nat) : decide (cfP x y < 0) = bef x y := by
  unfold cfP orI cmpI bef
  have e1 : ((bs x : Nat) : Int) < (bs y : Nat) ↔ bs x < bs y := by omega
  have e2 : ((bs y : Nat) : Int) < (bs x : Nat) ↔ bs y < bs x := by omega
  have e3 : ((x : Nat) : Int) < (y : Nat) ↔ x < y := by omega
  have e4 : ((y : Nat) : Int) < (x : Nat) ↔ y < x := by omega
  simp only [e1, e2, e3, e4]
  by_cases h1 : bs x < bs y
  · simp [h1]
  · by_cases h2 : bs y < bs x
    · simp [h1, h2]; omega
    · have h3 : bs x = bs y := by omega
      by_cases h4 : x < y
      · simp [h3, h4]
      · by_cases h5 : y < x
        · simp [h3, h5]; omega
        · simp [h3, h4, h5]
--== impl.integerPower
theorem pow_mono_lim {p k e : Nat} (hp : 1 ≤ p) (h : k ≤ e) (hm : p ^ e ≤ 1000000) : p ^ k ≤ 1000000 := Nat.le_trans (Nat.pow_le_pow_right hp h) hm
set_option maxHeartbeats 1000000 in
theorem i_intPow (p e : Nat) (w : World) (hp : 1 ≤ p) (hm : p ^ e ≤ 1000000) (he : e ≤ 1000000) : Calls Tryz.prog 30 #[.int .i64 p, .int .i64 e] w (RetV w (.int .i64 ((p ^ e : Nat) : Int))) := by
  have HM := Lib.hid hm
  clear hm
  go_enter Tryz.func30, Tryz.ntmps30
  go_wp2_with fail
  go_loopw [5, 7] (fun u i wr => ∃ k x : Nat, k ≤ e ∧ i = .int .i64 k ∧ u = .int .i64 x ∧ x = p ^ k ∧ Below w.heap.size w wr) (fun _ i _ => e - (intOf i).toNat)
  case atStart => exact ⟨0, 1, Nat.zero_le _, rfl, rfl, rfl, Below.refl _ _⟩
  case round =>
    obtain ⟨k, x, hk, rfl, rfl, hx, hB⟩ := hrel
    by_cases hlt : k < e
    · have h1 : x * p ≤ 1000000 := by rw [hx, ← Nat.pow_succ]; exact pow_mono_lim hp hlt HM.out
      have h2 : (x : Int) * (p : Int) = ((x * p : Nat) : Int) := (Int.natCast_mul x p).symm
      have h3 : (x : Int) * (p : Int) ≤ 1000000 := by rw [h2]; exact Int.ofNat_le.2 h1
      have h4 : 0 ≤ (x : Int) * (p : Int) := by rw [h2]; exact Int.natCast_nonneg _
      have HX := Lib.hid hx
      have H2 := Lib.hid h2
      clear hx h2 h1
      go_wp2_with fail
      go_roundw
      case rel => exact ⟨k + 1, x * p, by omega, by go_num, by rw [H2.out], by rw [HX.out, Nat.pow_succ], hB⟩
      case measure => simp [intOf]; omega
    · obtain rfl : k = e := by omega
      have HX := Lib.hid hx
      clear hx
      go_wp2_with fail
      go_ret
      exact ⟨by rw [← HX.out]; rfl, hB⟩
--== cmp.Compare
set_option maxHeartbeats 1000000 in
theorem f_Compare (x y : Int) (w : World) : Calls Tryz.prog 34 #[.int .i64 x, .int .i64 y] w fun e w' => e = .returned (.int .i64 (cmpI x y)) ∧ w' = w := by
  unfold cmpI
  by_cases h1 : x < y
  · rw [if_pos h1]
    go_enter Tryz.func34, Tryz.ntmps34
    go_wp2
    go_ret
    exact ⟨rfl, rfl⟩
  · rw [if_neg h1]
    by_cases h2 : y < x
    · rw [if_pos h2]
      go_enter Tryz.func34, Tryz.ntmps34
      go_wp2
      go_ret
      exact ⟨rfl, rfl⟩
    · rw [if_neg h2]
      go_enter Tryz.func34, Tryz.ntmps34
      go_wp2
      go_ret
      exact ⟨rfl, rfl⟩
--== cmp.Or
set_option maxHeartbeats 1000000 in
theorem f_Or (x y : Int) (b : Nat) (w : World) (h0 : w.cell? ⟨b, 0, none⟩ = some (.int .i64 x)) (h1 : w.cell? ⟨b, 1, none⟩ = some (.int .i64 y)) : Calls Tryz.prog 33 #[.slice (some ⟨b, 0, none⟩) 2 2] w fun e w' => e = .returned (.int .i64 (orI x y)) ∧ w' = w := by
  unfold orI
  by_cases hx : x = 0
  · subst hx
    rw [if_pos rfl]
    by_cases hy : y = 0
    · subst hy
      go_enter Tryz.func33, Tryz.ntmps33
      go_wp2
      refine wp_loop_rounds 3 ?_
      rw [rounds_succ]
      go_wp2
      rw [rounds_succ]
      go_wp2
      rw [rounds_succ]
      go_wp2
      go_ret
      exact ⟨rfl, rfl⟩
    · go_enter Tryz.func33, Tryz.ntmps33
      go_wp2
      refine wp_loop_rounds 2 ?_
      rw [rounds_succ]
      go_wp2
      rw [rounds_succ]
      go_wp2
      go_ret
      exact ⟨rfl, rfl⟩
  · rw [if_neg hx]
    go_enter Tryz.func33, Tryz.ntmps33
    go_wp2
    refine wp_loop_rounds 1 ?_
    rw [rounds_succ]
    go_wp2
    go_ret
    exact ⟨rfl, rfl⟩
--== the closure
set_option maxHeartbeats 4000000 in
theorem i_less (x y : Nat) (hx : PPw x) (hy : PPw y) (w : World) : Calls Tryz.prog 32 #[.int .i64 x, .int .i64 y] w fun e w' => e = .returned (.int .i64 (cfP x y)) ∧ Bld w w' := by
  have HFX : Hid (∃ e, facN x = [(bs x, e)]) := let ⟨e, _, _, _, h⟩ := hx.ex; ⟨e, h⟩
  have HFY : Hid (∃ e, facN y = [(bs y, e)]) := let ⟨e, _, _, _, h⟩ := hy.ex; ⟨e, h⟩
  have HX := Lib.hid (show 1 ≤ x ∧ x ≤ 1000000 by have := hx.two; have := hx.1; omega)
  have HY := Lib.hid (show 1 ≤ y ∧ y ≤ 1000000 by have := hy.two; have := hy.1; omega)
  clear hx hy
  go_enter Tryz.func32, Tryz.ntmps32
  go_wp2_with fail
  refine (i_facW x w HX.out.1 HX.out.2).mono ?_
  rintro e w1 ⟨v1, v2, rfl, hI1, hI2, hB1⟩
  obtain ⟨ex, hfx⟩ := HFX.out
  rw [hfx] at hI1 hI2
  have hA1 := Lib.hid hI1.rd
  obtain ⟨a1, c1, rfl, _, _⟩ := rd_formN hA1.out (n := 1) (by simp [nI])
  obtain ⟨a2, c2, rfl, _, _⟩ := rd_formN hI2.rd (n := 1) (by simp [nI])
  have HB1 := Lib.hid hB1
  clear hI1 hI2 hB1 hfx
  go_wp2_with fail
  refine (i_facW y w1 HY.out.1 HY.out.2).mono ?_
  rintro e w2 ⟨v3, v4, rfl, hI3, hI4, hB2⟩
  obtain ⟨ey, hfy⟩ := HFY.out
  rw [hfy] at hI3 hI4
  obtain ⟨a3, c3, rfl, _, _⟩ := rd_formN hI3.rd (n := 1) (by simp [nI])
  obtain ⟨a4, c4, rfl, _, _⟩ := rd_formN hI4.rd (n := 1) (by simp [nI])
  obtain ⟨b1, o1, e1, hc1⟩ := (hA1.out.below hB2.1).at (j := 0) (by simp [nI])
  obtain ⟨b3, o3, e3, hc3⟩ := hI3.rd.at (j := 0) (by simp [nI])
  subst e1 e3
  simp only [nI, List.map_cons, List.map_nil, List.getD_cons_zero, Nat.add_zero] at hc1 hc3
  have HB2 := Lib.hid (HB1.out.then hB2)
  have HP : Hid (cfP x y = orI (cmpI (bs x) (bs y)) (cmpI x y)) := rfl
  have HEND : Hid (∀ o, Bld w (w2.alloc o).drew) := fun o => ⟨HB2.out.1.trans ((below_alloc w2 o).drew.mono HB2.out.1.size), Nat.le_trans HB2.out.2 (Nat.le_succ _)⟩
  generalize bs x = px at *
  generalize bs y = py at *
  clear hI3 hI4 hB2 hfy HB1 HX HY HFX HFY hA1
  have KEEP : Hid (∀ wx, Below w2.heap.size w2 wx → wx.cell? ⟨b1, o1, none⟩ = some (.int .i64 px) ∧ wx.cell? ⟨b3, o3, none⟩ = some (.int .i64 py)) := fun wx hb =>
    ⟨(hb.cell (World.block_lt_of_cell? _ _ hc1)).trans hc1, (hb.cell (World.block_lt_of_cell? _ _ hc3)).trans hc3⟩
  go_wp2_with fail
  go_region_held3 (fun wx => wx.cell? ⟨b1, o1, none⟩ = some (.int .i64 px) ∧ wx.cell? ⟨b3, o3, none⟩ = some (.int .i64 py))
    (first
      | exact KEEP.out _ (Below.refl _ _).drew
      | exact KEEP.out _ (below_size (Below.refl _ _).drew (below_alloc _ _)))
    (first
      | ((go_at_call 34); (with_reducible refine (f_Compare _ _ _).mono ?_); (rintro e w4 ⟨rfl, rfl⟩))
      | ((go_at_call 33); (with_reducible refine (f_Or (cmpI px py) (cmpI x y) _ _ (by simp) (by simp)).mono ?_); (rintro e w5 ⟨rfl, rfl⟩)))
  all_goals
    go_wp2_with fail
    go_ret
    exact ⟨by rw [HP.out]; rfl, HEND.out _⟩
end Go.Proofs.YtnedihpppbjmdaaGreatDoor
