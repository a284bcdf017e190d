/-
  Orders of elements, powers, numbers: both sides.
-/
import Derived.Test.YtanjeebdondpaaaMul
import Derived.Test.YtanjeebdondpaaaPer
namespace Go.Proofs.Ytanjeebdondpaaa
set_option linter.unusedVariables false
set_option linter.unusedSimpArgs false
set_option maxRecDepth 100000
open Go.RowKit

theorem ValidP.r4 {p : Pres} (h : ValidP p) (k : Nat) (hk : k < p.n) : p.r k = 2 ∨ p.r k = 3 ∨ p.r k = 5 ∨ p.r k = 7 :=
  primeB_true.1 (List.all_eq_true.1 (ordB_true h.ord).1 _ (getD_mem (xs := p.orders) (k := k) hk))
theorem zeroB_zv {p : Pres} {x : List Int} (hx : x.length = p.n) : zeroB x = true ↔ x = p.zv := by
  rw [zeroB_true]
  constructor
  · intro h; exact vext (by rw [hx, p.zv_len]) fun j hj => by rw [h j hj, zv_get]
  · rintro rfl j _; exact zv_get p j
--== impl.orderOfElement
set_option maxHeartbeats 4000000 in
theorem i_orderOfElement {p : Pres} (hV : ValidP p) (hG : GT p 0) (vp vx : Value) (x : List Int) (w : World) (hp : PtrP w vp p) (hx : Rd w vx x) (kx : VI p 0 x) :
    Calls Try.prog 68 #[vp, vx] w fun e w' => ∃ K : Nat, e = .returned (.int .i64 K) ∧ Below w.heap.size w w' ∧ 1 ≤ K ∧ K ≤ 117649 ∧ (∃ c : Nat, prodO p.orders = (K : Int) * c) ∧ pw (p.at 0) p.zv x K = p.zv ∧ ∀ m : Nat, 1 ≤ m → pw (p.at 0) p.zv x m = p.zv → K ≤ m := by
  have hn6 := hV.n6
  have HP := Lib.hid hp
  have HG := Lib.hid hG
  have KX := Lib.hid kx
  have H0 := Lib.hid (Per.start hG kx)
  obtain ⟨pb, v1, v2, v3, rfl, c1, c2, c3, R1, R2, R3⟩ := hp
  obtain ⟨a1, q1, rfl, _, _⟩ := R1.formN (n := p.n) rfl
  have HR1 := Lib.hid R1
  have C1 := Lib.hid c1
  have HB7 : Hid (∀ d, d ≤ 6 → 7 ^ d ≤ 117649) := fun d hd => by
    have : d = 0 ∨ d = 1 ∨ d = 2 ∨ d = 3 ∨ d = 4 ∨ d = 5 ∨ d = 6 := by omega
    rcases this with rfl | rfl | rfl | rfl | rfl | rfl | rfl <;> decide
  clear R1 R2 R3 c1 c2 c3 kx hG
  go_enter Try.func68, Try.ntmps68
  go_wp2_with fail
  go_loopw [5, 6, 7] (fun k t u wr => ∃ (d K : Nat) (now : List Int), d ≤ p.n ∧ k = .int .i64 K ∧ t = .int .i64 d ∧ Rd wr u now ∧ Per p x d K now ∧ Below w.heap.size w wr) (fun _ t _ _ => p.n - (intOf t).toNat)
  case atStart => exact ⟨0, 1, x, Nat.zero_le _, rfl, rfl, hx, H0.out, Below.refl _ _⟩
  case round =>
    clear hx
    obtain ⟨d, K, now, hd, rfl, rfl, hR, hper, hB⟩ := hrel
    have hnow : VI p 0 now := by rw [hper.pow]; exact HG.out.pw KX.out K
    obtain ⟨au, cu, rfl, _, _⟩ := hR.formN hnow.len
    have HPer := Lib.hid hper
    have hKb := Nat.le_trans hper.bd (HB7.out d (by omega))
    have hKp := hper.pos
    clear hper
    by_cases hz : zeroB now = true
    · have HZ := Lib.hid ((zeroB_zv hnow.len).1 hz)
      go_wp2_with fail
      refine (i_isZero _ now _ hR).mono ?_
      rintro e w' ⟨rfl, rfl⟩
      rw [hz]
      clear hz
      go_wp2_with fail
      go_ret
      exact ⟨K, rfl, hB, hKp, hKb, Per.dvn hV.valid hd (by rw [HZ.out]; exact fun k _ => zv_get p k) HPer.out, HPer.out.stop HZ.out⟩
    · have hz' : zeroB now = false := by simpa using hz
      have hdn : d < p.n := by
        by_cases h : d < p.n
        · exact h
        · exfalso
          apply hz
          rw [zeroB_true]
          intro j hj
          exact HPer.out.zero j (by rw [hnow.len] at hj; omega)
      clear hz
      have HNow := Lib.hid hnow
      obtain ⟨b6, o6, rfl, hcell⟩ := hR.at (show d < now.length by rw [hnow.len]; exact hdn)
      obtain ⟨c, Hc⟩ := nam (now.getD d 0)
      rw [Hc.out] at hcell
      have HR := Lib.hid hR
      obtain ⟨b1, o1, rfl, k1⟩ := HR1.out.at (j := d) hdn
      have hr4 := hV.r4 d hdn
      have hrk := hV.rk d hdn
      obtain ⟨r, hr⟩ : ∃ r : Nat, p.r d = (r : Int) := ⟨(p.r d).toNat, by omega⟩
      have k1' : w.cell? ⟨b1, o1 + d, none⟩ = some (.int .i64 (r : Int)) := by rw [← hr]; exact k1
      have hr7 : r ≤ 7 := by omega
      have K1 := Lib.hid k1'
      have HRr := Lib.hid hr
      have HR4 := Lib.hid hr4
      clear hnow k1 k1' hr hr4 hrk
      by_cases hc : c = 0
      · subst hc
        have HPer2 := Lib.hid (HPer.out.skip hV.valid hdn Hc.out)
        go_wp2_with fail
        refine (i_isZero _ now _ HR.out).mono ?_
        rintro e w' ⟨rfl, rfl⟩
        rw [hz']
        clear hz'
        go_wp2_with fail
        go_roundw
        case rel => exact ⟨d + 1, K, now, by omega, rfl, by go_num, HR.out, HPer2.out, hB⟩
        case measure => simp [intOf]; omega
      · have D1 : (c != 0) = true := by simpa using hc
        have D2 : (c == 0) = false := by simpa using hc
        have HPer2 := Lib.hid (HPer.out.step HG.out KX.out hdn HR4.out (by rw [Hc.out]; exact hc))
        rw [HRr.out, Int.toNat_natCast] at HPer2
        clear hc
        have e0 := below_cells hB _ _ C1.out
        have e1 := below_cells hB _ _ K1.out
        go_wp2_with fail
        refine (i_isZero _ now _ HR.out).mono ?_
        rintro e w' ⟨rfl, rfl⟩
        rw [hz']
        clear hz'
        go_wp2_with fail
        refine (i_power _ _ p 0 now r _ (HP.out.below hB) hV HG.out HR.out HNow.out (by omega)).mono ?_
        rintro e w2 ⟨u2, rfl, hI2, hB2⟩
        have hB3 := below_size hB hB2
        have hR2 := hI2.rd
        have e0' := below_cells hB3 _ _ C1.out
        have e1' := below_cells hB3 _ _ K1.out
        have hm : (0 : Int) ≤ (K : Int) * (r : Int) ∧ (K : Int) * (r : Int) ≤ 823543 := by
          have h1 : K * r ≤ 117649 * 7 := Nat.mul_le_mul hKb hr7
          have h2 : (0 : Int) ≤ ((K * r : Nat) : Int) := by omega
          rw [← Int.natCast_mul]; omega
        have hm1 : (-9223372036854775808 : Int) ≤ (K : Int) * (r : Int) ∧ (K : Int) * (r : Int) ≤ 9223372036854775807 := by omega
        clear hB hB2 hI2 hcell e0 e1
        go_wp2_with fail
        go_roundw
        case rel => exact ⟨d + 1, K * r, _, by omega, by rw [Int.natCast_mul], by go_num, hR2, HPer2.out, hB3⟩
        case measure => simp [intOf]; omega
--== powers
def pwC (p : Pres) (x : List Int) (k : Int) : Int := if elsB p [x] = true then (if inB k (-1000000) 1000000 = true then 0 else 2) else 1
theorem pwC_1 {p : Pres} {x : List Int} {k : Int} (h : elsB p [x] = false) : pwC p x k = 1 := by unfold pwC; rw [h]; rfl
theorem pwC_2 {p : Pres} {x : List Int} {k : Int} (h : elsB p [x] = true) (h2 : inB k (-1000000) 1000000 = false) : pwC p x k = 2 := by unfold pwC; rw [h, h2]; rfl
theorem pwC_0 {p : Pres} {x : List Int} {k : Int} (h : elsB p [x] = true) (h2 : inB k (-1000000) 1000000 = true) : pwC p x k = 0 := by unfold pwC; rw [h, h2]; rfl
