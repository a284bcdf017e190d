/-
  Orders of elements, powers, numbers: both sides.
-/
import Derived.Test.YtjefjhbnkcokhaaMul
import Derived.Test.YtjefjhbnkcokhaaPer
namespace Go.Proofs.Ytjefjhbnkcokhaa
set_option linter.unusedVariables false
set_option linter.unusedSimpArgs false
set_option maxRecDepth 100000
open Go.RowKit

theorem ValidP.r4 {p : Pres} (h : ValidP p) (k : Nat) (hk : k < p.n) : p.r k = 2 ∨ p.r k = 3 ∨ p.r k = 5 ∨ p.r k = 7 :=
  primeB_true.1 (List.all_eq_true.1 (ordB_true h.ord).1 _ (getD_mem (xs := p.orders) (k := k) hk))
theorem zeroB_zv {p : Pres} {x : List Int} (hx : x.length = p.n) : zeroB x = true ↔ x = p.zv := by
  rw [zeroB_true]
  constructor
  · intro h; exact vext (by rw [hx, p.zv_len]) fun j hj => by rw [h j hj, zv_get]
  · rintro rfl j _; exact zv_get p j
--== powers
def pwC (p : Pres) (x : List Int) (k : Int) : Int := if elsB p [x] = true then (if inB k (-1000000) 1000000 = true then 0 else 2) else 1
theorem pwC_1 {p : Pres} {x : List Int} {k : Int} (h : elsB p [x] = false) : pwC p x k = 1 := by unfold pwC; rw [h]; rfl
theorem pwC_2 {p : Pres} {x : List Int} {k : Int} (h : elsB p [x] = true) (h2 : inB k (-1000000) 1000000 = false) : pwC p x k = 2 := by unfold pwC; rw [h, h2]; rfl
theorem pwC_0 {p : Pres} {x : List Int} {k : Int} (h : elsB p [x] = true) (h2 : inB k (-1000000) 1000000 = true) : pwC p x k = 0 := by unfold pwC; rw [h, h2]; rfl
--== spec.l10Pow
set_option maxHeartbeats 4000000 in
theorem s_l10Pow {p : Pres} (hV : ValidP p) (hG : GT p 0) (x : List Int) (k : Int) (v1 v2 v3 vx : Value) (w : World) (hp : RdP w v1 v2 v3 p) (hx : Rd w vx x) (kx : VI p 0 x) (hk : -1000000 ≤ k ∧ k ≤ 1000000) :
    Calls Try.prog 126 #[.agg #[v1, v2, v3], vx, .int .i64 k] w (RetInts w (zpw p x k)) := by
  have HP := Lib.hid hp
  obtain ⟨p1, q1, rfl, _, _⟩ := hp.1.formN (n := p.n) rfl
  obtain ⟨p2, q2, rfl, _, _⟩ := hp.2.1.formN hV.pl
  obtain ⟨p3, q3, rfl, _, _⟩ := hp.2.2.formN hV.cl
  have g0 := below_alloc w (Obj.cells #[Value.slice p1 p.n q1, Value.slice p2 p.n q2, Value.slice p3 p.n q3] 28)
  have x0 := Bx.new w (Value.slice p1 p.n q1) (Value.slice p2 p.n q2) (Value.slice p3 p.n q3)
  obtain ⟨ax, cx, rfl, _, _⟩ := hx.formN kx.len
  have HX := Lib.hid hx
  have KX := Lib.hid kx
  have HG := Lib.hid hG
  have hs0 : w.heap.size < (w.alloc (Obj.cells #[Value.slice p1 p.n q1, Value.slice p2 p.n q2, Value.slice p3 p.n q3] 28)).heap.size := by simp
  clear hp hx kx hG
  by_cases hk0 : k < 0
  · obtain ⟨m, hm⟩ : ∃ m : Nat, -k = (m : Int) := ⟨(-k).toNat, by omega⟩
    have hm2 : m ≤ 1000000 := by omega
    have HZ : Hid (zpw p x k = pw (p.at 0) p.zv (p.inv 0 x) m) := by show _ = _; unfold zpw; rw [if_pos hk0, hm, Int.toNat_natCast]
    have HM := Lib.hid hm
    have WN : IntKind.i64.wrap (-k) = (m : Int) := by rw [IntWalk.i64_in _ (by omega)]; exact hm
    have m0 := x0.c0
    have m1 := x0.c1
    have m2 := x0.c2
    clear hm
    go_enter Try.func126, Try.ntmps126
    go_wp2_with fail
    generalize w.alloc (Obj.cells #[Value.slice p1 p.n q1, Value.slice p2 p.n q2, Value.slice p3 p.n q3] 28) = w1 at *
    have KEEP : Hid (∀ wx, Below w1.heap.size w1 wx → Below w1.heap.size w1 wx ∧ wx.cell? ⟨w.heap.size, 0, none⟩ = some (Value.slice p1 p.n q1) ∧ wx.cell? ⟨w.heap.size, 1, none⟩ = some (Value.slice p2 p.n q2) ∧ wx.cell? ⟨w.heap.size, 2, none⟩ = some (Value.slice p3 p.n q3)) := fun wx hb =>
      ⟨hb, below_cells hb _ _ m0, below_cells hb _ _ m1, below_cells hb _ _ m2⟩
    have HINV : Hid (∀ wx, Below w1.heap.size w1 wx → Calls Try.prog 123 #[.agg #[Value.slice p1 p.n q1, Value.slice p2 p.n q2, Value.slice p3 p.n q3], .slice ax p.n cx] wx (RetInts wx (p.inv 0 x))) := fun wx hb =>
      s_l10Inv hV HG.out x _ _ _ _ wx (HP.out.below (below_size g0 hb)) (HX.out.below (below_size g0 hb)) KX.out
    have HREP : Hid (∀ wx u, Below w1.heap.size w1 wx → Rd wx u (p.inv 0 x) → Calls Try.prog 142 #[.agg #[Value.slice p1 p.n q1, Value.slice p2 p.n q2, Value.slice p3 p.n q3], .int .i64 0, u, .int .i64 m] wx (RetInts wx (pw (p.at 0) p.zv (p.inv 0 x) m))) := fun wx u hb hu =>
      s_l08Repeat hV 0 HG.out (p.inv 0 x) m _ _ _ _ wx (by omega) (HP.out.below (below_size g0 hb)) hu (HG.out.inv KX.out)
    have G0 := Lib.hid g0
    clear m0 m1 m2
    go_region_held3 (fun wx => Below w1.heap.size w1 wx ∧ wx.cell? ⟨w.heap.size, 0, none⟩ = some (Value.slice p1 p.n q1) ∧ wx.cell? ⟨w.heap.size, 1, none⟩ = some (Value.slice p2 p.n q2) ∧ wx.cell? ⟨w.heap.size, 2, none⟩ = some (Value.slice p3 p.n q3))
      (first | exact KEEP.out _ (Below.refl _ _).drew | exact KEEP.out _ (below_size (And.left (by assumption)) (by assumption)))
      (first
        | ((go_at_call 123); (with_reducible refine (HINV.out _ (And.left (by assumption))).mono ?_); (rintro e w2 ⟨u2, rfl, hI2, hB2⟩))
        | ((go_at_call 142); (with_reducible refine (HREP.out _ _ (And.left (by assumption)) hI2.rd).mono ?_); (rintro e w3 ⟨u3, rfl, hI3, hB3⟩)))
    have hB4 : Below w1.heap.size w1 w3 := And.left (by assumption)
    have hB5 := below_size G0.out hB4
    have hI5 : Ints w3 w.heap.size u3 _ := hI3.mono (by have h1 := G0.out.size; have h2 := hB2.size; simp at h2; omega)
    rw [← HZ.out] at hI5
    clear hI2 hB2 hI3 hB3 hB4 KEEP HINV HREP WN g0
    go_wp2_with fail
    go_ret
    exact ⟨_, rfl, hI5, hB5⟩
  · obtain ⟨m, hm⟩ : ∃ m : Nat, k = (m : Int) := ⟨k.toNat, by omega⟩
    have hm2 : m ≤ 1000000 := by omega
    have HZ : Hid (zpw p x k = pw (p.at 0) p.zv x m) := by show _ = _; unfold zpw; rw [if_neg hk0, hm, Int.toNat_natCast]
    have HRP := s_l08Repeat hV 0 HG.out x m _ _ _ _ _ (by omega) (HP.out.below g0) (HX.out.below g0) KX.out
    rw [← hm] at HRP
    have HR := Lib.hid HRP
    clear hm HRP
    go_enter Try.func126, Try.ntmps126
    go_wp2_with fail
    refine HR.out.mono ?_
    rintro e w2 ⟨u2, rfl, hI2, hB2⟩
    rw [← HZ.out] at hI2
    have g2 := below_size g0 hB2
    have hI3 : Ints w2 w.heap.size _ _ := hI2.mono (by simp)
    clear hI2 hB2 HR
    go_wp2_with fail
    go_ret
    exact ⟨_, rfl, hI3, g2⟩
