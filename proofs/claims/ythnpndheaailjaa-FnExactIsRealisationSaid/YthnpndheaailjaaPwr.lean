/-
  Orders of elements, powers, numbers: both sides.
-/
import Derived.Test.YthnpndheaailjaaMul
import Derived.Test.YthnpndheaailjaaPer
namespace Go.Proofs.Ythnpndheaailjaa
set_option linter.unusedVariables false
set_option linter.unusedSimpArgs false
set_option maxRecDepth 100000
open Go.RowKit

theorem ValidP.r4 {p : Pres} (h : ValidP p) (k : Nat) (hk : k < p.n) : p.r k = 2 ∨ p.r k = 3 ∨ p.r k = 5 ∨ p.r k = 7 :=
  primeB_true.1 (List.all_eq_true.1 (ordB_true h.ord).1 _ (getD_mem (xs := p.orders) (k := k) hk))
theorem zeroB_zv {p : Pres} {x : List Int} (hx : x.length = p.n) : zeroB x = true ↔ x = p.zv := by
  rw [zeroB_true]
  constructor
  · intro h; exact vext (by rw [hx, p.zv_len]) fun j hj => by rw [h j hj, zv_get]
  · rintro rfl j _; exact zv_get p j
--== powers
def pwC (p : Pres) (x : List Int) (k : Int) : Int := if elsB p [x] = true then (if inB k (-1000000) 1000000 = true then 0 else 2) else 1
theorem pwC_1 {p : Pres} {x : List Int} {k : Int} (h : elsB p [x] = false) : pwC p x k = 1 := by unfold pwC; rw [h]; rfl
theorem pwC_2 {p : Pres} {x : List Int} {k : Int} (h : elsB p [x] = true) (h2 : inB k (-1000000) 1000000 = false) : pwC p x k = 2 := by unfold pwC; rw [h, h2]; rfl
theorem pwC_0 {p : Pres} {x : List Int} {k : Int} (h : elsB p [x] = true) (h2 : inB k (-1000000) 1000000 = true) : pwC p x k = 0 := by unfold pwC; rw [h, h2]; rfl
