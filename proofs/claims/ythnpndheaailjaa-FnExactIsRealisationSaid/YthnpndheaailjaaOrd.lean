/-
  Orders of groups and elements, elements by number: both sides.
-/
import Derived.Test.YthnpndheaailjaaNorT
import Derived.Test.YthnpndheaailjaaPwr
namespace Go.Proofs.Ythnpndheaailjaa
set_option linter.unusedVariables false
set_option linter.unusedSimpArgs false
set_option maxRecDepth 100000
open Go.RowKit

theorem ord_bd {p : Pres} (hV : ValidP p) (j : Nat) : 1 ≤ prodO (p.orders.take j) ∧ prodO (p.orders.take j) ≤ 729 := by
  have hpr := (ordB_true hV.ord).1
  have h1 := prodO_take hpr j
  have h2 := (ordB_true hV.ord).2.2.2
  have : primesB (p.orders.take j) = true := List.all_eq_true.2 fun x hx => List.all_eq_true.1 hpr x (List.mem_of_mem_take hx)
  have := (prod_both _ this).1
  omega
theorem ord_all (p : Pres) : prodO (p.orders.take p.n) = prodO p.orders := by rw [show p.orders.take p.n = p.orders from List.take_length]
theorem ordE_le {p : Pres} (hV : ValidP p) (hG : GT p 0) {x : List Int} (hx : VI p 0 x) : 1 ≤ ordE p x ∧ (ordE p x : Int) ≤ prodO p.orders := by
  obtain ⟨h1, ⟨c, hc⟩, _⟩ := ordE_spec hG hV.r4 hx
  have hb := ord_bd hV p.n
  rw [ord_all] at hb
  refine ⟨h1, ?_⟩
  have hc1 : (1 : Int) ≤ c := by
    rcases Nat.eq_zero_or_pos c with rfl | h
    · simp at hc; omega
    · omega
  have := Int.mul_le_mul_of_nonneg_left hc1 (show (0 : Int) ≤ (ordE p x : Int) by omega)
  rw [Int.mul_one] at this
  omega
--== spec.l10Order
set_option maxHeartbeats 2000000 in
theorem s_l10Order {p : Pres} (hV : ValidP p) (v1 v2 v3 : Value) (w : World) (hp : RdP w v1 v2 v3 p) :
    Calls Try.prog 96 #[.agg #[v1, v2, v3]] w (RetV w (.int .i64 (prodO p.orders))) := by
  have hn6 := hV.n6
  obtain ⟨p1, q1, rfl, _, _⟩ := hp.1.formN (n := p.n) rfl
  obtain ⟨p2, q2, rfl, _, _⟩ := hp.2.1.formN hV.pl
  obtain ⟨p3, q3, rfl, _, _⟩ := hp.2.2.formN hV.cl
  have HR := Lib.hid hp.1
  have g0 := below_alloc w (Obj.cells #[Value.slice p1 p.n q1, Value.slice p2 p.n q2, Value.slice p3 p.n q3] 32)
  have x0 := Bx.new w (Value.slice p1 p.n q1) (Value.slice p2 p.n q2) (Value.slice p3 p.n q3)
  clear hp
  go_enter Try.func96, Try.ntmps96
  go_wp2_with fail
  generalize w.alloc (Obj.cells #[Value.slice p1 p.n q1, Value.slice p2 p.n q2, Value.slice p3 p.n q3] 32) = w1 at *
  have m0 := x0.c0
  go_loop [3, 4] (fun u t => ∃ j : Nat, j ≤ p.n ∧ t = .int .i64 j ∧ u = .int .i64 (prodO (p.orders.take j))) (fun _ t => p.n - (intOf t).toNat)
  case atStart => exact ⟨0, Nat.zero_le _, rfl, rfl⟩
  case round =>
    obtain ⟨j, hj, rfl, rfl⟩ := hrel
    have hb := ord_bd hV j
    by_cases hlt : j < p.n
    · obtain ⟨b1, o1, rfl, k1⟩ := HR.out.at (j := j) hlt
      have k1' : w.cell? ⟨b1, o1 + j, none⟩ = some (.int .i64 (p.r j)) := k1
      have e1 := below_cells g0 _ _ k1'
      have hrk := hV.rk j hlt
      have hb3 := ord_bd hV (j + 1)
      have HS := Lib.hid (prodO_take_succ (p := p) hlt)
      rw [HS.out] at hb3
      clear k1 k1'
      obtain ⟨u, Hu⟩ := nam (prodO (p.orders.take j))
      obtain ⟨r, Hr⟩ := nam (p.r j)
      rw [Hu.out] at hb hb3 HS ⊢
      rw [Hr.out] at hrk hb3 HS e1
      go_wp2_with fail
      go_round
      case rel => exact ⟨j + 1, by omega, by go_num, by rw [HS.out]⟩
      case measure => simp [intOf]; omega
    · obtain rfl : j = p.n := by omega
      have HA := Lib.hid (ord_all p)
      go_wp2_with fail
      go_ret
      exact ⟨ret_int HA.out, g0⟩
