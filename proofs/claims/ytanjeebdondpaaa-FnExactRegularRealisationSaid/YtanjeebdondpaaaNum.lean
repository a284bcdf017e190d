/-
  Numbers of elements, normal tails: both sides.
-/
import Derived.Test.YtanjeebdondpaaaPwr
namespace Go.Proofs.Ytanjeebdondpaaa
set_option linter.unusedVariables false
set_option linter.unusedSimpArgs false
set_option maxRecDepth 100000
open Go.RowKit

theorem num_mul {u r : Int} (h0 : 0 ≤ u) (h1 : u ≤ 262144) (h2 : 2 ≤ r ∧ r ≤ 7) : 0 ≤ u * r ∧ u * r ≤ 1835008 := by
  have a1 : 0 ≤ u * r := Int.mul_nonneg h0 (by omega)
  have a2 : u * r ≤ 262144 * 7 := Int.mul_le_mul h1 h2.2 (by omega) (by omega)
  omega
--== impl.numberOf
set_option maxHeartbeats 2000000 in
theorem i_numberOf {p : Pres} (hV : ValidP p) (vp vx : Value) (x : List Int) (w : World) (hp : PtrP w vp p) (hx : Rd w vx x) (kx : VI p 0 x) :
    Calls Try.prog 96 #[vp, vx] w fun e w' => e = .returned (.int .i64 (numTo p x p.n)) ∧ w = w' := by
  have hn6 := hV.n6
  obtain ⟨pb, v1, v2, v3, rfl, c1, c2, c3, R1, R2, R3⟩ := hp
  obtain ⟨a1, q1, rfl, _, _⟩ := R1.formN (n := p.n) rfl
  obtain ⟨ax, cx, rfl, _, _⟩ := hx.formN kx.len
  have HX := Lib.hid hx
  have KX := Lib.hid kx
  have HR1 := Lib.hid R1
  clear R1 R2 R3 hx kx c2 c3
  go_enter Try.func96, Try.ntmps96
  go_wp2_with fail
  go_loop [5, 10] (fun u t => ∃ j : Nat, j ≤ p.n ∧ t = .int .i64 j ∧ u = .int .i64 (numTo p x j)) (fun _ t => p.n - (intOf t).toNat)
  case atStart => exact ⟨0, Nat.zero_le _, rfl, rfl⟩
  case round =>
    obtain ⟨j, hj, rfl, rfl⟩ := hrel
    have hbd := numTo_le KX.out hV.rk hn6 j hj
    by_cases hlt : j < p.n
    · obtain ⟨b6, o6, rfl, hcell⟩ := HX.out.at (show j < x.length by rw [KX.out.len]; exact hlt)
      obtain ⟨b1, o1, rfl, k1⟩ := HR1.out.at (j := j) hlt
      have k1' : w.cell? ⟨b1, o1 + j, none⟩ = some (.int .i64 (p.r j)) := k1
      have hrk := hV.rk j hlt
      have x0 := KX.out.lo j hlt
      have x1 := KX.out.hi j hlt
      have HS : Hid (numTo p x (j + 1) = numTo p x j * p.r j + x.getD j 0) := rfl
      clear k1
      obtain ⟨u, Hu⟩ := nam (numTo p x j)
      obtain ⟨r, Hr⟩ := nam (p.r j)
      obtain ⟨c, Hc⟩ := nam (x.getD j 0)
      rw [Hu.out] at hbd HS ⊢
      rw [Hr.out] at hrk x1 HS k1'
      rw [Hc.out] at x0 x1 HS hcell
      have hm := num_mul hbd.1 hbd.2 hrk
      have hm1 : (-9223372036854775808 : Int) ≤ u * r ∧ u * r ≤ 9223372036854775807 := by omega
      go_wp2_with fail
      go_round
      case rel => exact ⟨j + 1, by omega, by go_num, by rw [HS.out]⟩
      case measure => simp [intOf]; omega
    · obtain rfl : j = p.n := by omega
      go_wp2_with fail
      go_ret
      exact ⟨rfl, rfl⟩
--== spec.l10Number
set_option maxHeartbeats 2000000 in
theorem s_l10Number {p : Pres} (hV : ValidP p) (v1 v2 v3 vx : Value) (x : List Int) (w : World) (hp : RdP w v1 v2 v3 p) (hx : Rd w vx x) (kx : VI p 0 x) :
    Calls Try.prog 123 #[.agg #[v1, v2, v3], vx] w (RetV w (.int .i64 (numTo p x p.n))) := by
  have hn6 := hV.n6
  have HP := Lib.hid hp
  obtain ⟨p1, q1, rfl, _, _⟩ := hp.1.formN (n := p.n) rfl
  obtain ⟨p2, q2, rfl, _, _⟩ := hp.2.1.formN hV.pl
  obtain ⟨p3, q3, rfl, _, _⟩ := hp.2.2.formN hV.cl
  have g0 := below_alloc w (Obj.cells #[Value.slice p1 p.n q1, Value.slice p2 p.n q2, Value.slice p3 p.n q3] 28)
  have x0 := Bx.new w (Value.slice p1 p.n q1) (Value.slice p2 p.n q2) (Value.slice p3 p.n q3)
  obtain ⟨ax, cx, rfl, _, _⟩ := hx.formN kx.len
  have HX := Lib.hid hx
  have KX := Lib.hid kx
  clear hp hx kx
  go_enter Try.func123, Try.ntmps123
  go_wp2_with fail
  go_loopw [5, 6] (fun u t wr => ∃ j : Nat, j ≤ p.n ∧ t = .int .i64 j ∧ u = .int .i64 (numTo p x j) ∧ Bx wr w.heap.size (Value.slice p1 p.n q1) (Value.slice p2 p.n q2) (Value.slice p3 p.n q3) ∧ Below w.heap.size w wr) (fun _ t _ => p.n - (intOf t).toNat)
  case atStart => exact ⟨0, Nat.zero_le _, rfl, rfl, x0, g0⟩
  case round =>
    clear x0 g0
    obtain ⟨j, hj, rfl, rfl, hX, hB⟩ := hrel
    have hbd := numTo_le KX.out hV.rk hn6 j hj
    by_cases hlt : j < p.n
    · obtain ⟨b6, o6, rfl, hcell0⟩ := HX.out.at (show j < x.length by rw [KX.out.len]; exact hlt)
      obtain ⟨b1, o1, rfl, k1⟩ := HP.out.1.at (j := j) hlt
      have k1' : w.cell? ⟨b1, o1 + j, none⟩ = some (.int .i64 (p.r j)) := k1
      have hrk := hV.rk j hlt
      have x0 := KX.out.lo j hlt
      have x1 := KX.out.hi j hlt
      have HS : Hid (numTo p x (j + 1) = numTo p x j * p.r j + x.getD j 0) := rfl
      clear k1
      obtain ⟨u, Hu⟩ := nam (numTo p x j)
      obtain ⟨r, Hr⟩ := nam (p.r j)
      obtain ⟨c, Hc⟩ := nam (x.getD j 0)
      rw [Hu.out] at hbd HS ⊢
      rw [Hr.out] at hrk x1 HS k1'
      rw [Hc.out] at x0 x1 HS hcell0
      have hm := num_mul hbd.1 hbd.2 hrk
      have e1 := below_cells hB _ _ hcell0
      have e2 := below_cells hB _ _ k1'
      have m0 := hX.c0
      have hjn : (j : Int) < (p.n : Int) := by omega
      have W1 : IntKind.i64.wrap (u * r) = u * r := IntWalk.i64_in _ (by omega)
      have W2 : IntKind.i64.wrap (u * r + c) = u * r + c := IntWalk.i64_in _ (by omega)
      have HX' := Lib.hid hX
      have HB' := Lib.hid hB
      clear hcell0 k1' hX hB
      go_wp2_with fail
      go_quiet (fail)
      rename_i nq
      have hX2 : Bx (wr.drewN nq) w.heap.size _ _ _ := HX'.out
      have hB2 := below_drewN HB'.out nq
      clear W1 W2 e1 e2 m0
      go_wp2_with fail
      go_roundw
      case rel => exact ⟨j + 1, by omega, by go_num, by rw [HS.out], hX2, hB2⟩
      case measure => simp [intOf]; omega
    · obtain rfl : j = p.n := by omega
      go_wp2_with fail
      go_ret
      exact ⟨rfl, hB⟩
