/-
  Numbers of elements, normal tails: both sides.
-/
import Derived.Test.YtflchdggonokdaaPwr
namespace Go.Proofs.Ytflchdggonokdaa
set_option linter.unusedVariables false
set_option linter.unusedSimpArgs false
set_option maxRecDepth 100000
open Go.RowKit

theorem num_mul {u r : Int} (h0 : 0 ≤ u) (h1 : u ≤ 262144) (h2 : 2 ≤ r ∧ r ≤ 7) : 0 ≤ u * r ∧ u * r ≤ 1835008 := by
  have a1 : 0 ≤ u * r := Int.mul_nonneg h0 (by omega)
  have a2 : u * r ≤ 262144 * 7 := Int.mul_le_mul h1 h2.2 (by omega) (by omega)
  omega
--== impl.numberOf
set_option maxHeartbeats 2000000 in
theorem i_numberOf {p : Pres} (hV : ValidP p) (vp vx : Value) (x : List Int) (w : World) (hp : PtrP w vp p) (hx : Rd w vx x) (kx : VI p 0 x) :
    Calls Try.prog 82 #[vp, vx] w fun e w' => e = .returned (.int .i64 (numTo p x p.n)) ∧ w = w' := by
  have hn6 := hV.n6
  obtain ⟨pb, v1, v2, v3, rfl, c1, c2, c3, R1, R2, R3⟩ := hp
  obtain ⟨a1, q1, rfl, _, _⟩ := R1.formN (n := p.n) rfl
  obtain ⟨ax, cx, rfl, _, _⟩ := hx.formN kx.len
  have HX := Lib.hid hx
  have KX := Lib.hid kx
  have HR1 := Lib.hid R1
  clear R1 R2 R3 hx kx c2 c3
  go_enter Try.func82, Try.ntmps82
  go_wp2_with fail
  go_loop [5, 10] (fun u t => ∃ j : Nat, j ≤ p.n ∧ t = .int .i64 j ∧ u = .int .i64 (numTo p x j)) (fun _ t => p.n - (intOf t).toNat)
  case atStart => exact ⟨0, Nat.zero_le _, rfl, rfl⟩
  case round =>
    obtain ⟨j, hj, rfl, rfl⟩ := hrel
    have hbd := numTo_le KX.out hV.rk hn6 j hj
    by_cases hlt : j < p.n
    · obtain ⟨b6, o6, rfl, hcell⟩ := HX.out.at (show j < x.length by rw [KX.out.len]; exact hlt)
      obtain ⟨b1, o1, rfl, k1⟩ := HR1.out.at (j := j) hlt
      have k1' : w.cell? ⟨b1, o1 + j, none⟩ = some (.int .i64 (p.r j)) := k1
      have hrk := hV.rk j hlt
      have x0 := KX.out.lo j hlt
      have x1 := KX.out.hi j hlt
      have HS : Hid (numTo p x (j + 1) = numTo p x j * p.r j + x.getD j 0) := rfl
      clear k1
      obtain ⟨u, Hu⟩ := nam (numTo p x j)
      obtain ⟨r, Hr⟩ := nam (p.r j)
      obtain ⟨c, Hc⟩ := nam (x.getD j 0)
      rw [Hu.out] at hbd HS ⊢
      rw [Hr.out] at hrk x1 HS k1'
      rw [Hc.out] at x0 x1 HS hcell
      have hm := num_mul hbd.1 hbd.2 hrk
      have hm1 : (-9223372036854775808 : Int) ≤ u * r ∧ u * r ≤ 9223372036854775807 := by omega
      go_wp2_with fail
      go_round
      case rel => exact ⟨j + 1, by omega, by go_num, by rw [HS.out]⟩
      case measure => simp [intOf]; omega
    · obtain rfl : j = p.n := by omega
      go_wp2_with fail
      go_ret
      exact ⟨rfl, rfl⟩
--== spec.l10Number
set_option maxHeartbeats 2000000 in
theorem s_l10Number {p : Pres} (hV : ValidP p) (v1 v2 v3 vx : Value) (x : List Int) (w : World) (hp : RdP w v1 v2 v3 p) (hx : Rd w vx x) (kx : VI p 0 x) :
    Calls Try.prog 80 #[.agg #[v1, v2, v3], vx] w (RetV w (.int .i64 (numTo p x p.n))) := by
  have hn6 := hV.n6
  have HP := Lib.hid hp
  obtain ⟨p1, q1, rfl, _, _⟩ := hp.1.formN (n := p.n) rfl
  obtain ⟨p2, q2, rfl, _, _⟩ := hp.2.1.formN hV.pl
  obtain ⟨p3, q3, rfl, _, _⟩ := hp.2.2.formN hV.cl
  have g0 := below_alloc w (Obj.cells #[Value.slice p1 p.n q1, Value.slice p2 p.n q2, Value.slice p3 p.n q3] 30)
  have x0 := Bx.new w (Value.slice p1 p.n q1) (Value.slice p2 p.n q2) (Value.slice p3 p.n q3)
  obtain ⟨ax, cx, rfl, _, _⟩ := hx.formN kx.len
  have HX := Lib.hid hx
  have KX := Lib.hid kx
  clear hp hx kx
  go_enter Try.func80, Try.ntmps80
  go_wp2_with fail
  go_loopw [5, 6] (fun u t wr => ∃ j : Nat, j ≤ p.n ∧ t = .int .i64 j ∧ u = .int .i64 (numTo p x j) ∧ Bx wr w.heap.size (Value.slice p1 p.n q1) (Value.slice p2 p.n q2) (Value.slice p3 p.n q3) ∧ Below w.heap.size w wr) (fun _ t _ => p.n - (intOf t).toNat)
  case atStart => exact ⟨0, Nat.zero_le _, rfl, rfl, x0, g0⟩
  case round =>
    clear x0 g0
    obtain ⟨j, hj, rfl, rfl, hX, hB⟩ := hrel
    have hbd := numTo_le KX.out hV.rk hn6 j hj
    by_cases hlt : j < p.n
    · obtain ⟨b6, o6, rfl, hcell0⟩ := HX.out.at (show j < x.length by rw [KX.out.len]; exact hlt)
      obtain ⟨b1, o1, rfl, k1⟩ := HP.out.1.at (j := j) hlt
      have k1' : w.cell? ⟨b1, o1 + j, none⟩ = some (.int .i64 (p.r j)) := k1
      have hrk := hV.rk j hlt
      have x0 := KX.out.lo j hlt
      have x1 := KX.out.hi j hlt
      have HS : Hid (numTo p x (j + 1) = numTo p x j * p.r j + x.getD j 0) := rfl
      clear k1
      obtain ⟨u, Hu⟩ := nam (numTo p x j)
      obtain ⟨r, Hr⟩ := nam (p.r j)
      obtain ⟨c, Hc⟩ := nam (x.getD j 0)
      rw [Hu.out] at hbd HS ⊢
      rw [Hr.out] at hrk x1 HS k1'
      rw [Hc.out] at x0 x1 HS hcell0
      have hm := num_mul hbd.1 hbd.2 hrk
      have e1 := below_cells hB _ _ hcell0
      have e2 := below_cells hB _ _ k1'
      have m0 := hX.c0
      have hjn : (j : Int) < (p.n : Int) := by omega
      have W1 : IntKind.i64.wrap (u * r) = u * r := IntWalk.i64_in _ (by omega)
      have W2 : IntKind.i64.wrap (u * r + c) = u * r + c := IntWalk.i64_in _ (by omega)
      have HX' := Lib.hid hX
      have HB' := Lib.hid hB
      clear hcell0 k1' hX hB
      go_wp2_with fail
      go_quiet (fail)
      rename_i nq
      have hX2 : Bx (wr.drewN nq) w.heap.size _ _ _ := HX'.out
      have hB2 := below_drewN HB'.out nq
      clear W1 W2 e1 e2 m0
      go_wp2_with fail
      go_roundw
      case rel => exact ⟨j + 1, by omega, by go_num, by rw [HS.out], hX2, hB2⟩
      case measure => simp [intOf]; omega
    · obtain rfl : j = p.n := by omega
      go_wp2_with fail
      go_ret
      exact ⟨rfl, hB⟩
--== impl.ElementNumber
set_option maxHeartbeats 2000000 in
theorem i_ElementNumber (v1 v2 v3 : Value) (p : Pres) (vx : Value) (x : List Int) (w : World) (hp : RdP w v1 v2 v3 p) (hx : Rd w vx x) :
    Calls Try.prog 39 #[.agg #[v1, v2, v3], vx] w (RetV w (.tuple #[.int .i64 (okI (elsB p [x]) (numTo p x p.n)), .int .i64 (cod1 (elsB p [x]))])) := by
  have HP := Lib.hid hp
  obtain ⟨ao1, cap1, rfl, _, _⟩ := hp.1.form
  obtain ⟨ao2, cap2, rfl, _, _⟩ := hp.2.1.form
  obtain ⟨ao3, cap3, rfl, _, _⟩ := hp.2.2.form
  have g0 := below_alloc w (Obj.cells #[Value.slice ao1 p.orders.length cap1, Value.slice ao2 p.powers.length cap2, Value.slice ao3 p.conj.length cap3] 30)
  obtain ⟨ax, cx, rfl, _, _⟩ := hx.form
  have PT := Lib.hid (PtrP.boxed hp)
  have hl := Rd2.lit1 22 _ x (hx.below g0)
  have hsz : (w.alloc (Obj.cells #[Value.slice ao1 p.orders.length cap1, Value.slice ao2 p.powers.length cap2, Value.slice ao3 p.conj.length cap3] 30)).heap.size = w.heap.size + 1 := by simp
  rw [hsz] at hl
  have HL := Lib.hid hl
  have g1 := ball g0 (Obj.cells #[.slice ax x.length cx] 22)
  have PT1 := Lib.hid (PT.out.below (below_alloc _ (Obj.cells #[.slice ax x.length cx] 22)))
  have Hx := Lib.hid hx
  clear hp hl hsz hx
  by_cases hE : elsB p [x] = true
  case neg =>
    have hE' : elsB p [x] = false := by simpa using hE
    rw [hE']
    clear hE
    go_enter Try.func39, Try.ntmps39
    go_wp2_with fail
    refine (i_areElements _ _ p [x] _ PT1.out HL.out (by simp)).mono ?_
    rintro e w2 ⟨rfl, hb⟩
    have g2 := below_size g1 hb
    have PT2 := PT1.out.below hb
    rw [hE']
    clear hb hE'
    go_wp2_with fail
    go_ret2
    exact ⟨rfl, g2⟩
  obtain ⟨hc, hall⟩ := elsB_true hE
  obtain ⟨hV, hG⟩ := conB_true hc
  have kx := tail_VI (hall x (by simp))
  have HV := Lib.hid hV
  have Kx := Lib.hid kx
  clear hc hall hV hG kx
  rw [hE]
  go_enter Try.func39, Try.ntmps39
  go_wp2_with fail
  refine (i_areElements _ _ p [x] _ PT1.out HL.out (by simp)).mono ?_
  rintro e w2 ⟨rfl, hb⟩
  have g2 := below_size g1 hb
  have PT2 := PT1.out.below hb
  rw [hE]
  clear hb hE
  go_wp2_with fail
  refine (i_numberOf HV.out _ _ x _ PT2 (Hx.out.below g2) Kx.out).mono ?_
  rintro e w' ⟨rfl, rfl⟩
  clear PT2
  go_wp2_with fail
  go_ret2
  exact ⟨rfl, g2⟩
--== spec.ElementNumber
set_option maxHeartbeats 2000000 in
theorem s_ElementNumber (v1 v2 v3 : Value) (p : Pres) (vx : Value) (x : List Int) (w : World) (hp : RdP w v1 v2 v3 p) (hx : Rd w vx x) :
    Calls Try.prog 38 #[.agg #[v1, v2, v3], vx] w (RetV w (.tuple #[.int .i64 (okI (elsB p [x]) (numTo p x p.n)), .int .i64 (cod1 (elsB p [x]))])) := by
  have HP := Lib.hid hp
  obtain ⟨ao1, cap1, rfl, _, _⟩ := hp.1.form
  obtain ⟨ao2, cap2, rfl, _, _⟩ := hp.2.1.form
  obtain ⟨ao3, cap3, rfl, _, _⟩ := hp.2.2.form
  have g0 := below_alloc w (Obj.cells #[Value.slice ao1 p.orders.length cap1, Value.slice ao2 p.powers.length cap2, Value.slice ao3 p.conj.length cap3] 30)
  have Hx := Lib.hid hx
  clear hp hx
  by_cases hE : elsB p [x] = true
  case neg =>
    have hE' : elsB p [x] = false := by simpa using hE
    rw [hE']
    clear hE
    go_enter Try.func38, Try.ntmps38
    go_wp2_with fail
    refine (s_IsElement _ _ _ p _ x _ (HP.out.below g0) (Hx.out.below g0)).mono ?_
    rintro e w2 ⟨rfl, hb⟩
    have g2 := below_size g0 hb
    obtain ⟨c1, f1⟩ := bcell hb
    have z1 : w.heap.size < w2.heap.size := by have := hb.size; simp at this; omega
    rw [hE']
    clear hb hE'
    go_wp2_with fail
    go_ret2
    exact ⟨rfl, g2⟩
  obtain ⟨hc, hall⟩ := elsB_true hE
  obtain ⟨hV, hG⟩ := conB_true hc
  have kx := tail_VI (hall x (by simp))
  have HV := Lib.hid hV
  have Kx := Lib.hid kx
  clear hc hall hV hG kx
  rw [hE]
  go_enter Try.func38, Try.ntmps38
  go_wp2_with fail
  refine (s_IsElement _ _ _ p _ x _ (HP.out.below g0) (Hx.out.below g0)).mono ?_
  rintro e w2 ⟨rfl, hb⟩
  have g2 := below_size g0 hb
  obtain ⟨c1, f1⟩ := bcell hb
  have z1 : w.heap.size < w2.heap.size := by have := hb.size; simp at this; omega
  rw [hE]
  clear hb hE
  go_wp2_with fail
  refine (s_l10Number HV.out _ _ _ _ x _ (HP.out.below g2) (Hx.out.below g2) Kx.out).mono ?_
  rintro e w3 ⟨rfl, hb⟩
  have g3 := below_size g2 hb
  clear hb
  go_wp2_with fail
  go_ret2
  exact ⟨rfl, g3⟩
end Go.Proofs.Ytflchdggonokdaa
