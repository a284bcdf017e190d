/-
  Orders of groups and elements, elements by number: both sides.
-/
import Derived.Test.YtanjeebdondpaaaNorT
namespace Go.Proofs.Ytanjeebdondpaaa
set_option linter.unusedVariables false
set_option linter.unusedSimpArgs false
set_option maxRecDepth 100000
open Go.RowKit

theorem ord_bd {p : Pres} (hV : ValidP p) (j : Nat) : 1 ≤ prodO (p.orders.take j) ∧ prodO (p.orders.take j) ≤ 729 := by
  have hpr := (ordB_true hV.ord).1
  have h1 := prodO_take hpr j
  have h2 := (ordB_true hV.ord).2.2.2
  have : primesB (p.orders.take j) = true := List.all_eq_true.2 fun x hx => List.all_eq_true.1 hpr x (List.mem_of_mem_take hx)
  have := (prod_both _ this).1
  omega
theorem ord_all (p : Pres) : prodO (p.orders.take p.n) = prodO p.orders := by rw [show p.orders.take p.n = p.orders from List.take_length]
theorem ordE_le {p : Pres} (hV : ValidP p) (hG : GT p 0) {x : List Int} (hx : VI p 0 x) : 1 ≤ ordE p x ∧ (ordE p x : Int) ≤ prodO p.orders := by
  obtain ⟨h1, ⟨c, hc⟩, _⟩ := ordE_spec hG hV.r4 hx
  have hb := ord_bd hV p.n
  rw [ord_all] at hb
  refine ⟨h1, ?_⟩
  have hc1 : (1 : Int) ≤ c := by
    rcases Nat.eq_zero_or_pos c with rfl | h
    · simp at hc; omega
    · omega
  have := Int.mul_le_mul_of_nonneg_left hc1 (show (0 : Int) ≤ (ordE p x : Int) by omega)
  rw [Int.mul_one] at this
  omega
--== spec.l10Order
set_option maxHeartbeats 2000000 in
theorem s_l10Order {p : Pres} (hV : ValidP p) (v1 v2 v3 : Value) (w : World) (hp : RdP w v1 v2 v3 p) :
    Calls Try.prog 75 #[.agg #[v1, v2, v3]] w (RetV w (.int .i64 (prodO p.orders))) := by
  have hn6 := hV.n6
  obtain ⟨p1, q1, rfl, _, _⟩ := hp.1.formN (n := p.n) rfl
  obtain ⟨p2, q2, rfl, _, _⟩ := hp.2.1.formN hV.pl
  obtain ⟨p3, q3, rfl, _, _⟩ := hp.2.2.formN hV.cl
  have HR := Lib.hid hp.1
  have g0 := below_alloc w (Obj.cells #[Value.slice p1 p.n q1, Value.slice p2 p.n q2, Value.slice p3 p.n q3] 28)
  have x0 := Bx.new w (Value.slice p1 p.n q1) (Value.slice p2 p.n q2) (Value.slice p3 p.n q3)
  clear hp
  go_enter Try.func75, Try.ntmps75
  go_wp2_with fail
  generalize w.alloc (Obj.cells #[Value.slice p1 p.n q1, Value.slice p2 p.n q2, Value.slice p3 p.n q3] 28) = w1 at *
  have m0 := x0.c0
  go_loop [3, 4] (fun u t => ∃ j : Nat, j ≤ p.n ∧ t = .int .i64 j ∧ u = .int .i64 (prodO (p.orders.take j))) (fun _ t => p.n - (intOf t).toNat)
  case atStart => exact ⟨0, Nat.zero_le _, rfl, rfl⟩
  case round =>
    obtain ⟨j, hj, rfl, rfl⟩ := hrel
    have hb := ord_bd hV j
    by_cases hlt : j < p.n
    · obtain ⟨b1, o1, rfl, k1⟩ := HR.out.at (j := j) hlt
      have k1' : w.cell? ⟨b1, o1 + j, none⟩ = some (.int .i64 (p.r j)) := k1
      have e1 := below_cells g0 _ _ k1'
      have hrk := hV.rk j hlt
      have hb3 := ord_bd hV (j + 1)
      have HS := Lib.hid (prodO_take_succ (p := p) hlt)
      rw [HS.out] at hb3
      clear k1 k1'
      obtain ⟨u, Hu⟩ := nam (prodO (p.orders.take j))
      obtain ⟨r, Hr⟩ := nam (p.r j)
      rw [Hu.out] at hb hb3 HS ⊢
      rw [Hr.out] at hrk hb3 HS e1
      go_wp2_with fail
      go_round
      case rel => exact ⟨j + 1, by omega, by go_num, by rw [HS.out]⟩
      case measure => simp [intOf]; omega
    · obtain rfl : j = p.n := by omega
      have HA := Lib.hid (ord_all p)
      go_wp2_with fail
      go_ret
      exact ⟨ret_int HA.out, g0⟩
--== spec.l10Period
set_option maxHeartbeats 4000000 in
theorem s_l10Period {p : Pres} (hV : ValidP p) (hG : GT p 0) (v1 v2 v3 vx : Value) (x : List Int) (w : World) (hp : RdP w v1 v2 v3 p) (hx : Rd w vx x) (kx : VI p 0 x) :
    Calls Try.prog 66 #[.agg #[v1, v2, v3], vx] w (RetV w (.int .i64 (ordE p x))) := by
  have hn6 := hV.n6
  have HP := Lib.hid hp
  obtain ⟨p1, q1, rfl, _, _⟩ := hp.1.formN (n := p.n) rfl
  obtain ⟨p2, q2, rfl, _, _⟩ := hp.2.1.formN hV.pl
  obtain ⟨p3, q3, rfl, _, _⟩ := hp.2.2.formN hV.cl
  have g0 := below_alloc w (Obj.cells #[Value.slice p1 p.n q1, Value.slice p2 p.n q2, Value.slice p3 p.n q3] 28)
  have x0 := Bx.new w (Value.slice p1 p.n q1) (Value.slice p2 p.n q2) (Value.slice p3 p.n q3)
  obtain ⟨ax, cx, rfl, _, _⟩ := hx.formN kx.len
  have HX := Lib.hid hx
  have KX := Lib.hid kx
  have HG := Lib.hid hG
  obtain ⟨K1, _, K3, K4⟩ := ordE_spec hG hV.r4 kx
  have hle := (ordE_le hV hG kx).2
  have hb := ord_bd hV p.n
  rw [ord_all] at hb
  obtain ⟨K, HK⟩ : ∃ K, Hid (ordE p x = K) := ⟨_, rfl⟩
  rw [HK.out] at K1 K3 K4 hle
  have HK3 := Lib.hid K3
  have HK4 := Lib.hid K4
  have HR0 : Hid (Rd w (.slice ax p.n cx) (pw (p.at 0) p.zv x 1)) := by show Rd _ _ _; rw [pw_one HG.out.G KX.out]; exact HX.out
  clear hp hx kx hG K3 K4
  go_enter Try.func66, Try.ntmps66
  go_wp2_with fail
  have hR0 := HR0.out.below g0
  go_loopw [5, 6] (fun kv yv wr => ∃ k : Nat, kv = .int .i64 k ∧ 1 ≤ k ∧ k ≤ K ∧ Rd wr yv (pw (p.at 0) p.zv x k) ∧ Bx wr w.heap.size (Value.slice p1 p.n q1) (Value.slice p2 p.n q2) (Value.slice p3 p.n q3) ∧ Below w.heap.size w wr) (fun kv _ _ => K - (intOf kv).toNat)
  case atStart => exact ⟨1, rfl, Nat.le_refl _, K1, hR0, x0, g0⟩
  case round =>
    clear hR0 x0 g0
    obtain ⟨k, rfl, hk1, hkK, hR, hX, hB⟩ := hrel
    have VY := HG.out.pw KX.out k
    obtain ⟨ay, cy, rfl, _, _⟩ := hR.formN VY.len
    by_cases hz : pw (p.at 0) p.zv x k = p.zv
    · have hkk : k = K := by have := HK4.out k hk1 hz; omega
      have HKK := Lib.hid hkk
      have hzb := (zeroB_zv VY.len).2 hz
      clear hz hkk
      go_wp2_with fail
      refine (s_l01Zero _ _ _ hR).mono ?_
      rintro e w' ⟨rfl, rfl⟩
      rw [hzb]
      clear hzb
      go_wp2_with fail
      go_ret
      exact ⟨ret_int (by rw [HK.out, HKK.out]), hB⟩
    · have hkl : k < K := by
        by_cases h : k < K
        · exact h
        · exfalso; apply hz
          rw [show k = K by omega]; exact HK3.out
      have hzb : zeroB (pw (p.at 0) p.zv x k) = false := by
        cases h : zeroB (pw (p.at 0) p.zv x k)
        · rfl
        · exact absurd ((zeroB_zv VY.len).1 h) hz
      have lx := hX.lt
      have m0 := hX.c0
      have m1 := hX.c1
      have m2 := hX.c2
      have hkp : (k : Int) ≤ prodO p.orders := by omega
      have hD : decide ((k : Int) ≤ prodO p.orders) = true := by simpa using hkp
      have HRY := Lib.hid hR
      clear hz hR
      go_wp2_with fail
      refine (s_l01Zero _ _ _ HRY.out).mono ?_
      rintro e w' ⟨rfl, rfl⟩
      rw [hzb]
      clear hzb
      go_wp2_with fail
      refine (s_l10Order hV _ _ _ _ (HP.out.below hB)).mono ?_
      rintro e w2 ⟨rfl, hB2⟩
      have hX2 := hX.below hB2 lx
      have hB3 := below_size hB hB2
      have hRY2 := HRY.out.below hB2
      clear hX hB hB2 m0 m1 m2
      have m0 := hX2.c0
      have m1 := hX2.c1
      have m2 := hX2.c2
      go_wp2_with fail
      refine (s_l08Mul hV _ _ _ _ _ _ _ _ (HP.out.below hB3) hRY2 (HX.out.below hB3) VY KX.out).mono ?_
      rintro e w4 ⟨u4, rfl, hI4, hB4⟩
      have hX4 := hX2.below hB4 hX2.lt
      have hB5 := below_size hB3 hB4
      have hR4 := hI4.rd
      clear hX2 hB3 hB4 hI4 hRY2 m0 m1 m2 hD
      go_wp2_with fail
      go_roundw
      case rel => exact ⟨k + 1, by go_num, by omega, by omega, hR4, hX4, hB5⟩
      case measure => simp [intOf]; omega
--== impl.ElementOrder
set_option maxHeartbeats 2000000 in
theorem i_ElementOrder (v1 v2 v3 : Value) (p : Pres) (vx : Value) (x : List Int) (w : World) (hp : RdP w v1 v2 v3 p) (hx : Rd w vx x) :
    Calls Try.prog 24 #[.agg #[v1, v2, v3], vx] w (RetV w (.tuple #[.int .i64 (okI (elsB p [x]) (ordE p x)), .int .i64 (cod1 (elsB p [x]))])) := by
  have HP := Lib.hid hp
  obtain ⟨ao1, cap1, rfl, _, _⟩ := hp.1.form
  obtain ⟨ao2, cap2, rfl, _, _⟩ := hp.2.1.form
  obtain ⟨ao3, cap3, rfl, _, _⟩ := hp.2.2.form
  have g0 := below_alloc w (Obj.cells #[Value.slice ao1 p.orders.length cap1, Value.slice ao2 p.powers.length cap2, Value.slice ao3 p.conj.length cap3] 28)
  obtain ⟨ax, cx, rfl, _, _⟩ := hx.form
  have PT := Lib.hid (PtrP.boxed hp)
  have hl := Rd2.lit1 22 _ x (hx.below g0)
  have hsz : (w.alloc (Obj.cells #[Value.slice ao1 p.orders.length cap1, Value.slice ao2 p.powers.length cap2, Value.slice ao3 p.conj.length cap3] 28)).heap.size = w.heap.size + 1 := by simp
  rw [hsz] at hl
  have HL := Lib.hid hl
  have g1 := ball g0 (Obj.cells #[.slice ax x.length cx] 22)
  have PT1 := Lib.hid (PT.out.below (below_alloc _ (Obj.cells #[.slice ax x.length cx] 22)))
  have Hx := Lib.hid hx
  clear hp hl hsz hx
  by_cases hE : elsB p [x] = true
  case neg =>
    have hE' : elsB p [x] = false := by simpa using hE
    rw [hE']
    clear hE
    go_enter Try.func24, Try.ntmps24
    go_wp2_with fail
    refine (i_areElements _ _ p [x] _ PT1.out HL.out (by simp)).mono ?_
    rintro e w2 ⟨rfl, hb⟩
    have g2 := below_size g1 hb
    have PT2 := PT1.out.below hb
    rw [hE']
    clear hb hE'
    go_wp2_with fail
    go_ret2
    exact ⟨rfl, g2⟩
  obtain ⟨hc, hall⟩ := elsB_true hE
  obtain ⟨hV, hG⟩ := conB_true hc
  have kx := tail_VI (hall x (by simp))
  have HV := Lib.hid hV
  have HG := Lib.hid hG
  have Kx := Lib.hid kx
  clear hc hall hV hG kx
  rw [hE]
  go_enter Try.func24, Try.ntmps24
  go_wp2_with fail
  refine (i_areElements _ _ p [x] _ PT1.out HL.out (by simp)).mono ?_
  rintro e w2 ⟨rfl, hb⟩
  have g2 := below_size g1 hb
  have PT2 := PT1.out.below hb
  rw [hE]
  clear hb hE
  go_wp2_with fail
  refine (i_orderOfElement HV.out HG.out _ _ x _ PT2 (Hx.out.below g2) Kx.out).mono ?_
  rintro e w3 ⟨K, rfl, hb, K1, K2, _, K3, K4⟩
  have g3 := below_size g2 hb
  have HK := Lib.hid (ordE_eq K1 K3 K4)
  clear hb K3 K4 PT2
  go_wp2_with fail
  go_ret2
  exact ⟨ret_ii (by rw [HK.out]; rfl) rfl, g3⟩
--== spec.ElementOrder
set_option maxHeartbeats 2000000 in
theorem s_ElementOrder (v1 v2 v3 : Value) (p : Pres) (vx : Value) (x : List Int) (w : World) (hp : RdP w v1 v2 v3 p) (hx : Rd w vx x) :
    Calls Try.prog 22 #[.agg #[v1, v2, v3], vx] w (RetV w (.tuple #[.int .i64 (okI (elsB p [x]) (ordE p x)), .int .i64 (cod1 (elsB p [x]))])) := by
  have HP := Lib.hid hp
  obtain ⟨ao1, cap1, rfl, _, _⟩ := hp.1.form
  obtain ⟨ao2, cap2, rfl, _, _⟩ := hp.2.1.form
  obtain ⟨ao3, cap3, rfl, _, _⟩ := hp.2.2.form
  have g0 := below_alloc w (Obj.cells #[Value.slice ao1 p.orders.length cap1, Value.slice ao2 p.powers.length cap2, Value.slice ao3 p.conj.length cap3] 28)
  have Hx := Lib.hid hx
  clear hp hx
  by_cases hE : elsB p [x] = true
  case neg =>
    have hE' : elsB p [x] = false := by simpa using hE
    rw [hE']
    clear hE
    go_enter Try.func22, Try.ntmps22
    go_wp2_with fail
    refine (s_IsElement _ _ _ p _ x _ (HP.out.below g0) (Hx.out.below g0)).mono ?_
    rintro e w2 ⟨rfl, hb⟩
    have g2 := below_size g0 hb
    obtain ⟨c1, f1⟩ := bcell hb
    have z1 : w.heap.size < w2.heap.size := by have := hb.size; simp at this; omega
    rw [hE']
    clear hb hE'
    go_wp2_with fail
    go_ret2
    exact ⟨rfl, g2⟩
  obtain ⟨hc, hall⟩ := elsB_true hE
  obtain ⟨hV, hG⟩ := conB_true hc
  have kx := tail_VI (hall x (by simp))
  have HV := Lib.hid hV
  have HG := Lib.hid hG
  have Kx := Lib.hid kx
  clear hc hall hV hG kx
  rw [hE]
  go_enter Try.func22, Try.ntmps22
  go_wp2_with fail
  refine (s_IsElement _ _ _ p _ x _ (HP.out.below g0) (Hx.out.below g0)).mono ?_
  rintro e w2 ⟨rfl, hb⟩
  have g2 := below_size g0 hb
  obtain ⟨c1, f1⟩ := bcell hb
  have z1 : w.heap.size < w2.heap.size := by have := hb.size; simp at this; omega
  rw [hE]
  clear hb hE
  go_wp2_with fail
  refine (s_l10Period HV.out HG.out _ _ _ _ x _ (HP.out.below g2) (Hx.out.below g2) Kx.out).mono ?_
  rintro e w3 ⟨rfl, hb⟩
  have g3 := below_size g2 hb
  clear hb
  go_wp2_with fail
  go_ret2
  exact ⟨rfl, g3⟩
end Go.Proofs.Ytanjeebdondpaaa
