/-
  Orders of elements, powers, numbers: both sides.
-/
import Derived.Test.YtflchdggonokdaaMul
import Derived.Test.YtflchdggonokdaaPer
namespace Go.Proofs.Ytflchdggonokdaa
set_option linter.unusedVariables false
set_option linter.unusedSimpArgs false
set_option maxRecDepth 100000
open Go.RowKit

theorem ValidP.r4 {p : Pres} (h : ValidP p) (k : Nat) (hk : k < p.n) : p.r k = 2 ∨ p.r k = 3 ∨ p.r k = 5 ∨ p.r k = 7 :=
  primeB_true.1 (List.all_eq_true.1 (ordB_true h.ord).1 _ (getD_mem (xs := p.orders) (k := k) hk))
theorem zeroB_zv {p : Pres} {x : List Int} (hx : x.length = p.n) : zeroB x = true ↔ x = p.zv := by
  rw [zeroB_true]
  constructor
  · intro h; exact vext (by rw [hx, p.zv_len]) fun j hj => by rw [h j hj, zv_get]
  · rintro rfl j _; exact zv_get p j
--== impl.orderOfElement
set_option maxHeartbeats 4000000 in
theorem i_orderOfElement {p : Pres} (hV : ValidP p) (hG : GT p 0) (vp vx : Value) (x : List Int) (w : World) (hp : PtrP w vp p) (hx : Rd w vx x) (kx : VI p 0 x) :
    Calls Try.prog 93 #[vp, vx] w fun e w' => ∃ K : Nat, e = .returned (.int .i64 K) ∧ Below w.heap.size w w' ∧ 1 ≤ K ∧ K ≤ 117649 ∧ pw (p.at 0) p.zv x K = p.zv ∧ ∀ m : Nat, 1 ≤ m → pw (p.at 0) p.zv x m = p.zv → K ≤ m := by
  have hn6 := hV.n6
  have HP := Lib.hid hp
  have HG := Lib.hid hG
  have KX := Lib.hid kx
  have H0 := Lib.hid (Per.start hG kx)
  obtain ⟨pb, v1, v2, v3, rfl, c1, c2, c3, R1, R2, R3⟩ := hp
  obtain ⟨a1, q1, rfl, _, _⟩ := R1.formN (n := p.n) rfl
  have HR1 := Lib.hid R1
  have C1 := Lib.hid c1
  have HB7 : Hid (∀ d, d ≤ 6 → 7 ^ d ≤ 117649) := fun d hd => by
    have : d = 0 ∨ d = 1 ∨ d = 2 ∨ d = 3 ∨ d = 4 ∨ d = 5 ∨ d = 6 := by omega
    rcases this with rfl | rfl | rfl | rfl | rfl | rfl | rfl <;> decide
  clear R1 R2 R3 c1 c2 c3 kx hG
  go_enter Try.func93, Try.ntmps93
  go_wp2_with fail
  go_loopw [5, 6, 7] (fun k t u wr => ∃ (d K : Nat) (now : List Int), d ≤ p.n ∧ k = .int .i64 K ∧ t = .int .i64 d ∧ Rd wr u now ∧ Per p x d K now ∧ Below w.heap.size w wr) (fun _ t _ _ => p.n - (intOf t).toNat)
  case atStart => exact ⟨0, 1, x, Nat.zero_le _, rfl, rfl, hx, H0.out, Below.refl _ _⟩
  case round =>
    clear hx
    obtain ⟨d, K, now, hd, rfl, rfl, hR, hper, hB⟩ := hrel
    have hnow : VI p 0 now := by rw [hper.pow]; exact HG.out.pw KX.out K
    obtain ⟨au, cu, rfl, _, _⟩ := hR.formN hnow.len
    have HPer := Lib.hid hper
    have hKb := Nat.le_trans hper.bd (HB7.out d (by omega))
    have hKp := hper.pos
    clear hper
    by_cases hz : zeroB now = true
    · have HZ := Lib.hid ((zeroB_zv hnow.len).1 hz)
      go_wp2_with fail
      refine (i_isZero _ now _ hR).mono ?_
      rintro e w' ⟨rfl, rfl⟩
      rw [hz]
      clear hz
      go_wp2_with fail
      go_ret
      exact ⟨K, rfl, hB, hKp, hKb, HPer.out.stop HZ.out⟩
    · have hz' : zeroB now = false := by simpa using hz
      have hdn : d < p.n := by
        by_cases h : d < p.n
        · exact h
        · exfalso
          apply hz
          rw [zeroB_true]
          intro j hj
          exact HPer.out.zero j (by rw [hnow.len] at hj; omega)
      clear hz
      have HNow := Lib.hid hnow
      obtain ⟨b6, o6, rfl, hcell⟩ := hR.at (show d < now.length by rw [hnow.len]; exact hdn)
      obtain ⟨c, Hc⟩ := nam (now.getD d 0)
      rw [Hc.out] at hcell
      have HR := Lib.hid hR
      obtain ⟨b1, o1, rfl, k1⟩ := HR1.out.at (j := d) hdn
      have hr4 := hV.r4 d hdn
      have hrk := hV.rk d hdn
      obtain ⟨r, hr⟩ : ∃ r : Nat, p.r d = (r : Int) := ⟨(p.r d).toNat, by omega⟩
      have k1' : w.cell? ⟨b1, o1 + d, none⟩ = some (.int .i64 (r : Int)) := by rw [← hr]; exact k1
      have hr7 : r ≤ 7 := by omega
      have K1 := Lib.hid k1'
      have HRr := Lib.hid hr
      have HR4 := Lib.hid hr4
      clear hnow k1 k1' hr hr4 hrk
      by_cases hc : c = 0
      · subst hc
        have HPer2 := Lib.hid (HPer.out.skip Hc.out)
        go_wp2_with fail
        refine (i_isZero _ now _ HR.out).mono ?_
        rintro e w' ⟨rfl, rfl⟩
        rw [hz']
        clear hz'
        go_wp2_with fail
        go_roundw
        case rel => exact ⟨d + 1, K, now, by omega, rfl, by go_num, HR.out, HPer2.out, hB⟩
        case measure => simp [intOf]; omega
      · have D1 : (c != 0) = true := by simpa using hc
        have D2 : (c == 0) = false := by simpa using hc
        have HPer2 := Lib.hid (HPer.out.step HG.out KX.out hdn HR4.out (by rw [Hc.out]; exact hc))
        rw [HRr.out, Int.toNat_natCast] at HPer2
        clear hc
        have e0 := below_cells hB _ _ C1.out
        have e1 := below_cells hB _ _ K1.out
        go_wp2_with fail
        refine (i_isZero _ now _ HR.out).mono ?_
        rintro e w' ⟨rfl, rfl⟩
        rw [hz']
        clear hz'
        go_wp2_with fail
        refine (i_power _ _ p 0 now r _ (HP.out.below hB) hV HG.out HR.out HNow.out (by omega)).mono ?_
        rintro e w2 ⟨u2, rfl, hI2, hB2⟩
        have hB3 := below_size hB hB2
        have hR2 := hI2.rd
        have e0' := below_cells hB3 _ _ C1.out
        have e1' := below_cells hB3 _ _ K1.out
        have hm : (0 : Int) ≤ (K : Int) * (r : Int) ∧ (K : Int) * (r : Int) ≤ 823543 := by
          have h1 : K * r ≤ 117649 * 7 := Nat.mul_le_mul hKb hr7
          have h2 : (0 : Int) ≤ ((K * r : Nat) : Int) := by omega
          rw [← Int.natCast_mul]; omega
        have hm1 : (-9223372036854775808 : Int) ≤ (K : Int) * (r : Int) ∧ (K : Int) * (r : Int) ≤ 9223372036854775807 := by omega
        clear hB hB2 hI2 hcell e0 e1
        go_wp2_with fail
        go_roundw
        case rel => exact ⟨d + 1, K * r, _, by omega, by rw [Int.natCast_mul], by go_num, hR2, HPer2.out, hB3⟩
        case measure => simp [intOf]; omega
--== impl.residue
theorem tmod_bd (k : Int) (m : Nat) (hm : 1 ≤ m) : -(m : Int) < k.tmod m ∧ k.tmod m < m := by
  have h1 : (m : Int) ≠ 0 := by omega
  constructor
  · by_cases hk : 0 ≤ k
    · rw [Int.tmod_eq_emod_of_nonneg hk]; have := Int.emod_nonneg k h1; omega
    · have : k.tmod m = -((-k) % m) := by
        have e : k = -(-k) := by omega
        conv => lhs; rw [e]
        rw [Int.neg_tmod, Int.tmod_eq_emod_of_nonneg (by omega)]
      rw [this]; have := Int.emod_lt_of_pos (-k) (show (0 : Int) < m by omega); omega
  · by_cases hk : 0 ≤ k
    · rw [Int.tmod_eq_emod_of_nonneg hk]; exact Int.emod_lt_of_pos k (by omega)
    · have : k.tmod m = -((-k) % m) := by
        have e : k = -(-k) := by omega
        conv => lhs; rw [e]
        rw [Int.neg_tmod, Int.tmod_eq_emod_of_nonneg (by omega)]
      rw [this]; have := Int.emod_nonneg (-k) h1; omega
set_option maxHeartbeats 1000000 in
theorem i_residue (k : Int) (m : Nat) (w : World) (h1 : 1 ≤ m) (h2 : m ≤ 1000000) (hk : -1000000 ≤ k ∧ k ≤ 1000000) :
    Calls Try.prog 92 #[.int .i64 k, .int .i64 m] w fun e w' => e = .returned (.int .i64 ((k.tmod m + m) % m)) ∧ w = w' := by
  have hb := tmod_bd k m h1
  have hm0 : (1 : Int) ≤ (m : Int) := by omega
  obtain ⟨t, Ht⟩ := nam (k.tmod m)
  rw [Ht.out] at hb ⊢
  have ht0 : 0 ≤ t + m := by omega
  have HT : k.tmod m = t := Ht.out
  go_enter Try.func92, Try.ntmps92
  go_wp2_with fail
  go_ret
  exact ⟨rfl, rfl⟩
--== powers
def pwC (p : Pres) (x : List Int) (k : Int) : Int := if elsB p [x] = true then (if inB k (-1000000) 1000000 = true then 0 else 2) else 1
theorem pwC_1 {p : Pres} {x : List Int} {k : Int} (h : elsB p [x] = false) : pwC p x k = 1 := by unfold pwC; rw [h]; rfl
theorem pwC_2 {p : Pres} {x : List Int} {k : Int} (h : elsB p [x] = true) (h2 : inB k (-1000000) 1000000 = false) : pwC p x k = 2 := by unfold pwC; rw [h, h2]; rfl
theorem pwC_0 {p : Pres} {x : List Int} {k : Int} (h : elsB p [x] = true) (h2 : inB k (-1000000) 1000000 = true) : pwC p x k = 0 := by unfold pwC; rw [h, h2]; rfl
--== impl.Power
set_option maxHeartbeats 4000000 in
theorem i_Power (v1 v2 v3 : Value) (p : Pres) (vx : Value) (x : List Int) (k : Int) (w : World) (hp : RdP w v1 v2 v3 p) (hx : Rd w vx x) :
    Calls Try.prog 47 #[.agg #[v1, v2, v3], vx, .int .i64 k] w (RetInts2 w (okW (pwC p x k) (zpw p x k)) (pwC p x k)) := by
  have HP := Lib.hid hp
  obtain ⟨ao1, cap1, rfl, _, _⟩ := hp.1.form
  obtain ⟨ao2, cap2, rfl, _, _⟩ := hp.2.1.form
  obtain ⟨ao3, cap3, rfl, _, _⟩ := hp.2.2.form
  have g0 := below_alloc w (Obj.cells #[Value.slice ao1 p.orders.length cap1, Value.slice ao2 p.powers.length cap2, Value.slice ao3 p.conj.length cap3] 30)
  obtain ⟨ax, cx, rfl, _, _⟩ := hx.form
  have PT := Lib.hid (PtrP.boxed hp)
  have hl := Rd2.lit1 22 _ x (hx.below g0)
  have hsz : (w.alloc (Obj.cells #[Value.slice ao1 p.orders.length cap1, Value.slice ao2 p.powers.length cap2, Value.slice ao3 p.conj.length cap3] 30)).heap.size = w.heap.size + 1 := by simp
  rw [hsz] at hl
  have HL := Lib.hid hl
  have g1 := ball g0 (Obj.cells #[.slice ax x.length cx] 22)
  have PT1 := Lib.hid (PT.out.below (below_alloc _ (Obj.cells #[.slice ax x.length cx] 22)))
  have Hx := Lib.hid hx
  clear hp hl hsz hx
  by_cases hE : elsB p [x] = true
  case neg =>
    have hE' : elsB p [x] = false := by simpa using hE
    rw [pwC_1 hE']
    clear hE
    go_enter Try.func47, Try.ntmps47
    go_wp2_with fail
    refine (i_areElements _ _ p [x] _ PT1.out HL.out (by simp)).mono ?_
    rintro e w2 ⟨rfl, hb⟩
    have g2 := below_size g1 hb
    have PT2 := PT1.out.below hb
    rw [hE']
    clear hb hE'
    go_wp2_with fail
    go_ret2
    exact ⟨_, rfl, Ints.nil _ _, g2⟩
  obtain ⟨hc, hall⟩ := elsB_true hE
  obtain ⟨hV, hG⟩ := conB_true hc
  have kx := tail_VI (hall x (by simp))
  have HV := Lib.hid hV
  have HG := Lib.hid hG
  have Kx := Lib.hid kx
  clear hc hall hV hG kx
  by_cases hk : inB k (-1000000) 1000000 = true
  case neg =>
    have hk' : inB k (-1000000) 1000000 = false := by simpa using hk
    rw [pwC_2 hE hk']
    clear hk
    go_enter Try.func47, Try.ntmps47
    go_wp2_with fail
    refine (i_areElements _ _ p [x] _ PT1.out HL.out (by simp)).mono ?_
    rintro e w2 ⟨rfl, hb⟩
    have g2 := below_size g1 hb
    have PT2 := PT1.out.below hb
    rw [hE]
    clear hb hE
    go_wp2_with fail
    refine (i_inside _ _ _ _).mono ?_
    rintro e w' ⟨rfl, rfl⟩
    rw [hk']
    go_wp2_with fail
    go_ret2
    exact ⟨_, rfl, Ints.nil _ _, g2⟩
  rw [pwC_0 hE hk, okW_zero rfl]
  have hkb := inB_true.1 hk
  go_enter Try.func47, Try.ntmps47
  go_wp2_with fail
  refine (i_areElements _ _ p [x] _ PT1.out HL.out (by simp)).mono ?_
  rintro e w2 ⟨rfl, hb⟩
  have g2 := below_size g1 hb
  have PT2 := PT1.out.below hb
  rw [hE]
  clear hb hE
  go_wp2_with fail
  refine (i_inside _ _ _ _).mono ?_
  rintro e w' ⟨rfl, rfl⟩
  rw [hk]
  clear hk
  go_wp2_with fail
  refine (i_orderOfElement HV.out HG.out _ _ x _ PT2 (Hx.out.below g2) Kx.out).mono ?_
  rintro e w3 ⟨K, rfl, hb3, K1, K2, K3, K4⟩
  have g3 := below_size g2 hb3
  have PT3 := PT2.below hb3
  have hm0 : (K : Int) ≠ 0 := by omega
  obtain ⟨q, hq⟩ : ∃ q : Nat, (q : Int) = (k.tmod K + K) % K := ⟨((k.tmod K + K) % K).toNat, by have := Int.emod_nonneg (k.tmod K + K) hm0; omega⟩
  have hq7 : (q : Int) ≤ 1000000 := by rw [hq]; have := Int.emod_lt_of_pos (k.tmod K + K) (show (0 : Int) < K by omega); omega
  have HZ := Lib.hid (zpw_mod HG.out Kx.out K1 K3 k hq)
  have HQ := Lib.hid hq
  clear K3 K4 hb3 PT2 hq
  go_wp2_with fail
  refine (i_residue k K _ K1 (by omega) hkb).mono ?_
  rintro e w' ⟨rfl, rfl⟩
  rw [← HQ.out]
  go_wp2_with fail
  refine (i_power _ _ p 0 x q _ PT3 HV.out HG.out (Hx.out.below g3) Kx.out (by omega)).mono ?_
  rintro e w4 ⟨u, rfl, hI, hB⟩
  rw [HZ.out] at hI
  have g4 := below_size g3 hB
  have hI2 := hI.mono g3.size
  clear hI hB PT3
  go_wp2_with fail
  go_ret2
  exact ⟨_, rfl, hI2, g4⟩
--== spec.l10Pow
set_option maxHeartbeats 4000000 in
theorem s_l10Pow {p : Pres} (hV : ValidP p) (hG : GT p 0) (x : List Int) (k : Int) (v1 v2 v3 vx : Value) (w : World) (hp : RdP w v1 v2 v3 p) (hx : Rd w vx x) (kx : VI p 0 x) (hk : -1000000 ≤ k ∧ k ≤ 1000000) :
    Calls Try.prog 90 #[.agg #[v1, v2, v3], vx, .int .i64 k] w (RetInts w (zpw p x k)) := by
  have HP := Lib.hid hp
  obtain ⟨p1, q1, rfl, _, _⟩ := hp.1.formN (n := p.n) rfl
  obtain ⟨p2, q2, rfl, _, _⟩ := hp.2.1.formN hV.pl
  obtain ⟨p3, q3, rfl, _, _⟩ := hp.2.2.formN hV.cl
  have g0 := below_alloc w (Obj.cells #[Value.slice p1 p.n q1, Value.slice p2 p.n q2, Value.slice p3 p.n q3] 30)
  have x0 := Bx.new w (Value.slice p1 p.n q1) (Value.slice p2 p.n q2) (Value.slice p3 p.n q3)
  obtain ⟨ax, cx, rfl, _, _⟩ := hx.formN kx.len
  have HX := Lib.hid hx
  have KX := Lib.hid kx
  have HG := Lib.hid hG
  have hs0 : w.heap.size < (w.alloc (Obj.cells #[Value.slice p1 p.n q1, Value.slice p2 p.n q2, Value.slice p3 p.n q3] 30)).heap.size := by simp
  clear hp hx kx hG
  by_cases hk0 : k < 0
  · obtain ⟨m, hm⟩ : ∃ m : Nat, -k = (m : Int) := ⟨(-k).toNat, by omega⟩
    have hm2 : m ≤ 1000000 := by omega
    have HZ : Hid (zpw p x k = pw (p.at 0) p.zv (p.inv 0 x) m) := by show _ = _; unfold zpw; rw [if_pos hk0, hm, Int.toNat_natCast]
    have HM := Lib.hid hm
    have WN : IntKind.i64.wrap (-k) = (m : Int) := by rw [IntWalk.i64_in _ (by omega)]; exact hm
    have m0 := x0.c0
    have m1 := x0.c1
    have m2 := x0.c2
    clear hm
    go_enter Try.func90, Try.ntmps90
    go_wp2_with fail
    generalize w.alloc (Obj.cells #[Value.slice p1 p.n q1, Value.slice p2 p.n q2, Value.slice p3 p.n q3] 30) = w1 at *
    have KEEP : Hid (∀ wx, Below w1.heap.size w1 wx → Below w1.heap.size w1 wx ∧ wx.cell? ⟨w.heap.size, 0, none⟩ = some (Value.slice p1 p.n q1) ∧ wx.cell? ⟨w.heap.size, 1, none⟩ = some (Value.slice p2 p.n q2) ∧ wx.cell? ⟨w.heap.size, 2, none⟩ = some (Value.slice p3 p.n q3)) := fun wx hb =>
      ⟨hb, below_cells hb _ _ m0, below_cells hb _ _ m1, below_cells hb _ _ m2⟩
    have HINV : Hid (∀ wx, Below w1.heap.size w1 wx → Calls Try.prog 88 #[.agg #[Value.slice p1 p.n q1, Value.slice p2 p.n q2, Value.slice p3 p.n q3], .slice ax p.n cx] wx (RetInts wx (p.inv 0 x))) := fun wx hb =>
      s_l10Inv hV HG.out x _ _ _ _ wx (HP.out.below (below_size g0 hb)) (HX.out.below (below_size g0 hb)) KX.out
    have HREP : Hid (∀ wx u, Below w1.heap.size w1 wx → Rd wx u (p.inv 0 x) → Calls Try.prog 115 #[.agg #[Value.slice p1 p.n q1, Value.slice p2 p.n q2, Value.slice p3 p.n q3], .int .i64 0, u, .int .i64 m] wx (RetInts wx (pw (p.at 0) p.zv (p.inv 0 x) m))) := fun wx u hb hu =>
      s_l08Repeat hV 0 HG.out (p.inv 0 x) m _ _ _ _ wx (by omega) (HP.out.below (below_size g0 hb)) hu (HG.out.inv KX.out)
    have G0 := Lib.hid g0
    clear m0 m1 m2
    go_region_held3 (fun wx => Below w1.heap.size w1 wx ∧ wx.cell? ⟨w.heap.size, 0, none⟩ = some (Value.slice p1 p.n q1) ∧ wx.cell? ⟨w.heap.size, 1, none⟩ = some (Value.slice p2 p.n q2) ∧ wx.cell? ⟨w.heap.size, 2, none⟩ = some (Value.slice p3 p.n q3))
      (first | exact KEEP.out _ (Below.refl _ _).drew | exact KEEP.out _ (below_size (And.left (by assumption)) (by assumption)))
      (first
        | ((go_at_call 88); (with_reducible refine (HINV.out _ (And.left (by assumption))).mono ?_); (rintro e w2 ⟨u2, rfl, hI2, hB2⟩))
        | ((go_at_call 115); (with_reducible refine (HREP.out _ _ (And.left (by assumption)) hI2.rd).mono ?_); (rintro e w3 ⟨u3, rfl, hI3, hB3⟩)))
    have hB4 : Below w1.heap.size w1 w3 := And.left (by assumption)
    have hB5 := below_size G0.out hB4
    have hI5 : Ints w3 w.heap.size u3 _ := hI3.mono (by have h1 := G0.out.size; have h2 := hB2.size; simp at h2; omega)
    rw [← HZ.out] at hI5
    clear hI2 hB2 hI3 hB3 hB4 KEEP HINV HREP WN g0
    go_wp2_with fail
    go_ret
    exact ⟨_, rfl, hI5, hB5⟩
  · obtain ⟨m, hm⟩ : ∃ m : Nat, k = (m : Int) := ⟨k.toNat, by omega⟩
    have hm2 : m ≤ 1000000 := by omega
    have HZ : Hid (zpw p x k = pw (p.at 0) p.zv x m) := by show _ = _; unfold zpw; rw [if_neg hk0, hm, Int.toNat_natCast]
    have HRP := s_l08Repeat hV 0 HG.out x m _ _ _ _ _ (by omega) (HP.out.below g0) (HX.out.below g0) KX.out
    rw [← hm] at HRP
    have HR := Lib.hid HRP
    clear hm HRP
    go_enter Try.func90, Try.ntmps90
    go_wp2_with fail
    refine HR.out.mono ?_
    rintro e w2 ⟨u2, rfl, hI2, hB2⟩
    rw [← HZ.out] at hI2
    have g2 := below_size g0 hB2
    have hI3 : Ints w2 w.heap.size _ _ := hI2.mono (by simp)
    clear hI2 hB2 HR
    go_wp2_with fail
    go_ret
    exact ⟨_, rfl, hI3, g2⟩
--== spec.Power
set_option maxHeartbeats 4000000 in
theorem s_Power (v1 v2 v3 : Value) (p : Pres) (vx : Value) (x : List Int) (k : Int) (w : World) (hp : RdP w v1 v2 v3 p) (hx : Rd w vx x) :
    Calls Try.prog 46 #[.agg #[v1, v2, v3], vx, .int .i64 k] w (RetInts2 w (okW (pwC p x k) (zpw p x k)) (pwC p x k)) := by
  have HP := Lib.hid hp
  obtain ⟨ao1, cap1, rfl, _, _⟩ := hp.1.form
  obtain ⟨ao2, cap2, rfl, _, _⟩ := hp.2.1.form
  obtain ⟨ao3, cap3, rfl, _, _⟩ := hp.2.2.form
  have g0 := below_alloc w (Obj.cells #[Value.slice ao1 p.orders.length cap1, Value.slice ao2 p.powers.length cap2, Value.slice ao3 p.conj.length cap3] 30)
  have Hx := Lib.hid hx
  clear hp hx
  by_cases hE : elsB p [x] = true
  case neg =>
    have hE' : elsB p [x] = false := by simpa using hE
    rw [pwC_1 hE']
    clear hE
    go_enter Try.func46, Try.ntmps46
    go_wp2_with fail
    refine (s_IsElement _ _ _ p _ x _ (HP.out.below g0) (Hx.out.below g0)).mono ?_
    rintro e w2 ⟨rfl, hb⟩
    have g2 := below_size g0 hb
    obtain ⟨c1, f1⟩ := bcell hb
    have z1 : w.heap.size < w2.heap.size := by have := hb.size; simp at this; omega
    rw [hE']
    clear hb hE'
    go_wp2_with fail
    go_ret2
    exact ⟨_, rfl, Ints.nil _ _, g2⟩
  obtain ⟨hc, hall⟩ := elsB_true hE
  obtain ⟨hV, hG⟩ := conB_true hc
  have kx := tail_VI (hall x (by simp))
  have HV := Lib.hid hV
  have HG := Lib.hid hG
  have Kx := Lib.hid kx
  clear hc hall hV hG kx
  by_cases hk : inB k (-1000000) 1000000 = true
  case neg =>
    have hk' : inB k (-1000000) 1000000 = false := by simpa using hk
    rw [pwC_2 hE hk']
    clear hk
    go_enter Try.func46, Try.ntmps46
    go_wp2_with fail
    refine (s_IsElement _ _ _ p _ x _ (HP.out.below g0) (Hx.out.below g0)).mono ?_
    rintro e w2 ⟨rfl, hb⟩
    have g2 := below_size g0 hb
    obtain ⟨c1, f1⟩ := bcell hb
    have z1 : w.heap.size < w2.heap.size := by have := hb.size; simp at this; omega
    rw [hE]
    clear hb hE
    go_wp2_with fail
    refine (s_l01In _ _ _ _).mono ?_
    rintro e w' ⟨rfl, rfl⟩
    rw [hk']
    go_wp2_with fail
    go_ret2
    exact ⟨_, rfl, Ints.nil _ _, g2⟩
  rw [pwC_0 hE hk, okW_zero rfl]
  have hkb := inB_true.1 hk
  go_enter Try.func46, Try.ntmps46
  go_wp2_with fail
  refine (s_IsElement _ _ _ p _ x _ (HP.out.below g0) (Hx.out.below g0)).mono ?_
  rintro e w2 ⟨rfl, hb⟩
  have g2 := below_size g0 hb
  obtain ⟨c1, f1⟩ := bcell hb
  have z1 : w.heap.size < w2.heap.size := by have := hb.size; simp at this; omega
  rw [hE]
  clear hb hE
  go_wp2_with fail
  refine (s_l01In _ _ _ _).mono ?_
  rintro e w' ⟨rfl, rfl⟩
  rw [hk]
  clear hk
  go_wp2_with fail
  refine (s_l10Pow HV.out HG.out x k _ _ _ _ _ (HP.out.below g2) (Hx.out.below g2) Kx.out hkb).mono ?_
  rintro e w4 ⟨u, rfl, hI, hB⟩
  have g4 := below_size g2 hB
  have hI2 := hI.mono g2.size
  clear hI hB
  go_wp2_with fail
  go_ret2
  exact ⟨_, rfl, hI2, g4⟩
theorem len_Power (p : Pres) (x : List Int) (k : Int) : (okW (pwC p x k) (zpw p x k)).length ≤ 1000000000 := by
  by_cases hE : elsB p [x] = true
  · obtain ⟨hc, hall⟩ := elsB_true hE
    obtain ⟨hV, hG⟩ := conB_true hc
    have kx := tail_VI (hall x (by simp))
    have hz : (zpw p x k).length = p.n := by
      unfold zpw; split
      · exact (hG.pw (hG.inv kx) _).len
      · exact (hG.pw kx _).len
    unfold okW; split
    · rw [hz]; have := hV.n6; omega
    · simp
  · rw [pwC_1 (by simpa using hE), okW_ne (by omega)]; simp
end Go.Proofs.Ytflchdggonokdaa
