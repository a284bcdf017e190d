/-
  The group's exponent: both sides.
-/
import Derived.Test.YtanjeebdondpaaaEvw
import Derived.Test.YtanjeebdondpaaaCjE
namespace Go.Proofs.Ytanjeebdondpaaa
set_option linter.unusedVariables false
set_option linter.unusedSimpArgs false
set_option maxRecDepth 100000
open Go.RowKit

noncomputable def gexTo (p : Pres) : Nat → Nat
  | 0 => 1
  | k + 1 => gexTo p k / Nat.gcd (gexTo p k) (ordE p (atF p (k : Int))) * ordE p (atF p (k : Int))
theorem gexTo_succ (p : Pres) (k : Nat) : gexTo p (k + 1) = gexTo p k / Nat.gcd (gexTo p k) (ordE p (atF p (k : Int))) * ordE p (atF p (k : Int)) := rfl
theorem dv_mul_gcd {a d Q : Nat} (ha : a ∣ Q) (hd : d ∣ Q) : a / Nat.gcd a d * d ∣ Q := by
  rw [Nat.div_mul_right_comm (Nat.gcd_dvd_left a d)]
  exact Nat.lcm_dvd ha hd
theorem ordE_dv {p : Pres} (hV : ValidP p) (hG : GT p 0) {x : List Int} (hx : VI p 0 x) : ordE p x ∣ gord p := by
  obtain ⟨_, ⟨c, hc⟩, _⟩ := ordE_spec hG hV.r4 hx
  refine ⟨c, ?_⟩
  have := (gord_eq hV).1
  rw [this] at hc
  exact_mod_cast hc
theorem gexTo_dv {p : Pres} (hV : ValidP p) (hG : GT p 0) (k : Nat) : gexTo p k ∣ gord p := by
  induction k with
  | zero => exact Nat.one_dvd _
  | succ k ih => exact dv_mul_gcd ih (ordE_dv hV hG (atF_VI hV.valid (k : Int)))
theorem gord_pos {p : Pres} (hV : ValidP p) : 1 ≤ gord p := by have := (ord_bd0 hV).1; have := (gord_eq hV).1; omega
theorem gexTo_bd {p : Pres} (hV : ValidP p) (hG : GT p 0) (k : Nat) : 1 ≤ gexTo p k ∧ gexTo p k ≤ 729 := by
  have h := gexTo_dv hV hG k
  have h1 := gord_pos hV
  have h2 := (gord_eq hV).2
  have h3 := Nat.le_of_dvd h1 h
  have h4 := Nat.pos_of_dvd_of_pos h h1
  omega
def gexC (p : Pres) : Int := if conB p = true then (if 128 < gord p then 3 else 0) else 1
noncomputable def gexR (p : Pres) : Int := if gexC p = 0 then (gexTo p (gord p) : Int) else 0
theorem gex_1 {p : Pres} (h : conB p = false) : gexC p = 1 ∧ gexR p = 0 := by
  have h1 : gexC p = 1 := by unfold gexC; rw [h]; rfl
  refine ⟨h1, ?_⟩
  unfold gexR; rw [h1]; rfl
theorem gex_3 {p : Pres} (h : conB p = true) (h2 : 128 < gord p) : gexC p = 3 ∧ gexR p = 0 := by
  have h1 : gexC p = 3 := by unfold gexC; rw [if_pos h, if_pos h2]
  refine ⟨h1, ?_⟩
  unfold gexR; rw [h1]; rfl
theorem gex_0 {p : Pres} (h : conB p = true) (h2 : ¬ 128 < gord p) : gexC p = 0 ∧ gexR p = (gexTo p (gord p) : Int) := by
  have h1 : gexC p = 0 := by unfold gexC; rw [if_pos h, if_neg h2]
  refine ⟨h1, ?_⟩
  unfold gexR; rw [if_pos h1]
--== impl.gcd
set_option maxHeartbeats 1000000 in
theorem i_gcd (a b : Nat) (w : World) (ha : a ≤ 1000000) (hb : b ≤ 1000000) : Calls Try.prog 85 #[.int .i64 a, .int .i64 b] w (RetV w (.int .i64 (Nat.gcd a b : Nat))) := by
  obtain ⟨G, HG⟩ : ∃ G, Hid (Nat.gcd a b = G) := ⟨_, rfl⟩
  rw [HG.out]
  go_enter Try.func85, Try.ntmps85
  go_wp2_with fail
  have hB0 := Below.refl w.heap.size w
  go_loopw [0, 1] (fun u v wr => ∃ x y : Nat, u = .int .i64 x ∧ v = .int .i64 y ∧ x ≤ 1000000 ∧ y ≤ 1000000 ∧ Hid (Nat.gcd x y = G) ∧ Below w.heap.size w wr) (fun _ v _ => (intOf v).toNat)
  case atStart => exact ⟨a, b, rfl, rfl, ha, hb, HG, hB0⟩
  case round =>
    clear hB0
    obtain ⟨x, y, rfl, rfl, hx, hy, HX, hB⟩ := hrel
    by_cases hlt : 0 < y
    · obtain ⟨z, HZ⟩ : ∃ z, Hid (x % y = z) := ⟨_, rfl⟩
      have HE : Hid ((x : Int) % (y : Int) = (z : Int)) := by show _ = _; rw [← HZ.out]; exact (Int.natCast_emod x y).symm
      have hzy : z < y := by rw [← HZ.out]; exact Nat.mod_lt _ hlt
      have HS : Hid (Nat.gcd y z = G) := by show _ = _; rw [← HZ.out, ← HX.out, Nat.gcd_comm x y]; exact (Nat.gcd_rec y x ▸ by rw [Nat.gcd_comm])
      have hy0 : (y : Int) ≠ 0 := by omega
      have hx0 : (0 : Int) ≤ (x : Int) := by omega
      have hyp : (0 : Int) < (y : Int) := by omega
      go_wp2_with fail
      go_region
      have hB2 := hB.drew
      clear hB
      go_wp2_with fail
      go_roundw
      case rel => exact ⟨y, z, rfl, by first | rw [HE.out] | (simp only [HE.out]) | skip, by omega, by omega, HS, hB2⟩
      case measure => (have := HE.out; simp [intOf]; omega)
    · obtain rfl : y = 0 := by omega
      have HK : Hid (x = G) := by have := HX.out; rw [Nat.gcd_zero_right] at this; exact this
      go_wp2_with fail
      refine (i_absJ (x : Int) _ (by omega)).mono ?_
      rintro e w' ⟨rfl, rfl⟩
      go_wp2_with fail
      go_ret
      exact ⟨ret_int (by rw [← HK.out]; unfold absJ; split <;> omega), hB⟩
--== spec.l01Gcd
set_option maxHeartbeats 1000000 in
theorem s_l01Gcd (a b : Nat) (w : World) (ha : a ≤ 1000000) (hb : b ≤ 1000000) : Calls Try.prog 83 #[.int .i64 a, .int .i64 b] w fun e w' => e = .returned (.int .i64 (Nat.gcd a b : Nat)) ∧ w = w' := by
  obtain ⟨G, HG⟩ : ∃ G, Hid (Nat.gcd a b = G) := ⟨_, rfl⟩
  rw [HG.out]
  go_enter Try.func83, Try.ntmps83
  go_wp2_with fail
  go_loop [0, 1] (fun u v => ∃ x y : Nat, u = .int .i64 x ∧ v = .int .i64 y ∧ x ≤ 1000000 ∧ y ≤ 1000000 ∧ Hid (Nat.gcd x y = G)) (fun _ v => (intOf v).toNat)
  case atStart => exact ⟨a, b, rfl, rfl, ha, hb, HG⟩
  case round =>
    obtain ⟨x, y, rfl, rfl, hx, hy, HX⟩ := hrel
    by_cases hlt : 0 < y
    · obtain ⟨z, HZ⟩ : ∃ z, Hid (x % y = z) := ⟨_, rfl⟩
      have HE : Hid ((x : Int) % (y : Int) = (z : Int)) := by show _ = _; rw [← HZ.out]; exact (Int.natCast_emod x y).symm
      have hzy : z < y := by rw [← HZ.out]; exact Nat.mod_lt _ hlt
      have HS : Hid (Nat.gcd y z = G) := by show _ = _; rw [← HZ.out, ← HX.out, Nat.gcd_comm x y]; exact (Nat.gcd_rec y x ▸ by rw [Nat.gcd_comm])
      have hy0 : (y : Int) ≠ 0 := by omega
      have hx0 : (0 : Int) ≤ (x : Int) := by omega
      have hyp : (0 : Int) < (y : Int) := by omega
      go_wp2_with fail
      go_round
      case rel => exact ⟨y, z, rfl, by first | rw [HE.out] | (simp only [HE.out]) | skip, by omega, by omega, HS⟩
      case measure => (have := HE.out; simp [intOf]; omega)
    · obtain rfl : y = 0 := by omega
      have HK : Hid (x = G) := by have := HX.out; rw [Nat.gcd_zero_right] at this; exact this
      go_wp2_with fail
      go_ret
      exact ⟨ret_int (by rw [← HK.out]), rfl⟩
--== impl.GroupExponent
set_option maxHeartbeats 4000000 in
theorem i_GroupExponent (v1 v2 v3 : Value) (p : Pres) (w : World) (hp : RdP w v1 v2 v3 p) :
    Calls Try.prog 40 #[.agg #[v1, v2, v3]] w (RetV w (.tuple #[.int .i64 (gexR p), .int .i64 (gexC p)])) := by
  have HP := Lib.hid hp
  obtain ⟨ao1, cap1, rfl, _, _⟩ := hp.1.form
  obtain ⟨ao2, cap2, rfl, _, _⟩ := hp.2.1.form
  obtain ⟨ao3, cap3, rfl, _, _⟩ := hp.2.2.form
  have g0 := below_alloc w (Obj.cells #[Value.slice ao1 p.orders.length cap1, Value.slice ao2 p.powers.length cap2, Value.slice ao3 p.conj.length cap3] 28)
  have PT := Lib.hid (PtrP.boxed hp)
  clear hp
  by_cases hc : conB p = true
  case neg =>
    have hc' : conB p = false := by simpa using hc
    rw [(gex_1 hc').1, (gex_1 hc').2]
    clear hc
    go_enter Try.func40, Try.ntmps40
    go_wp2_with fail
    refine (i_IsConsistent _ _ _ p _ (HP.out.below g0)).mono ?_
    rintro e w2 ⟨rfl, hb⟩
    have g2 := below_size g0 hb
    have PT2 := PT.out.below hb
    have z1 : w.heap.size < w2.heap.size := by have := hb.size; simp at this; omega
    rw [hc']
    clear hb hc'
    go_wp2_with fail
    go_ret2
    exact ⟨rfl, g2⟩
  obtain ⟨hV, hG⟩ := conB_true hc
  have HV := Lib.hid hV
  have HG := Lib.hid hG
  obtain ⟨hq, hq7⟩ := gord_eq hV
  have HQ := Lib.hid hq
  have HC := Lib.hid hc
  obtain ⟨N, HN⟩ : ∃ N, Hid (gord p = N) := ⟨_, rfl⟩
  rw [HN.out] at hq7
  by_cases h128 : 128 < N
  case pos =>
    have HK := Lib.hid (gex_3 hc (by rw [HN.out]; exact h128))
    clear hV hG hq
    rw [HK.out.1, HK.out.2]
    go_enter Try.func40, Try.ntmps40
    go_wp2_with fail
    refine (i_IsConsistent _ _ _ p _ (HP.out.below g0)).mono ?_
    rintro e w2 ⟨rfl, hb⟩
    have g2 := below_size g0 hb
    have PT2 := PT.out.below hb
    have z1 : w.heap.size < w2.heap.size := by have := hb.size; simp at this; omega
    rw [hc]
    clear hb hc
    go_wp2_with fail
    refine (i_orderOf _ p _ PT2 HV.out.ord).mono ?_
    rintro e w' ⟨rfl, rfl⟩
    rw [HQ.out, HN.out]
    clear PT2
    go_wp2_with fail
    go_ret2
    exact ⟨rfl, g2⟩
  have HK := Lib.hid (gex_0 hc (by rw [HN.out]; exact h128))
  rw [HK.out.1, HK.out.2, HN.out]
  clear hV hG hq
  go_enter Try.func40, Try.ntmps40
  go_wp2_with fail
  refine (i_IsConsistent _ _ _ p _ (HP.out.below g0)).mono ?_
  rintro e w2 ⟨rfl, hb⟩
  have g2 := below_size g0 hb
  have PT2 := PT.out.below hb
  have z1 : w.heap.size < w2.heap.size := by have := hb.size; simp at this; omega
  rw [hc]
  clear hb hc
  go_wp2_with fail
  refine (i_orderOf _ p _ PT2 HV.out.ord).mono ?_
  rintro e w' ⟨rfl, rfl⟩
  rw [HQ.out, HN.out]
  go_wp2_with fail
  refine (i_allElements HV.out _ _ PT2).mono ?_
  rintro e w3 ⟨u3, rfl, hO3, hB3⟩
  have g3 := below_size g2 hB3
  have PT3 := PT2.below hB3
  have hO3' := O2.grow hO3 g2.size
  obtain ⟨a3, q3, rfl, _, _⟩ := hO3'.formN (allE_len p (gord p))
  have HO := Lib.hid hO3'
  have HPT := Lib.hid PT3
  rw [HN.out] at HO ⊢
  clear hO3 hB3 PT2 PT3 hO3'
  have hB0 := Below.refl w3.heap.size w3
  go_wp2_with fail
  go_loopw [4, 15] (fun m t wr => ∃ j : Nat, j ≤ N ∧ t = .int .i64 j ∧ m = .int .i64 (gexTo p j) ∧ Below w3.heap.size w3 wr) (fun _ t _ => N - (intOf t).toNat)
  case atStart => exact ⟨0, Nat.zero_le _, rfl, rfl, hB0⟩
  case round =>
    clear hB0
    obtain ⟨j, hj, rfl, rfl, hB⟩ := hrel
    by_cases hlt : j < N
    · obtain ⟨gg, cap, r, T, he, hcell, hO1, hT, _⟩ := ON.focus local_O1 HO.out j (by rw [allE_len]; exact hlt)
      rw [allE_len] at he
      simp only [Value.slice.injEq, true_and] at he
      obtain ⟨rfl, rfl⟩ := he
      rw [allE_get p hlt] at hO1
      have hI : Ints w3 w.heap.size r (atF p (j : Int)) := hO1.ints fun k hk => (hT k hk).1
      have VZ := atF_VI HV.out.valid (j : Int)
      obtain ⟨az, cz, rfl, _, _⟩ := hI.rd.formN VZ.len
      have hc' := below_cells hB _ _ hcell
      have HI := Lib.hid (hI.below hB)
      have HS := Lib.hid (gexTo_succ p j)
      have hbd := gexTo_bd HV.out HG.out j
      have hbd2 := gexTo_bd HV.out HG.out (j + 1)
      obtain ⟨A, HA⟩ : ∃ A, Hid (gexTo p j = A) := ⟨_, rfl⟩
      rw [HA.out] at hbd HS ⊢
      rw [HS.out] at hbd2
      have HB := Lib.hid hB
      clear hO1 hT hcell hI hB
      go_wp2_with fail
      refine (i_orderOfElement HV.out HG.out _ _ _ _ (HPT.out.below HB.out) HI.out.rd VZ).mono ?_
      rintro e w5 ⟨K, rfl, hB5, K1, K2, _, K3, K4⟩
      have hB6 := below_size HB.out hB5
      have HK5 := Lib.hid (ordE_eq K1 K3 K4)
      rw [HK5.out] at HS hbd2
      clear K3 K4 hB5 hc'
      go_wp2_with fail
      refine (i_gcd A K _ (by omega) (by omega)).mono ?_
      rintro e w6 ⟨rfl, hB7⟩
      have hB8 := below_size hB6 hB7
      clear hB6 hB7
      have hg1 : 1 ≤ Nat.gcd A K := Nat.gcd_pos_of_pos_left _ (by omega)
      have hg2 : Nat.gcd A K ≤ A := Nat.gcd_le_left _ (by omega)
      obtain ⟨D, HD⟩ : ∃ D, Hid (A / Nat.gcd A K = D) := ⟨_, rfl⟩
      have HDE : Hid ((A : Int) / ((Nat.gcd A K : Nat) : Int) = (D : Int)) := by show _ = _; rw [← HD.out]; exact (Int.natCast_ediv A _).symm
      have hDA : D ≤ A := by rw [← HD.out]; exact Nat.div_le_self _ _
      rw [HD.out] at HS hbd2
      obtain ⟨g, Hg⟩ : ∃ g, Hid (Nat.gcd A K = g) := ⟨_, rfl⟩
      rw [Hg.out] at hg1 hg2 HDE ⊢
      have HMU : Hid ((D : Int) * (K : Int) = ((D * K : Nat) : Int)) := (Int.natCast_mul D K).symm
      have hmul : (D : Int) * (K : Int) ≤ 729 := by rw [HMU.out]; omega
      have hmul0 : 0 ≤ (D : Int) * (K : Int) := by rw [HMU.out]; omega
      have hg0 : (g : Int) ≠ 0 := by omega
      have hgp : (0 : Int) < (g : Int) := by omega
      have hA0 : (0 : Int) ≤ (A : Int) := by omega
      have Wd : IntKind.i64.wrap ((A : Int) / (g : Int)) = (D : Int) := by rw [HDE.out]; exact IntWalk.i64_in _ (by omega)
      have W2 : IntKind.i64.wrap ((D : Int) * (K : Int)) = ((D * K : Nat) : Int) := by rw [IntWalk.i64_in _ (by omega)]; exact HMU.out
      go_wp2_with fail
      go_roundw
      case rel => exact ⟨j + 1, by omega, by go_num, by rw [HS.out, ← HMU.out], hB8⟩
      case measure => simp [intOf]; omega
    · obtain rfl : j = N := by omega
      have g4 := below_size g3 hB
      clear hB
      go_wp2_with fail
      go_ret2
      exact ⟨rfl, g4⟩
--== spec.GroupExponent
set_option maxHeartbeats 4000000 in
theorem s_GroupExponent (v1 v2 v3 : Value) (p : Pres) (w : World) (hp : RdP w v1 v2 v3 p) :
    Calls Try.prog 39 #[.agg #[v1, v2, v3]] w (RetV w (.tuple #[.int .i64 (gexR p), .int .i64 (gexC p)])) := by
  have HP := Lib.hid hp
  obtain ⟨ao1, cap1, rfl, _, _⟩ := hp.1.form
  obtain ⟨ao2, cap2, rfl, _, _⟩ := hp.2.1.form
  obtain ⟨ao3, cap3, rfl, _, _⟩ := hp.2.2.form
  have g0 := below_alloc w (Obj.cells #[Value.slice ao1 p.orders.length cap1, Value.slice ao2 p.powers.length cap2, Value.slice ao3 p.conj.length cap3] 28)
  have x0 := Bx.new w (Value.slice ao1 p.orders.length cap1) (Value.slice ao2 p.powers.length cap2) (Value.slice ao3 p.conj.length cap3)
  have X0 := Lib.hid x0
  clear hp x0
  by_cases hc : conB p = true
  case neg =>
    have hc' : conB p = false := by simpa using hc
    rw [(gex_1 hc').1, (gex_1 hc').2]
    clear hc
    go_enter Try.func39, Try.ntmps39
    go_wp2_with fail
    refine (s_l08Group p _ _ _ _ (HP.out.below g0)).mono ?_
    rintro e w2 ⟨rfl, hb⟩
    have g2 := below_size g0 hb
    obtain ⟨c1, f1⟩ := bcell hb
    have z1 : w.heap.size < w2.heap.size := by have := hb.size; simp at this; omega
    rw [hc']
    clear hb hc'
    go_wp2_with fail
    go_ret2
    exact ⟨rfl, g2⟩
  obtain ⟨hV, hG⟩ := conB_true hc
  have HV := Lib.hid hV
  have HG := Lib.hid hG
  obtain ⟨hq, hq7⟩ := gord_eq hV
  have HQ := Lib.hid hq
  obtain ⟨N, HN⟩ : ∃ N, Hid (gord p = N) := ⟨_, rfl⟩
  rw [HN.out] at hq7
  by_cases h128 : 128 < N
  case pos =>
    have HK := Lib.hid (gex_3 hc (by rw [HN.out]; exact h128))
    clear hV hG hq
    rw [HK.out.1, HK.out.2]
    go_enter Try.func39, Try.ntmps39
    go_wp2_with fail
    refine (s_l08Group p _ _ _ _ (HP.out.below g0)).mono ?_
    rintro e w2 ⟨rfl, hb⟩
    have g2 := below_size g0 hb
    have x2 := X0.out.below hb (by simp)
    have m0 := x2.c0
    have m1 := x2.c1
    have m2 := x2.c2
    rw [hc]
    clear hb hc
    go_wp2_with fail
    refine (s_l10Order HV.out _ _ _ _ (HP.out.below g2)).mono ?_
    rintro e w3 ⟨rfl, hb3⟩
    have g3 := below_size g2 hb3
    rw [HQ.out, HN.out]
    clear hb3 m0 m1 m2 x2
    go_wp2_with fail
    go_ret2
    exact ⟨rfl, g3⟩
  have HK := Lib.hid (gex_0 hc (by rw [HN.out]; exact h128))
  rw [HK.out.1, HK.out.2, HN.out]
  clear hV hG hq
  go_enter Try.func39, Try.ntmps39
  go_wp2_with fail
  refine (s_l08Group p _ _ _ _ (HP.out.below g0)).mono ?_
  rintro e w2 ⟨rfl, hb⟩
  have g2 := below_size g0 hb
  have x2 := X0.out.below hb (by simp)
  have m0 := x2.c0
  have m1 := x2.c1
  have m2 := x2.c2
  rw [hc]
  clear hb hc
  go_wp2_with fail
  refine (s_l10Order HV.out _ _ _ _ (HP.out.below g2)).mono ?_
  rintro e w3 ⟨rfl, hb3⟩
  have g3 := below_size g2 hb3
  have x3 := x2.below hb3 x2.lt
  rw [HQ.out, HN.out]
  clear hb3 m0 m1 m2 x2 g2
  go_wp2_with fail
  go_loopw [4, 5] (fun m t wr => ∃ j : Nat, j ≤ N ∧ t = .int .i64 j ∧ m = .int .i64 (gexTo p j) ∧ Bx wr w.heap.size (Value.slice ao1 p.orders.length cap1) (Value.slice ao2 p.powers.length cap2) (Value.slice ao3 p.conj.length cap3) ∧ Below w.heap.size w wr) (fun _ t _ => N - (intOf t).toNat)
  case atStart => exact ⟨0, Nat.zero_le _, rfl, rfl, x3, g3⟩
  case round =>
    clear x3 g3
    obtain ⟨j, hj, rfl, rfl, hX, hB⟩ := hrel
    have m0 := hX.c0
    have m1 := hX.c1
    have m2 := hX.c2
    have hbd := gexTo_bd HV.out HG.out j
    have HS := Lib.hid (gexTo_succ p j)
    have hbd2 := gexTo_bd HV.out HG.out (j + 1)
    obtain ⟨A, HA⟩ : ∃ A, Hid (gexTo p j = A) := ⟨_, rfl⟩
    rw [HA.out] at hbd HS ⊢
    rw [HS.out] at hbd2
    go_wp2_with fail
    refine (s_l10Order HV.out _ _ _ _ (HP.out.below hB)).mono ?_
    rintro e w4 ⟨rfl, hb4⟩
    have hB4 := below_size hB hb4
    have hX4 := hX.below hb4 hX.lt
    rw [HQ.out, HN.out]
    clear hX hB hb4 m0 m1 m2
    have lx := hX4.lt
    have m0 := hX4.c0
    have m1 := hX4.c1
    have m2 := hX4.c2
    by_cases hlt : j < N
    · have VZ := atF_VI HV.out.valid (j : Int)
      have KEEP : Hid (∀ wx, Below w4.heap.size w4 wx → Below w4.heap.size w4 wx ∧ wx.cell? ⟨w.heap.size, 0, none⟩ = some (Value.slice ao1 p.orders.length cap1) ∧ wx.cell? ⟨w.heap.size, 1, none⟩ = some (Value.slice ao2 p.powers.length cap2) ∧ wx.cell? ⟨w.heap.size, 2, none⟩ = some (Value.slice ao3 p.conj.length cap3)) := fun wx hb =>
        ⟨hb, below_cells hb _ _ m0, below_cells hb _ _ m1, below_cells hb _ _ m2⟩
      have HBB := Lib.hid hB4
      have HXX := Lib.hid hX4
      have hj6 : (0 : Int) ≤ (j : Int) ∧ (j : Int) ≤ 1000000 := by omega
      have HAT : Hid (∀ wx, Below w4.heap.size w4 wx → Calls Try.prog 76 #[.agg #[Value.slice ao1 p.orders.length cap1, Value.slice ao2 p.powers.length cap2, Value.slice ao3 p.conj.length cap3], .int .i64 (j : Int)] wx (RetInts wx (atF p (j : Int)))) := fun wx hb =>
        s_l10At HV.out (j : Int) _ _ _ wx (HP.out.below (below_size HBB.out hb)) hj6
      have HPE : Hid (∀ wx u, Below w4.heap.size w4 wx → Rd wx u (atF p (j : Int)) → Calls Try.prog 66 #[.agg #[Value.slice ao1 p.orders.length cap1, Value.slice ao2 p.powers.length cap2, Value.slice ao3 p.conj.length cap3], u] wx (RetV wx (.int .i64 (ordE p (atF p (j : Int)))))) := fun wx u hb hu =>
        s_l10Period HV.out HG.out _ _ _ _ _ wx (HP.out.below (below_size HBB.out hb)) hu VZ
      clear hX4 hB4 m0 m1 m2
      go_wp2_with fail
      go_region_held3 (fun wx => Below w4.heap.size w4 wx ∧ wx.cell? ⟨w.heap.size, 0, none⟩ = some (Value.slice ao1 p.orders.length cap1) ∧ wx.cell? ⟨w.heap.size, 1, none⟩ = some (Value.slice ao2 p.powers.length cap2) ∧ wx.cell? ⟨w.heap.size, 2, none⟩ = some (Value.slice ao3 p.conj.length cap3))
        (first | exact KEEP.out _ (Below.refl _ _).drew | exact KEEP.out _ (below_size (And.left (by assumption)) (by assumption)))
        (first
          | ((go_at_call 76); (with_reducible refine (HAT.out _ (And.left (by assumption))).mono ?_); (rintro e w5 ⟨u5, rfl, hI5, hB5⟩))
          | ((go_at_call 66); (with_reducible refine (HPE.out _ _ (And.left (by assumption)) hI5.rd).mono ?_); (rintro e w7 ⟨rfl, hB7⟩)))
      have hB9 : Below w4.heap.size w4 w7 := And.left (by assumption)
      have hB10 := below_size HBB.out hB9
      have hX10 := HXX.out.below hB9 lx
      have hK1 := (ordE_le HV.out HG.out VZ).1
      have hK2 := (ordE_le HV.out HG.out VZ).2
      rw [HQ.out, HN.out] at hK2
      clear hI5 hB5 hB7 hB9 KEEP HAT HPE HBB HXX VZ
      obtain ⟨K, HKE⟩ : ∃ K, Hid (ordE p (atF p (j : Int)) = K) := ⟨_, rfl⟩
      rw [HKE.out] at HS hbd2 hK1 hK2 ⊢
      go_wp2_with fail
      refine (s_l01Gcd A K _ (by omega) (by omega)).mono ?_
      rintro e w' ⟨rfl, rfl⟩
      have hg1 : 1 ≤ Nat.gcd A K := Nat.gcd_pos_of_pos_left _ (by omega)
      have hg2 : Nat.gcd A K ≤ A := Nat.gcd_le_left _ (by omega)
      obtain ⟨D, HD⟩ : ∃ D, Hid (A / Nat.gcd A K = D) := ⟨_, rfl⟩
      have HDE : Hid ((A : Int) / ((Nat.gcd A K : Nat) : Int) = (D : Int)) := by show _ = _; rw [← HD.out]; exact (Int.natCast_ediv A _).symm
      have hDA : D ≤ A := by rw [← HD.out]; exact Nat.div_le_self _ _
      rw [HD.out] at HS hbd2
      obtain ⟨g, Hg⟩ : ∃ g, Hid (Nat.gcd A K = g) := ⟨_, rfl⟩
      rw [Hg.out] at hg1 hg2 HDE ⊢
      have HMU : Hid ((D : Int) * (K : Int) = ((D * K : Nat) : Int)) := (Int.natCast_mul D K).symm
      have hmul : (D : Int) * (K : Int) ≤ 729 := by rw [HMU.out]; omega
      have hmul0 : 0 ≤ (D : Int) * (K : Int) := by rw [HMU.out]; omega
      have hg0 : (g : Int) ≠ 0 := by omega
      have hgp : (0 : Int) < (g : Int) := by omega
      have hA0 : (0 : Int) ≤ (A : Int) := by omega
      have Wd : IntKind.i64.wrap ((A : Int) / (g : Int)) = (D : Int) := by rw [HDE.out]; exact IntWalk.i64_in _ (by omega)
      have W2 : IntKind.i64.wrap ((D : Int) * (K : Int)) = ((D * K : Nat) : Int) := by rw [IntWalk.i64_in _ (by omega)]; exact HMU.out
      go_wp2_with fail
      go_roundw
      case rel => exact ⟨j + 1, by omega, by go_num, by rw [HS.out, ← HMU.out], hX10, hB10⟩
      case measure => simp [intOf]; omega
    · obtain rfl : j = N := by omega
      clear hX4 m0 m1 m2
      go_wp2_with fail
      go_ret2
      exact ⟨ret_ii (by rw [HA.out]) rfl, hB4⟩
end Go.Proofs.Ytanjeebdondpaaa
