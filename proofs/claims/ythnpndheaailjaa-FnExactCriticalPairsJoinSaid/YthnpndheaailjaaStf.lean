/-
  Steps of a collection: the walk of l09Step.
-/
import Derived.Test.YthnpndheaailjaaStp
import Derived.Test.YthnpndheaailjaaLev
import Derived.Test.YthnpndheaailjaaCut
namespace Go.Proofs.Ythnpndheaailjaa
set_option linter.unusedVariables false
set_option linter.unusedSimpArgs false
set_option maxRecDepth 100000
open Go.RowKit

--== spec.l09Step
set_option maxHeartbeats 16000000 in
theorem s_l09Step_d (v1 v2 v3 v : Value) (p : Pres) (xs : List Int) (t : Nat) (w : World) (hV : ValidP p) (hp : RdP w v1 v2 v3 p) (hv : Rd w v xs) (ht : t < xs.length) (hw : PosW p.n xs) (hd : descB xs t = true) (hx : xs.length ≤ 100000) :
    Calls Try.prog 165 #[.agg #[v1, v2, v3], v, .int .i64 t] w (RetInts w (stepL p xs t)) := by
  obtain ⟨i0, hi0, hz0, hz1, hz2⟩ := info_parts Try.info2
  have hn6 := hV.n6
  obtain ⟨q1, q2⟩ := hw.lt ht
  have hn : 0 < p.n := by omega
  obtain ⟨R1, R2, R3⟩ := hp
  obtain ⟨ao, cap, rfl, hc1, hc2⟩ := hv.form
  obtain ⟨bw, ow, rfl, hct0⟩ := hv.at ht
  have HV := Lib.hid hv
  have HP := Lib.hid (hv.preL t (by omega))
  have W0 : IntKind.i64.wrap ((t : Int) + 1) = (t : Int) + 1 := IntWalk.i64_in _ (by omega)
  obtain ⟨h1, h2⟩ := descB_iff.1 hd
  have hL := Lib.hid (stepL_d (p := p) hd)
  obtain ⟨q3, q4⟩ := hw.lt h1
  obtain ⟨d1, d2⟩ := desc_at hw hd
  obtain ⟨_, _, he, hct1⟩ := hv.at h1
  cases he
  obtain ⟨p1, r1, rfl, _, _⟩ := R1.formN (n := p.n) rfl
  obtain ⟨p2, r2, rfl, _, _⟩ := R2.formN hV.pl
  obtain ⟨b3, o3, q, rfl, kc⟩ := conj_at hV R3 (i := lt0 xs (t + 1)) q4
  obtain ⟨a4, z4, k4, kc4⟩ := kc
  obtain ⟨i, hi⟩ : ∃ i, lt0 xs (t + 1) = i := ⟨_, rfl⟩
  obtain ⟨j, hj⟩ : ∃ j, lt0 xs t = j := ⟨_, rfl⟩
  have hL2 : Hid (stepD p xs t = xs.take t ++ [(i : Int) + 1] ++ nwL (p.C i j) ++ xs.drop (t + 2)) := by show _ = _; unfold stepD; rw [q3, hi, hj, cat4']; simp
  rw [hi] at q3 q4 d1 k4 kc4
  rw [hj] at q1 q2 d1 d2
  obtain ⟨k, hk⟩ : ∃ k, j = i + 1 + k := ⟨j - i - 1, by omega⟩
  obtain ⟨b4, o4, rfl, a5, z5, k5, R5⟩ := kc4 k (by omega)
  rw [← hk] at R5
  have SM := (hV.valid.cj i j (by omega) (by omega)).sm hV
  have hnl := nwL_len SM
  rw [q1] at hct0
  rw [q3] at hct1
  have g0 := below_alloc w (Obj.cells #[Value.slice p1 p.n r1, Value.slice p2 p.n r2, Value.slice (some ⟨b3, o3, none⟩) p.n q] 32)
  have x0 := Bx.new w (Value.slice p1 p.n r1) (Value.slice p2 p.n r2) (Value.slice (some ⟨b3, o3, none⟩) p.n q)
  have D1 : decide ((t : Int) + 1 < (xs.length : Int)) = true := by simp; omega
  have L1 : (t : Int) + 1 < (xs.length : Int) := by omega
  have D2 : decide ((i : Int) + 1 < (j : Int) + 1) = true := by simp; omega
  have D3 : decide ((j : Int) + 1 > (i : Int) + 1) = true := by simp; omega
  have W1 : IntKind.i64.wrap ((j : Int) + 1 - 1) = (j : Int) := by rw [IntWalk.i64_in _ (by omega)]; omega
  have W2 : IntKind.i64.wrap ((i : Int) + 1 - 1) = (i : Int) := by rw [IntWalk.i64_in _ (by omega)]; omega
  have HK := Lib.hid hk
  have HSM := Lib.hid SM
  have HR5 := Lib.hid R5
  have K4 := Lib.hid k4
  have K5 := Lib.hid k5
  have CT0 := Lib.hid hct0
  have CT1 := Lib.hid hct1
  have hci : (i : Int) < (p.n : Int) := by omega
  have hck : (k : Int) < ((p.n - (i + 1) : Nat) : Int) := by omega
  have hk0 : (0 : Int) ≤ (k : Int) := by omega
  have hcz : ¬ cap = 0 := by omega
  have hkj : (i : Int) + 1 + k = (j : Int) := by omega
  have HKJ := Lib.hid hkj
  have HLT : Hid ((xs.take t).length = t) := by show _ = _; rw [List.length_take]; omega
  clear hkj q1 q3 hk kc4 hi hj SM R1 R2 R3 hV hw hd hv R5 k4 k5 hct0 hct1
  go_enter Try.func165, Try.ntmps165
  go_wp2_with fail
  refine (s_l01Own _ (xs.take t) _ (HP.out.below g0) (by rw [HLT.out]; omega)).mono ?_
  rintro e w1 ⟨u1, rfl, hI1, hB1⟩
  have g1 := below_size g0 hB1
  have x1 := x0.below hB1 x0.lt
  obtain ⟨a6, c6, rfl, _, _⟩ := hI1.rd.formN HLT.out
  have hct0 := below_cells g1 _ _ CT0.out
  have hct1 := below_cells g1 _ _ CT1.out
  have hI2 : Ints w1 (w.heap.size + 1) _ _ := hI1.mono (by simp)
  clear hI1 hB1 g0 x0
  go_wp2_with fail
  go_quiet (fail)
  clear D1 D2 D3
  obtain ⟨w2, HW2⟩ : ∃ w2, Hid (w1.drewN nq = w2) := ⟨_, rfl⟩
  rw [HW2.out]
  have B2 : Below w1.heap.size w1 w2 := by rw [← HW2.out]; exact below_drewN (Below.refl _ _) _
  have hct2 := below_cells B2 _ _ hct0
  have hct3 := below_cells B2 _ _ hct1
  have hI3 := hI2.below B2
  have x2 := x1.below B2 x1.lt
  have g2 := below_size g1 B2
  clear hct0 hct1 HW2 B2 hI2 x1 g1
  go_wp2_with fail
  go_quiet (fail)
  clear W0 W1 W2 hct2 hct3
  obtain ⟨w3, HW3⟩ : ∃ w3, Hid (w2.drewN nq = w3) := ⟨_, rfl⟩
  rw [HW3.out]
  have B3 : Below w2.heap.size w2 w3 := by rw [← HW3.out]; exact below_drewN (Below.refl _ _) _
  have hI4 := hI3.below B3
  have x3 := x2.below B3 x2.lt
  have g3 := below_size g2 B3
  clear HW3 B3 hI3 x2 g2
  go_wp2_with (at_builtin; refine wp_app1 _ rfl _ _ rfl (w.heap.size + 1) i0 Try.underlying22 hi0 hz0 hz1 hz2 _ _ rfl hI4 ((i : Int) + 1) rfl (by rw [HLT.out]; omega) x3.lt ?_)
  intro u4 w4 hI5 hG4 hB4
  have x4 := x3.below hB4 (by omega)
  have g4 : Below w.heap.size w w4 := g3.trans (hB4.mono (by omega))
  obtain ⟨A1, HA1⟩ : ∃ A1, Hid (xs.take t ++ [(i : Int) + 1] = A1) := ⟨_, rfl⟩
  have HL1 : Hid (A1.length = t + 1) := by show _ = _; rw [← HA1.out, List.length_append, HLT.out]; rfl
  rw [HA1.out] at hI5
  obtain ⟨a7, c7, rfl, _, _⟩ := hI5.rd.formN HL1.out
  have m2 := x4.c2
  have k4 := below_cells g4 _ _ K4.out
  have HKK : Hid (k = j - i - 1) := by show _ = _; have := HK.out; omega
  have k5 := below_cells g4 _ _ K5.out
  rw [HKK.out] at k5
  have hji : j - i - 1 < p.n - (i + 1) := by omega
  have RR := HR5.out.below g4
  clear hI4 x3 g3 hG4 hB4
  go_wp2_with fail
  refine (s_l07Word _ (p.C i j) _ RR HSM.out).mono ?_
  rintro e w5 ⟨u5, rfl, hI6, hB5⟩
  have hI7 := hI5.below hB5
  have x5 := x4.below hB5 x4.lt
  have g5 := below_size g4 hB5
  obtain ⟨a8, c8, rfl, _, _⟩ := hI6.rd.form
  have HR6 := hI6.rd
  clear hI5 x4 g4 hB5 hI6 m2 k4 k5 RR
  go_wp2_with (at_builtin; refine wp_appN _ rfl _ _ rfl (w.heap.size + 1) i0 Try.underlying22 hi0 hz0 hz1 hz2 _ _ rfl hI7 _ (nwL (p.C i j)) rfl HR6 (by rw [HL1.out]; omega) (by omega) x5.lt ?_)
  intro u6 w6 hI8 hG6 hB6
  have g6 : Below w.heap.size w w6 := g5.trans (hB6.mono (by omega))
  have x6 := x5.below hB6 (by omega)
  obtain ⟨A2, HA2⟩ : ∃ A2, Hid (A1 ++ nwL (p.C i j) = A2) := ⟨_, rfl⟩
  have HL3 : Hid (A2.length ≤ t + 101) := by show _ ≤ _; rw [← HA2.out, List.length_append, HL1.out]; omega
  rw [HA2.out] at hI8
  obtain ⟨N, HN⟩ : ∃ N, Hid (A2.length = N) := ⟨_, rfl⟩
  have hN : N ≤ t + 101 := by rw [← HN.out]; exact HL3.out
  obtain ⟨a9, c9, rfl, _, _⟩ := hI8.rd.formN HN.out
  obtain ⟨a', ha', hsuf⟩ := (HV.out.below g6).cutL (t + 2) (by omega)
  have hl6 := x6.lt
  clear hI7 HR6 g5 x5 hG6 hB6 x6
  by_cases hct4 : cap = t + 2
  · rw [if_pos hct4] at ha'
    subst ha'
    subst hct4
    have HSUF := Lib.hid hsuf
    clear hsuf
    go_wp2_with (at_builtin; (refine wp_appN _ rfl _ _ rfl (w.heap.size + 1) i0 Try.underlying22 hi0 hz0 hz1 hz2 _ _ rfl hI8 _ (xs.drop (t + 2)) rfl HSUF.out (by rw [HN.out]; omega) (by rw [List.length_drop]; omega) hl6 ?_))
    intro u7 w7 hI9 hG7 hB7
    have hfi : Ints w7 w.heap.size u7 (stepL p xs t) := by rw [hL.out, hL2.out, HA1.out, HA2.out]; exact hI9.mono (by omega)
    have hfb : Below w.heap.size w w7 := g6.trans (hB7.mono (by omega))
    obtain ⟨a3, c3, rfl, _, _⟩ := hfi.form
    clear hI9 hG7 hB7 g6 hI8
    go_wp2_with fail
    go_ret
    exact ⟨_, rfl, hfi, hfb⟩
  · rw [if_neg hct4] at ha'
    simp only [Option.map_some, Addr.add_lit] at ha'
    subst ha'
    have HSUF := Lib.hid hsuf
    clear hsuf
    go_wp2_with (at_builtin; refine wp_appN _ rfl _ _ rfl (w.heap.size + 1) i0 Try.underlying22 hi0 hz0 hz1 hz2 _ _ rfl hI8 _ (xs.drop (t + 2)) rfl HSUF.out (by rw [HN.out]; omega) (by rw [List.length_drop]; omega) hl6 ?_)
    intro u7 w7 hI9 hG7 hB7
    have hfi : Ints w7 w.heap.size u7 (stepL p xs t) := by rw [hL.out, hL2.out, HA1.out, HA2.out]; exact hI9.mono (by omega)
    have hfb : Below w.heap.size w w7 := g6.trans (hB7.mono (by omega))
    obtain ⟨a3, c3, rfl, _, _⟩ := hfi.form
    clear hI9 hG7 hB7 g6 hI8
    go_wp2_with fail
    go_ret
    exact ⟨_, rfl, hfi, hfb⟩
set_option maxHeartbeats 16000000 in
theorem s_l09Step_r (v1 v2 v3 v : Value) (p : Pres) (xs : List Int) (t : Nat) (w : World) (hV : ValidP p) (hp : RdP w v1 v2 v3 p) (hv : Rd w v xs) (ht : t < xs.length) (hw : PosW p.n xs) (hr : redB p.orders xs t = true) (hd : descB xs t = false) (hx : xs.length ≤ 100000) :
    Calls Try.prog 165 #[.agg #[v1, v2, v3], v, .int .i64 t] w (RetInts w (stepL p xs t)) := by
  obtain ⟨i0, hi0, hz0, hz1, hz2⟩ := info_parts Try.info2
  have hn6 := hV.n6
  obtain ⟨q1, q2⟩ := hw.lt ht
  have hn : 0 < p.n := by omega
  have hrun := red_run ht hV hw hr hd
  obtain ⟨R1, R2, R3⟩ := hp
  obtain ⟨ao, cap, rfl, hc1, hc2⟩ := hv.form
  obtain ⟨bw, ow, rfl, hct0⟩ := hv.at ht
  have HV := Lib.hid hv
  have HP := Lib.hid (hv.preL t (by omega))
  have W0 : IntKind.i64.wrap ((t : Int) + 1) = (t : Int) + 1 := IntWalk.i64_in _ (by omega)
  obtain ⟨bo, oo, qo, rfl, hOA⟩ := ord_at R1 hn
  obtain ⟨bp, op, qp, rfl, hPA⟩ := pow_at hV R2 hn
  obtain ⟨p3, q3, rfl, _, _⟩ := R3.formN hV.cl
  have hL := Lib.hid (stepL_r (p := p) hd)
  obtain ⟨j, hj⟩ : ∃ j, lt0 xs t = j := ⟨_, rfl⟩
  obtain ⟨m, hm, hm7⟩ : ∃ m : Nat, p.r j = (m : Int) ∧ 2 ≤ m ∧ m ≤ 7 := ⟨(p.r j).toNat, by have := hV.rk j (by omega); omega, by have := hV.rk j (by omega); omega⟩
  have hL2 : Hid (stepR p xs t = xs.take t ++ nwL (p.P j) ++ xs.drop (t + m)) := by show _ = _; unfold stepR; rw [hj, hm, cat3]; simp
  rw [hj, hm] at hrun
  rw [hj] at q1 q2
  have hrun2 : t + m ≤ xs.length := by have : ((m : Int)).toNat = m := rfl; omega
  have k1 := hOA j q2
  rw [hm] at k1
  obtain ⟨a5, z5, k5, R5⟩ := hPA j q2
  have SM := (hV.valid.pow j q2).sm hV
  have hnl := nwL_len SM
  rw [q1] at hct0
  have HSM := Lib.hid SM
  have HR5 := Lib.hid R5
  have K1 := Lib.hid k1
  have K5 := Lib.hid k5
  have CT0 := Lib.hid hct0
  have g0 := below_alloc w (Obj.cells #[Value.slice (some ⟨bo, oo, none⟩) p.n qo, Value.slice (some ⟨bp, op, none⟩) p.n qp, Value.slice p3 p.n q3] 32)
  have x0 := Bx.new w (Value.slice (some ⟨bo, oo, none⟩) p.n qo) (Value.slice (some ⟨bp, op, none⟩) p.n qp) (Value.slice p3 p.n q3)
  have h1 : t + 1 < xs.length := by omega
  have h2 : ¬ xs.getD (t + 1) 0 < xs.getD t 0 := fun h => by have := descB_iff.2 ⟨h1, h⟩; rw [hd] at this; cases this
  rw [q1] at h2
  obtain ⟨_, _, he, hct1⟩ := hv.at h1
  cases he
  obtain ⟨x, Hx⟩ := named (xs.getD (t + 1) 0)
  rw [Hx.out] at h2 hct1
  have CT1 := Lib.hid hct1
  have D1 : decide ((t : Int) + 1 < (xs.length : Int)) = true := by simp; omega
  have L1 : (t : Int) + 1 < (xs.length : Int) := by omega
  have D2 : decide (x < (j : Int) + 1) = false := by simpa using h2
  have D3 : decide ((j : Int) + 1 > x) = false := by simpa using h2
  have hcz : ¬ cap = 0 := by omega
  have HLT : Hid ((xs.take t).length = t) := by show _ = _; rw [List.length_take]; omega
  clear q1 hd hw hv h2 hj hm hrun hOA hPA SM R1 R2 R3 hV hr R5 k1 k5 hct0 hct1
  go_enter Try.func165, Try.ntmps165
  go_wp2_with fail
  refine (s_l01Own _ (xs.take t) _ (HP.out.below g0) (by rw [HLT.out]; omega)).mono ?_
  rintro e w1 ⟨u1, rfl, hI1, hB1⟩
  have g1 := below_size g0 hB1
  have x1 := x0.below hB1 x0.lt
  obtain ⟨a6, c6, rfl, _, _⟩ := hI1.rd.formN HLT.out
  have hct0 := below_cells g1 _ _ CT0.out
  have hct1 := below_cells g1 _ _ CT1.out
  have hI2 : Ints w1 (w.heap.size + 1) _ _ := hI1.mono (by simp)
  clear hI1 hB1 g0 x0
  go_wp2_with fail
  go_quiet (fail)
  clear D1 D2 D3
  obtain ⟨w3, HW2⟩ : ∃ w2, Hid (w1.drewN nq = w2) := ⟨_, rfl⟩
  rw [HW2.out]
  have B2 : Below w1.heap.size w1 w3 := by rw [← HW2.out]; exact below_drewN (Below.refl _ _) _
  have hct2 := below_cells B2 _ _ hct0
  have hI5 := hI2.below B2
  have x4 := x1.below B2 x1.lt
  have g4 := below_size g1 B2
  clear hct0 hct1 HW2 B2 hI2 x1 g1 W0
  have m1 := x4.c1
  have k5 := below_cells g4 _ _ K5.out
  have RR := HR5.out.below g4
  go_wp2_with fail
  refine (s_l07Word _ (p.P j) _ RR HSM.out).mono ?_
  rintro e w5 ⟨u5, rfl, hI6, hB5⟩
  have hI7 := hI5.below hB5
  have x5 := x4.below hB5 x4.lt
  have g5 := below_size g4 hB5
  obtain ⟨a8, c8, rfl, _, _⟩ := hI6.rd.form
  have HR6 := hI6.rd
  clear hI5 x4 g4 hB5 hI6 m1 k5 RR hct2
  go_wp2_with (at_builtin; refine wp_appN _ rfl _ _ rfl (w.heap.size + 1) i0 Try.underlying22 hi0 hz0 hz1 hz2 _ _ rfl hI7 _ (nwL (p.P j)) rfl HR6 (by rw [HLT.out]; omega) (by omega) x5.lt ?_)
  intro u6 w6 hI8 hG6 hB6
  have g6 : Below w.heap.size w w6 := g5.trans (hB6.mono (by omega))
  have x6 := x5.below hB6 (by omega)
  obtain ⟨A2, HA2⟩ : ∃ A2, Hid (xs.take t ++ nwL (p.P j) = A2) := ⟨_, rfl⟩
  have HL3 : Hid (A2.length ≤ t + 101) := by show _ ≤ _; rw [← HA2.out, List.length_append, HLT.out]; omega
  rw [HA2.out] at hI8
  obtain ⟨N, HN⟩ : ∃ N, Hid (A2.length = N) := ⟨_, rfl⟩
  have hN : N ≤ t + 101 := by rw [← HN.out]; exact HL3.out
  obtain ⟨a9, c9, rfl, _, _⟩ := hI8.rd.formN HN.out
  obtain ⟨a', ha', hsuf⟩ := (HV.out.below g6).cutL (t + m) (by omega)
  have hl6 := x6.lt
  have m0 := x6.c0
  have k1 := below_cells g6 _ _ K1.out
  clear hI7 HR6 g5 x5 hG6 hB6 x6
  by_cases hct4 : cap = t + m
  · rw [if_pos hct4] at ha'
    subst ha'
    subst hct4
    have HSUF := Lib.hid hsuf
    clear hsuf
    go_wp2_with (at_builtin; refine wp_appN _ rfl _ _ rfl (w.heap.size + 1) i0 Try.underlying22 hi0 hz0 hz1 hz2 _ _ rfl hI8 _ (xs.drop (t + m)) rfl HSUF.out (by rw [HN.out]; omega) (by rw [List.length_drop]; omega) hl6 ?_)
    intro u7 w7 hI9 hG7 hB7
    have hfi : Ints w7 w.heap.size u7 (stepL p xs t) := by rw [hL.out, hL2.out, HA2.out]; exact hI9.mono (by omega)
    have hfb : Below w.heap.size w w7 := g6.trans (hB7.mono (by omega))
    obtain ⟨a3, c3, rfl, _, _⟩ := hfi.form
    clear hI9 hG7 hB7 g6 hI8
    go_wp2_with fail
    go_ret
    exact ⟨_, rfl, hfi, hfb⟩
  · rw [if_neg hct4] at ha'
    simp only [Option.map_some, Addr.add_lit] at ha'
    subst ha'
    have HSUF := Lib.hid hsuf
    clear hsuf
    go_wp2_with (at_builtin; refine wp_appN _ rfl _ _ rfl (w.heap.size + 1) i0 Try.underlying22 hi0 hz0 hz1 hz2 _ _ rfl hI8 _ (xs.drop (t + m)) rfl HSUF.out (by rw [HN.out]; omega) (by rw [List.length_drop]; omega) hl6 ?_)
    intro u7 w7 hI9 hG7 hB7
    have hfi : Ints w7 w.heap.size u7 (stepL p xs t) := by rw [hL.out, hL2.out, HA2.out]; exact hI9.mono (by omega)
    have hfb : Below w.heap.size w w7 := g6.trans (hB7.mono (by omega))
    obtain ⟨a3, c3, rfl, _, _⟩ := hfi.form
    clear hI9 hG7 hB7 g6 hI8
    go_wp2_with fail
    go_ret
    exact ⟨_, rfl, hfi, hfb⟩
theorem s_l09Step (v1 v2 v3 v : Value) (p : Pres) (xs : List Int) (t : Nat) (w : World) (hV : ValidP p) (hp : RdP w v1 v2 v3 p) (hv : Rd w v xs) (ht : t < xs.length) (hw : PosW p.n xs) (hr : redB p.orders xs t = true) (hx : xs.length ≤ 100000) :
    Calls Try.prog 165 #[.agg #[v1, v2, v3], v, .int .i64 t] w (RetInts w (stepL p xs t)) := by
  cases hd : descB xs t with
  | true => exact s_l09Step_d v1 v2 v3 v p xs t w hV hp hv ht hw hd hx
  | false => exact s_l09Step_r v1 v2 v3 v p xs t w hV hp hv ht hw hr hd hx
end Go.Proofs.Ythnpndheaailjaa
