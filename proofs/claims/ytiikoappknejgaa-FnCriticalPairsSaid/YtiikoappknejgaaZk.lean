/-
  Steps of a collection: the walk of l09Step.
  CollectStep.
  Collections: collect, l07Vector, l09Collect.
  Critical pairs: the closures of the program, one pair of the reference.
  Critical pairs: a word of equal letters, one pair of the reference.
  Critical pairs: all of them, by the reference. (Printed by mkcre.py.)
-/
import Derived.Test.YtiikoappknejgaaZj
import Derived.Test.YtiikoappknejgaaZd
import Derived.Test.YtiikoappknejgaaZc
import Derived.Test.YtiikoappknejgaaZe
import Derived.Deep.DeepCutAuto
import Derived.Deep.DrawnRows
namespace Go.Proofs.Ytiikoappknejgaa
set_option linter.unusedVariables false
set_option linter.unusedSimpArgs false
set_option maxRecDepth 100000
open Go.RowKit

--== spec.l09Step
set_option maxHeartbeats 16000000 in
theorem s_l09Step_d (v1 v2 v3 v : Value) (p : Pres) (xs : List Int) (t : Nat) (w : World) (hV : ValidP p) (hp : RdP w v1 v2 v3 p) (hv : Rd w v xs) (ht : t < xs.length) (hw : PosW p.n xs) (hd : descB xs t = true) (hx : xs.length ≤ 100000) :
    Calls Try.prog 55 #[.agg #[v1, v2, v3], v, .int .i64 t] w (RetInts w (stepL p xs t)) := by
  obtain ⟨i0, hi0, hz0, hz1, hz2⟩ := info_parts Try.info2
  have hn6 := hV.n6
  obtain ⟨q1, q2⟩ := hw.lt ht
  have hn : 0 < p.n := by omega
  obtain ⟨R1, R2, R3⟩ := hp
  obtain ⟨ao, cap, rfl, hc1, hc2⟩ := hv.form
  obtain ⟨bw, ow, rfl, hct0⟩ := hv.at ht
  have HV := Lib.hid hv
  have HP := Lib.hid (hv.preL t (by omega))
  have W0 : IntKind.i64.wrap ((t : Int) + 1) = (t : Int) + 1 := IntWalk.i64_in _ (by omega)
  obtain ⟨h1, h2⟩ := descB_iff.1 hd
  have hL := Lib.hid (stepL_d (p := p) hd)
  obtain ⟨q3, q4⟩ := hw.lt h1
  obtain ⟨d1, d2⟩ := desc_at hw hd
  obtain ⟨_, _, he, hct1⟩ := hv.at h1
  cases he
  obtain ⟨p1, r1, rfl, _, _⟩ := R1.formN (n := p.n) rfl
  obtain ⟨p2, r2, rfl, _, _⟩ := R2.formN hV.pl
  obtain ⟨b3, o3, q, rfl, kc⟩ := conj_at hV R3 (i := lt0 xs (t + 1)) q4
  obtain ⟨a4, z4, k4, kc4⟩ := kc
  obtain ⟨i, hi⟩ : ∃ i, lt0 xs (t + 1) = i := ⟨_, rfl⟩
  obtain ⟨j, hj⟩ : ∃ j, lt0 xs t = j := ⟨_, rfl⟩
  have hL2 : Hid (stepD p xs t = xs.take t ++ [(i : Int) + 1] ++ nwL (p.C i j) ++ xs.drop (t + 2)) := by show _ = _; unfold stepD; rw [q3, hi, hj, cat4']; simp
  rw [hi] at q3 q4 d1 k4 kc4
  rw [hj] at q1 q2 d1 d2
  obtain ⟨k, hk⟩ : ∃ k, j = i + 1 + k := ⟨j - i - 1, by omega⟩
  obtain ⟨b4, o4, rfl, a5, z5, k5, R5⟩ := kc4 k (by omega)
  rw [← hk] at R5
  have SM := (hV.valid.cj i j (by omega) (by omega)).sm hV
  have hnl := nwL_len SM
  rw [q1] at hct0
  rw [q3] at hct1
  have g0 := below_alloc w (Obj.cells #[Value.slice p1 p.n r1, Value.slice p2 p.n r2, Value.slice (some ⟨b3, o3, none⟩) p.n q] 28)
  have x0 := Bx.new w (Value.slice p1 p.n r1) (Value.slice p2 p.n r2) (Value.slice (some ⟨b3, o3, none⟩) p.n q)
  have D1 : decide ((t : Int) + 1 < (xs.length : Int)) = true := by simp; omega
  have L1 : (t : Int) + 1 < (xs.length : Int) := by omega
  have D2 : decide ((i : Int) + 1 < (j : Int) + 1) = true := by simp; omega
  have D3 : decide ((j : Int) + 1 > (i : Int) + 1) = true := by simp; omega
  have W1 : IntKind.i64.wrap ((j : Int) + 1 - 1) = (j : Int) := by rw [IntWalk.i64_in _ (by omega)]; omega
  have W2 : IntKind.i64.wrap ((i : Int) + 1 - 1) = (i : Int) := by rw [IntWalk.i64_in _ (by omega)]; omega
  have HK := Lib.hid hk
  have HSM := Lib.hid SM
  have HR5 := Lib.hid R5
  have K4 := Lib.hid k4
  have K5 := Lib.hid k5
  have CT0 := Lib.hid hct0
  have CT1 := Lib.hid hct1
  have hci : (i : Int) < (p.n : Int) := by omega
  have hck : (k : Int) < ((p.n - (i + 1) : Nat) : Int) := by omega
  have hk0 : (0 : Int) ≤ (k : Int) := by omega
  have hcz : ¬ cap = 0 := by omega
  have hkj : (i : Int) + 1 + k = (j : Int) := by omega
  have HKJ := Lib.hid hkj
  have HLT : Hid ((xs.take t).length = t) := by show _ = _; rw [List.length_take]; omega
  clear hkj q1 q3 hk kc4 hi hj SM R1 R2 R3 hV hw hd hv R5 k4 k5 hct0 hct1
  go_enter Try.func55, Try.ntmps55
  go_wp2_with fail
  refine (s_l01Own _ (xs.take t) _ (HP.out.below g0) (by rw [HLT.out]; omega)).mono ?_
  rintro e w1 ⟨u1, rfl, hI1, hB1⟩
  have g1 := below_size g0 hB1
  have x1 := x0.below hB1 x0.lt
  obtain ⟨a6, c6, rfl, _, _⟩ := hI1.rd.formN HLT.out
  have hct0 := below_cells g1 _ _ CT0.out
  have hct1 := below_cells g1 _ _ CT1.out
  have hI2 : Ints w1 (w.heap.size + 1) _ _ := hI1.mono (by simp)
  clear hI1 hB1 g0 x0
  go_wp2_with fail
  go_quiet (fail)
  clear D1 D2 D3
  obtain ⟨w2, HW2⟩ : ∃ w2, Hid (w1.drewN nq = w2) := ⟨_, rfl⟩
  rw [HW2.out]
  have B2 : Below w1.heap.size w1 w2 := by rw [← HW2.out]; exact below_drewN (Below.refl _ _) _
  have hct2 := below_cells B2 _ _ hct0
  have hct3 := below_cells B2 _ _ hct1
  have hI3 := hI2.below B2
  have x2 := x1.below B2 x1.lt
  have g2 := below_size g1 B2
  clear hct0 hct1 HW2 B2 hI2 x1 g1
  go_wp2_with fail
  go_quiet (fail)
  clear W0 W1 W2 hct2 hct3
  obtain ⟨w3, HW3⟩ : ∃ w3, Hid (w2.drewN nq = w3) := ⟨_, rfl⟩
  rw [HW3.out]
  have B3 : Below w2.heap.size w2 w3 := by rw [← HW3.out]; exact below_drewN (Below.refl _ _) _
  have hI4 := hI3.below B3
  have x3 := x2.below B3 x2.lt
  have g3 := below_size g2 B3
  clear HW3 B3 hI3 x2 g2
  go_wp2_with (at_builtin; refine wp_app1 _ rfl _ _ rfl (w.heap.size + 1) i0 Try.underlying24 hi0 hz0 hz1 hz2 _ _ rfl hI4 ((i : Int) + 1) rfl (by rw [HLT.out]; omega) x3.lt ?_)
  intro u4 w4 hI5 hG4 hB4
  have x4 := x3.below hB4 (by omega)
  have g4 : Below w.heap.size w w4 := g3.trans (hB4.mono (by omega))
  obtain ⟨A1, HA1⟩ : ∃ A1, Hid (xs.take t ++ [(i : Int) + 1] = A1) := ⟨_, rfl⟩
  have HL1 : Hid (A1.length = t + 1) := by show _ = _; rw [← HA1.out, List.length_append, HLT.out]; rfl
  rw [HA1.out] at hI5
  obtain ⟨a7, c7, rfl, _, _⟩ := hI5.rd.formN HL1.out
  have m2 := x4.c2
  have k4 := below_cells g4 _ _ K4.out
  have HKK : Hid (k = j - i - 1) := by show _ = _; have := HK.out; omega
  have k5 := below_cells g4 _ _ K5.out
  rw [HKK.out] at k5
  have hji : j - i - 1 < p.n - (i + 1) := by omega
  have RR := HR5.out.below g4
  clear hI4 x3 g3 hG4 hB4
  go_wp2_with fail
  refine (s_l07Word _ (p.C i j) _ RR HSM.out).mono ?_
  rintro e w5 ⟨u5, rfl, hI6, hB5⟩
  have hI7 := hI5.below hB5
  have x5 := x4.below hB5 x4.lt
  have g5 := below_size g4 hB5
  obtain ⟨a8, c8, rfl, _, _⟩ := hI6.rd.form
  have HR6 := hI6.rd
  clear hI5 x4 g4 hB5 hI6 m2 k4 k5 RR
  go_wp2_with (at_builtin; refine wp_appN _ rfl _ _ rfl (w.heap.size + 1) i0 Try.underlying24 hi0 hz0 hz1 hz2 _ _ rfl hI7 _ (nwL (p.C i j)) rfl HR6 (by rw [HL1.out]; omega) (by omega) x5.lt ?_)
  intro u6 w6 hI8 hG6 hB6
  have g6 : Below w.heap.size w w6 := g5.trans (hB6.mono (by omega))
  have x6 := x5.below hB6 (by omega)
  obtain ⟨A2, HA2⟩ : ∃ A2, Hid (A1 ++ nwL (p.C i j) = A2) := ⟨_, rfl⟩
  have HL3 : Hid (A2.length ≤ t + 101) := by show _ ≤ _; rw [← HA2.out, List.length_append, HL1.out]; omega
  rw [HA2.out] at hI8
  obtain ⟨N, HN⟩ : ∃ N, Hid (A2.length = N) := ⟨_, rfl⟩
  have hN : N ≤ t + 101 := by rw [← HN.out]; exact HL3.out
  obtain ⟨a9, c9, rfl, _, _⟩ := hI8.rd.formN HN.out
  obtain ⟨a', ha', hsuf⟩ := (HV.out.below g6).cutL (t + 2) (by omega)
  have hl6 := x6.lt
  clear hI7 HR6 g5 x5 hG6 hB6 x6
  by_cases hct4 : cap = t + 2
  · rw [if_pos hct4] at ha'
    subst ha'
    subst hct4
    have HSUF := Lib.hid hsuf
    clear hsuf
    go_wp2_with (at_builtin; (refine wp_appN _ rfl _ _ rfl (w.heap.size + 1) i0 Try.underlying24 hi0 hz0 hz1 hz2 _ _ rfl hI8 _ (xs.drop (t + 2)) rfl HSUF.out (by rw [HN.out]; omega) (by rw [List.length_drop]; omega) hl6 ?_))
    intro u7 w7 hI9 hG7 hB7
    have hfi : Ints w7 w.heap.size u7 (stepL p xs t) := by rw [hL.out, hL2.out, HA1.out, HA2.out]; exact hI9.mono (by omega)
    have hfb : Below w.heap.size w w7 := g6.trans (hB7.mono (by omega))
    obtain ⟨a3, c3, rfl, _, _⟩ := hfi.form
    clear hI9 hG7 hB7 g6 hI8
    go_wp2_with fail
    go_ret
    exact ⟨_, rfl, hfi, hfb⟩
  · rw [if_neg hct4] at ha'
    simp only [Option.map_some, Addr.add_lit] at ha'
    subst ha'
    have HSUF := Lib.hid hsuf
    clear hsuf
    go_wp2_with (at_builtin; refine wp_appN _ rfl _ _ rfl (w.heap.size + 1) i0 Try.underlying24 hi0 hz0 hz1 hz2 _ _ rfl hI8 _ (xs.drop (t + 2)) rfl HSUF.out (by rw [HN.out]; omega) (by rw [List.length_drop]; omega) hl6 ?_)
    intro u7 w7 hI9 hG7 hB7
    have hfi : Ints w7 w.heap.size u7 (stepL p xs t) := by rw [hL.out, hL2.out, HA1.out, HA2.out]; exact hI9.mono (by omega)
    have hfb : Below w.heap.size w w7 := g6.trans (hB7.mono (by omega))
    obtain ⟨a3, c3, rfl, _, _⟩ := hfi.form
    clear hI9 hG7 hB7 g6 hI8
    go_wp2_with fail
    go_ret
    exact ⟨_, rfl, hfi, hfb⟩
set_option maxHeartbeats 16000000 in
theorem s_l09Step_r (v1 v2 v3 v : Value) (p : Pres) (xs : List Int) (t : Nat) (w : World) (hV : ValidP p) (hp : RdP w v1 v2 v3 p) (hv : Rd w v xs) (ht : t < xs.length) (hw : PosW p.n xs) (hr : redB p.orders xs t = true) (hd : descB xs t = false) (hx : xs.length ≤ 100000) :
    Calls Try.prog 55 #[.agg #[v1, v2, v3], v, .int .i64 t] w (RetInts w (stepL p xs t)) := by
  obtain ⟨i0, hi0, hz0, hz1, hz2⟩ := info_parts Try.info2
  have hn6 := hV.n6
  obtain ⟨q1, q2⟩ := hw.lt ht
  have hn : 0 < p.n := by omega
  have hrun := red_run ht hV hw hr hd
  obtain ⟨R1, R2, R3⟩ := hp
  obtain ⟨ao, cap, rfl, hc1, hc2⟩ := hv.form
  obtain ⟨bw, ow, rfl, hct0⟩ := hv.at ht
  have HV := Lib.hid hv
  have HP := Lib.hid (hv.preL t (by omega))
  have W0 : IntKind.i64.wrap ((t : Int) + 1) = (t : Int) + 1 := IntWalk.i64_in _ (by omega)
  obtain ⟨bo, oo, qo, rfl, hOA⟩ := ord_at R1 hn
  obtain ⟨bp, op, qp, rfl, hPA⟩ := pow_at hV R2 hn
  obtain ⟨p3, q3, rfl, _, _⟩ := R3.formN hV.cl
  have hL := Lib.hid (stepL_r (p := p) hd)
  obtain ⟨j, hj⟩ : ∃ j, lt0 xs t = j := ⟨_, rfl⟩
  obtain ⟨m, hm, hm7⟩ : ∃ m : Nat, p.r j = (m : Int) ∧ 2 ≤ m ∧ m ≤ 7 := ⟨(p.r j).toNat, by have := hV.rk j (by omega); omega, by have := hV.rk j (by omega); omega⟩
  have hL2 : Hid (stepR p xs t = xs.take t ++ nwL (p.P j) ++ xs.drop (t + m)) := by show _ = _; unfold stepR; rw [hj, hm, cat3]; simp
  rw [hj, hm] at hrun
  rw [hj] at q1 q2
  have hrun2 : t + m ≤ xs.length := by have : ((m : Int)).toNat = m := rfl; omega
  have k1 := hOA j q2
  rw [hm] at k1
  obtain ⟨a5, z5, k5, R5⟩ := hPA j q2
  have SM := (hV.valid.pow j q2).sm hV
  have hnl := nwL_len SM
  rw [q1] at hct0
  have HSM := Lib.hid SM
  have HR5 := Lib.hid R5
  have K1 := Lib.hid k1
  have K5 := Lib.hid k5
  have CT0 := Lib.hid hct0
  have g0 := below_alloc w (Obj.cells #[Value.slice (some ⟨bo, oo, none⟩) p.n qo, Value.slice (some ⟨bp, op, none⟩) p.n qp, Value.slice p3 p.n q3] 28)
  have x0 := Bx.new w (Value.slice (some ⟨bo, oo, none⟩) p.n qo) (Value.slice (some ⟨bp, op, none⟩) p.n qp) (Value.slice p3 p.n q3)
  have h1 : t + 1 < xs.length := by omega
  have h2 : ¬ xs.getD (t + 1) 0 < xs.getD t 0 := fun h => by have := descB_iff.2 ⟨h1, h⟩; rw [hd] at this; cases this
  rw [q1] at h2
  obtain ⟨_, _, he, hct1⟩ := hv.at h1
  cases he
  obtain ⟨x, Hx⟩ := named (xs.getD (t + 1) 0)
  rw [Hx.out] at h2 hct1
  have CT1 := Lib.hid hct1
  have D1 : decide ((t : Int) + 1 < (xs.length : Int)) = true := by simp; omega
  have L1 : (t : Int) + 1 < (xs.length : Int) := by omega
  have D2 : decide (x < (j : Int) + 1) = false := by simpa using h2
  have D3 : decide ((j : Int) + 1 > x) = false := by simpa using h2
  have hcz : ¬ cap = 0 := by omega
  have HLT : Hid ((xs.take t).length = t) := by show _ = _; rw [List.length_take]; omega
  clear q1 hd hw hv h2 hj hm hrun hOA hPA SM R1 R2 R3 hV hr R5 k1 k5 hct0 hct1
  go_enter Try.func55, Try.ntmps55
  go_wp2_with fail
  refine (s_l01Own _ (xs.take t) _ (HP.out.below g0) (by rw [HLT.out]; omega)).mono ?_
  rintro e w1 ⟨u1, rfl, hI1, hB1⟩
  have g1 := below_size g0 hB1
  have x1 := x0.below hB1 x0.lt
  obtain ⟨a6, c6, rfl, _, _⟩ := hI1.rd.formN HLT.out
  have hct0 := below_cells g1 _ _ CT0.out
  have hct1 := below_cells g1 _ _ CT1.out
  have hI2 : Ints w1 (w.heap.size + 1) _ _ := hI1.mono (by simp)
  clear hI1 hB1 g0 x0
  go_wp2_with fail
  go_quiet (fail)
  clear D1 D2 D3
  obtain ⟨w3, HW2⟩ : ∃ w2, Hid (w1.drewN nq = w2) := ⟨_, rfl⟩
  rw [HW2.out]
  have B2 : Below w1.heap.size w1 w3 := by rw [← HW2.out]; exact below_drewN (Below.refl _ _) _
  have hct2 := below_cells B2 _ _ hct0
  have hI5 := hI2.below B2
  have x4 := x1.below B2 x1.lt
  have g4 := below_size g1 B2
  clear hct0 hct1 HW2 B2 hI2 x1 g1 W0
  have m1 := x4.c1
  have k5 := below_cells g4 _ _ K5.out
  have RR := HR5.out.below g4
  go_wp2_with fail
  refine (s_l07Word _ (p.P j) _ RR HSM.out).mono ?_
  rintro e w5 ⟨u5, rfl, hI6, hB5⟩
  have hI7 := hI5.below hB5
  have x5 := x4.below hB5 x4.lt
  have g5 := below_size g4 hB5
  obtain ⟨a8, c8, rfl, _, _⟩ := hI6.rd.form
  have HR6 := hI6.rd
  clear hI5 x4 g4 hB5 hI6 m1 k5 RR hct2
  go_wp2_with (at_builtin; refine wp_appN _ rfl _ _ rfl (w.heap.size + 1) i0 Try.underlying24 hi0 hz0 hz1 hz2 _ _ rfl hI7 _ (nwL (p.P j)) rfl HR6 (by rw [HLT.out]; omega) (by omega) x5.lt ?_)
  intro u6 w6 hI8 hG6 hB6
  have g6 : Below w.heap.size w w6 := g5.trans (hB6.mono (by omega))
  have x6 := x5.below hB6 (by omega)
  obtain ⟨A2, HA2⟩ : ∃ A2, Hid (xs.take t ++ nwL (p.P j) = A2) := ⟨_, rfl⟩
  have HL3 : Hid (A2.length ≤ t + 101) := by show _ ≤ _; rw [← HA2.out, List.length_append, HLT.out]; omega
  rw [HA2.out] at hI8
  obtain ⟨N, HN⟩ : ∃ N, Hid (A2.length = N) := ⟨_, rfl⟩
  have hN : N ≤ t + 101 := by rw [← HN.out]; exact HL3.out
  obtain ⟨a9, c9, rfl, _, _⟩ := hI8.rd.formN HN.out
  obtain ⟨a', ha', hsuf⟩ := (HV.out.below g6).cutL (t + m) (by omega)
  have hl6 := x6.lt
  have m0 := x6.c0
  have k1 := below_cells g6 _ _ K1.out
  clear hI7 HR6 g5 x5 hG6 hB6 x6
  by_cases hct4 : cap = t + m
  · rw [if_pos hct4] at ha'
    subst ha'
    subst hct4
    have HSUF := Lib.hid hsuf
    clear hsuf
    go_wp2_with (at_builtin; refine wp_appN _ rfl _ _ rfl (w.heap.size + 1) i0 Try.underlying24 hi0 hz0 hz1 hz2 _ _ rfl hI8 _ (xs.drop (t + m)) rfl HSUF.out (by rw [HN.out]; omega) (by rw [List.length_drop]; omega) hl6 ?_)
    intro u7 w7 hI9 hG7 hB7
    have hfi : Ints w7 w.heap.size u7 (stepL p xs t) := by rw [hL.out, hL2.out, HA2.out]; exact hI9.mono (by omega)
    have hfb : Below w.heap.size w w7 := g6.trans (hB7.mono (by omega))
    obtain ⟨a3, c3, rfl, _, _⟩ := hfi.form
    clear hI9 hG7 hB7 g6 hI8
    go_wp2_with fail
    go_ret
    exact ⟨_, rfl, hfi, hfb⟩
  · rw [if_neg hct4] at ha'
    simp only [Option.map_some, Addr.add_lit] at ha'
    subst ha'
    have HSUF := Lib.hid hsuf
    clear hsuf
    go_wp2_with (at_builtin; refine wp_appN _ rfl _ _ rfl (w.heap.size + 1) i0 Try.underlying24 hi0 hz0 hz1 hz2 _ _ rfl hI8 _ (xs.drop (t + m)) rfl HSUF.out (by rw [HN.out]; omega) (by rw [List.length_drop]; omega) hl6 ?_)
    intro u7 w7 hI9 hG7 hB7
    have hfi : Ints w7 w.heap.size u7 (stepL p xs t) := by rw [hL.out, hL2.out, HA2.out]; exact hI9.mono (by omega)
    have hfb : Below w.heap.size w w7 := g6.trans (hB7.mono (by omega))
    obtain ⟨a3, c3, rfl, _, _⟩ := hfi.form
    clear hI9 hG7 hB7 g6 hI8
    go_wp2_with fail
    go_ret
    exact ⟨_, rfl, hfi, hfb⟩
theorem s_l09Step (v1 v2 v3 v : Value) (p : Pres) (xs : List Int) (t : Nat) (w : World) (hV : ValidP p) (hp : RdP w v1 v2 v3 p) (hv : Rd w v xs) (ht : t < xs.length) (hw : PosW p.n xs) (hr : redB p.orders xs t = true) (hx : xs.length ≤ 100000) :
    Calls Try.prog 55 #[.agg #[v1, v2, v3], v, .int .i64 t] w (RetInts w (stepL p xs t)) := by
  cases hd : descB xs t with
  | true => exact s_l09Step_d v1 v2 v3 v p xs t w hV hp hv ht hw hd hx
  | false => exact s_l09Step_r v1 v2 v3 v p xs t w hV hp hv ht hw hr hd hx
end Go.Proofs.Ytiikoappknejgaa
namespace Go.Proofs.Ytiikoappknejgaa
set_option linter.unusedVariables false
set_option linter.unusedSimpArgs false
set_option maxRecDepth 100000
open Go.RowKit

--== three results
def RetInts3 (w : World) (xs : List Int) (a b : Int) (e : Ending) (w' : World) : Prop := ∃ v, e = .returned (.tuple #[v, .int .i64 a, .int .i64 b]) ∧ Ints w' w.heap.size v xs ∧ Below w.heap.size w w'
theorem ret_vii {u v : Value} {a b c d : Int} (h : u = v) (h' : a = c) (h'' : b = d) : Ending.returned (.tuple #[u, .int .i64 a, .int .i64 b]) = .returned (.tuple #[v, .int .i64 c, .int .i64 d]) := by rw [h, h', h'']
theorem len_CollectStep (p : Pres) (w : List Int) : (csL p w).length ≤ 1000000000 := by
  by_cases h : posV p w = true
  · obtain ⟨hV, hP, hl⟩ := posV_true h
    rcases firstR_bd p.orders w with hf | ⟨t, hf, ht, _⟩
    · rw [(cs_nf h hf).2.2]; omega
    · rw [(cs_at h hf).2.2]
      have := stepL_len ht hV (posB_true hP)
      omega
  · rw [(cs_no (by simpa using h)).2.2]; simp
--== impl.CollectStep
set_option maxHeartbeats 4000000 in
theorem i_CollectStep (v1 v2 v3 : Value) (p : Pres) (v : Value) (xs : List Int) (w : World) (hp : RdP w v1 v2 v3 p) (hv : Rd w v xs) :
    Calls Try.prog 10 #[.agg #[v1, v2, v3], v] w (RetInts3 w (csL p xs) (csT p xs) (csK p xs)) := by
  have HP := Lib.hid hp
  have HV := Lib.hid hv
  obtain ⟨ao1, cap1, rfl, _, _⟩ := hp.1.form
  obtain ⟨ao2, cap2, rfl, _, _⟩ := hp.2.1.form
  obtain ⟨ao3, cap3, rfl, _, _⟩ := hp.2.2.form
  obtain ⟨ao, cap, rfl, hc1, hc2⟩ := hv.form
  have g0 := below_alloc w (Obj.cells #[Value.slice ao1 p.orders.length cap1, Value.slice ao2 p.powers.length cap2, Value.slice ao3 p.conj.length cap3] 28)
  have B0 := Bx.new w (Value.slice ao1 p.orders.length cap1) (Value.slice ao2 p.powers.length cap2) (Value.slice ao3 p.conj.length cap3)
  clear hp hv
  by_cases hV : validB p = true
  case neg =>
    have hV' : validB p = false := by simpa using hV
    have HX := Lib.hid (cs_no (w := xs) (show posV p xs = false by simp [posV, hV']))
    clear hV
    go_enter Try.func10, Try.ntmps10
    go_wp2_with fail
    refine (i_IsPresentation _ _ _ p _ (HP.out.below g0)).mono ?_
    rintro e w1 ⟨rfl, hb⟩
    have g1 := below_size g0 hb
    have B1 := B0.below hb (by simp)
    have PT := B1.ptr (HP.out.below g1)
    have m0 := B1.c0
    have m1 := B1.c1
    have m2 := B1.c2
    rw [hV']
    clear hb hV' PT m0 m1 m2
    go_wp2_with fail
    go_ret3
    exact ⟨_, ret_vii rfl HX.out.2.1.symm HX.out.1.symm, by rw [HX.out.2.2]; exact Ints.nil _ _, g1⟩
  have HVd := Lib.hid (validB_true.1 hV)
  have hn6 : p.orders.length ≤ 6 := HVd.out.n6
  have HVt := Lib.hid hV
  by_cases hP : posB p.n xs = true
  case neg =>
    have hP' : posB p.n xs = false := by simpa using hP
    have HX := Lib.hid (cs_no (w := xs) (show posV p xs = false by simp [posV, posM, hP']))
    clear hP
    go_enter Try.func10, Try.ntmps10
    go_wp2_with fail
    refine (i_IsPresentation _ _ _ p _ (HP.out.below g0)).mono ?_
    rintro e w1 ⟨rfl, hb⟩
    have g1 := below_size g0 hb
    have B1 := B0.below hb (by simp)
    have PT := B1.ptr (HP.out.below g1)
    have m0 := B1.c0
    have m1 := B1.c1
    have m2 := B1.c2
    rw [hV]
    clear hb hV m0 m1 m2
    go_wp2_with fail
    refine (i_positiveWord _ _ p xs _ PT (Rd.below HV.out g1) (by unfold Pres.n; omega)).mono ?_
    rintro e w' ⟨rfl, rfl⟩
    rw [hP']
    clear hP' 
    go_wp2_with fail
    go_ret3
    exact ⟨_, ret_vii rfl HX.out.2.1.symm HX.out.1.symm, by rw [HX.out.2.2]; exact Ints.nil _ _, g1⟩
  have HPw := Lib.hid hP
  by_cases hl : xs.length ≤ 64
  case neg =>
    have HX := Lib.hid (cs_no (w := xs) (show posV p xs = false by simp [posV, posM, hl]))
    go_enter Try.func10, Try.ntmps10
    go_wp2_with fail
    refine (i_IsPresentation _ _ _ p _ (HP.out.below g0)).mono ?_
    rintro e w1 ⟨rfl, hb⟩
    have g1 := below_size g0 hb
    have B1 := B0.below hb (by simp)
    have PT := B1.ptr (HP.out.below g1)
    have m0 := B1.c0
    have m1 := B1.c1
    have m2 := B1.c2
    rw [hV]
    clear hb hV m0 m1 m2
    go_wp2_with fail
    refine (i_positiveWord _ _ p xs _ PT (Rd.below HV.out g1) (by unfold Pres.n; omega)).mono ?_
    rintro e w' ⟨rfl, rfl⟩
    rw [hP]
    clear hP
    go_wp2_with fail
    go_ret3
    exact ⟨_, ret_vii rfl HX.out.2.1.symm HX.out.1.symm, by rw [HX.out.2.2]; exact Ints.nil _ _, g1⟩
  have HY : Hid (posV p xs = true) := by show _ = _; simp [posV, posM, hl, HVt.out, HPw.out]
  have HWp := Lib.hid (posB_true HPw.out)
  rcases firstR_bd p.orders xs with hf | ⟨t, hf, ht, hred⟩
  · have HX := Lib.hid (cs_nf HY.out hf)
    go_enter Try.func10, Try.ntmps10
    go_wp2_with fail
    refine (i_IsPresentation _ _ _ p _ (HP.out.below g0)).mono ?_
    rintro e w1 ⟨rfl, hb⟩
    have g1 := below_size g0 hb
    have B1 := B0.below hb (by simp)
    have PT := B1.ptr (HP.out.below g1)
    have m0 := B1.c0
    have m1 := B1.c1
    have m2 := B1.c2
    rw [hV]
    clear hb hV m0 m1 m2
    go_wp2_with fail
    refine (i_positiveWord _ _ p xs _ PT (Rd.below HV.out g1) (by unfold Pres.n; omega)).mono ?_
    rintro e w' ⟨rfl, rfl⟩
    rw [hP]
    clear hP
    go_wp2_with fail
    refine (i_reducibleAt _ _ p xs _ PT (Rd.below HV.out g1) HWp.out (ordB_true HVd.out.ord).1 (by omega)).mono ?_
    rintro e w2 ⟨rfl, nd, hnd⟩
    have hb2 : Below w1.heap.size w1 w2 := by rw [hnd]; exact below_drewN (Below.refl _ _) _
    clear hnd
    rw [hf]
    clear hf
    have g2 := below_size g1 hb2
    clear hb2 g1 B1 PT
    go_wp2_with fail
    refine (f_Clone _ xs _ (Rd.below HV.out g2) (by omega)).mono ?_
    rintro e w3 ⟨u3, rfl, hI3, hb3⟩
    have g3 := below_size g2 hb3
    have hI4 : Ints w3 w.heap.size u3 (csL p xs) := by rw [HX.out.2.2]; exact hI3.mono g2.size
    obtain ⟨a9, c9, rfl, _, _⟩ := hI4.form
    clear hI3 hb3 g2
    go_wp2_with fail
    go_ret3
    exact ⟨_, ret_vii rfl HX.out.2.1.symm HX.out.1.symm, hI4, g3⟩
  · have HX := Lib.hid (cs_at HY.out hf)
    have HR := Lib.hid hred
    clear hred
    go_enter Try.func10, Try.ntmps10
    go_wp2_with fail
    refine (i_IsPresentation _ _ _ p _ (HP.out.below g0)).mono ?_
    rintro e w1 ⟨rfl, hb⟩
    have g1 := below_size g0 hb
    have B1 := B0.below hb (by simp)
    have PT := B1.ptr (HP.out.below g1)
    have m0 := B1.c0
    have m1 := B1.c1
    have m2 := B1.c2
    rw [hV]
    clear hb hV m0 m1 m2
    go_wp2_with fail
    refine (i_positiveWord _ _ p xs _ PT (Rd.below HV.out g1) (by unfold Pres.n; omega)).mono ?_
    rintro e w' ⟨rfl, rfl⟩
    rw [hP]
    clear hP
    go_wp2_with fail
    refine (i_reducibleAt _ _ p xs _ PT (Rd.below HV.out g1) HWp.out (ordB_true HVd.out.ord).1 (by omega)).mono ?_
    rintro e w2 ⟨rfl, nd, hnd⟩
    have hb2 : Below w1.heap.size w1 w2 := by rw [hnd]; exact below_drewN (Below.refl _ _) _
    clear hnd
    rw [hf]
    clear hf
    have g2 := below_size g1 hb2
    go_wp2_with fail
    refine (i_stepAt _ _ p xs t _ HVd.out (PT.below hb2) (Rd.below HV.out g2) ht HWp.out HR.out (by omega)).mono ?_
    rintro e w3 ⟨u3, rfl, hI3, hb3⟩
    have g3 := below_size g2 hb3
    have hI4 : Ints w3 w.heap.size u3 (csL p xs) := by rw [HX.out.2.2]; exact hI3.mono g2.size
    obtain ⟨a9, c9, rfl, _, _⟩ := hI4.form
    clear hI3 hb3 g2
    go_wp2_with fail
    go_ret3
    exact ⟨_, ret_vii rfl HX.out.2.1.symm HX.out.1.symm, hI4, g3⟩
end Go.Proofs.Ytiikoappknejgaa
namespace Go.Proofs.Ytiikoappknejgaa
set_option linter.unusedVariables false
set_option linter.unusedSimpArgs false
set_option maxRecDepth 100000
open Go.RowKit

--== plain
theorem vec_at {n : Nat} {xs : List Int} (hw : PosW n xs) {j : Nat} (hj : j < xs.length) : ∃ q : Nat, xs.getD j 0 = (q : Int) + 1 ∧ q < n ∧ vecL n (xs.take (j + 1)) = (vecL n (xs.take j)).set q ((vecL n (xs.take j)).getD q 0 + 1) := by
  obtain ⟨q, h1, h2⟩ := hw j hj
  refine ⟨q, h1, h2, ?_⟩
  rw [vecL_succ n xs j hj]
  unfold vecS
  rw [h1, show ((q : Int) + 1 - 1).toNat = q by omega]
theorem vec_bd {n : Nat} {xs : List Int} (j q : Nat) : 0 ≤ (vecL n (xs.take j)).getD q 0 ∧ (vecL n (xs.take j)).getD q 0 ≤ xs.length := by
  have := vecL_bd n (xs.take j) q
  rw [List.length_take] at this
  omega
/-- where a collection stands -/
def CollAt (p : Pres) (L : Nat) (w0 : List Int) (k : Nat) (xs : List Int) : Prop := k ≤ L ∧ xs.length ≤ 256 ∧ PosW p.n xs ∧ colW p L w0 = colW p (L - k) xs
theorem CollAt.done {p : Pres} {L : Nat} {w0 : List Int} {k : Nat} {xs : List Int} (h : CollAt p L w0 k xs) (hf : firstR p.orders xs = -1) : collC p L w0 = 0 ∧ collN p L w0 = k ∧ collL p L w0 = vecL p.n xs := by
  have h1 := h.2.2.2
  rw [colW_nf hf] at h1
  obtain ⟨e1, e2, e3⟩ := coll_some h1
  have := h.1
  exact ⟨e1, by rw [e2]; omega, e3⟩
theorem CollAt.stop {p : Pres} {L : Nat} {w0 : List Int} {xs : List Int} {t : Nat} (h : CollAt p L w0 L xs) (hf : firstR p.orders xs = (t : Int)) : collC p L w0 = 3 ∧ collN p L w0 = 0 ∧ collL p L w0 = [] := by
  have h1 := h.2.2.2
  rw [Nat.sub_self, colW_zero hf] at h1
  exact coll_none h1
theorem CollAt.big {p : Pres} {L : Nat} {w0 : List Int} {k : Nat} {xs : List Int} {t : Nat} (h : CollAt p L w0 k xs) (hf : firstR p.orders xs = (t : Int)) (hb : 256 < (stepL p xs t).length) : collC p L w0 = 3 ∧ collN p L w0 = 0 ∧ collL p L w0 = [] := by
  have h1 := h.2.2.2
  rw [colW_big hf hb] at h1
  exact coll_none h1
theorem CollAt.next {p : Pres} {L : Nat} {w0 : List Int} {k : Nat} {xs : List Int} {t : Nat} (hV : ValidP p) (h : CollAt p L w0 k xs) (hk : k < L) (ht : t < xs.length) (hf : firstR p.orders xs = (t : Int)) (hb : (stepL p xs t).length ≤ 256) : CollAt p L w0 (k + 1) (stepL p xs t) := by
  refine ⟨hk, hb, stepL_pos ht hV h.2.2.1, ?_⟩
  have h1 := h.2.2.2
  rw [show L - k = (L - (k + 1)) + 1 by omega, colW_step hf hb] at h1
  exact h1
--== impl.collect
set_option maxHeartbeats 8000000 in
theorem i_collect (vp v : Value) (p : Pres) (w0 : List Int) (L : Nat) (w : World) (hV : ValidP p) (hp : PtrP w vp p) (hv : Rd w v w0) (hw : PosW p.n w0) (hl : w0.length ≤ 256) (hL : L ≤ 2000) :
    Calls Try.prog 29 #[vp, v, .int .i64 L] w (RetInts3 w (collL p L w0) (collN p L w0) (collC p L w0)) := by
  obtain ⟨i0, hi0, hz0, hz1, hz2⟩ := info_parts Try.info2
  have hn6 := hV.n6
  have HPT := Lib.hid hp
  have HVd := Lib.hid hV
  obtain ⟨pb, v1, v2, v3, rfl, c1, c2, c3, R1, R2, R3⟩ := hp
  obtain ⟨p1, q1, rfl, _, _⟩ := R1.formN (n := p.n) rfl
  have C1 := Lib.hid c1
  have hC0 : Hid (CollAt p L w0 0 w0) := ⟨Nat.zero_le _, hl, hw, rfl⟩
  have HRV := Lib.hid hv
  clear hV c1 c2 c3 R1 R2 R3 hw hv
  go_enter Try.func29, Try.ntmps29
  go_wp2_with fail
  go_loopw [1, 9, 10] (fun u n _ wr => ∃ (k : Nat) (xs : List Int), n = .int .i64 k ∧ k ≤ L ∧ Rd wr u xs ∧ Hid (CollAt p L w0 k xs) ∧ Below w.heap.size w wr) (fun _ n _ _ => L - (intOf n).toNat)
  case atStart => exact ⟨0, w0, rfl, Nat.zero_le _, HRV.out, hC0, Below.refl _ _⟩
  case round =>
    clear hC0 HRV hl
    obtain ⟨k, xs, rfl, hk, hv, hC, hB⟩ := hrel
    have hlx := hC.out.2.1
    have HWp := Lib.hid hC.out.2.2.1
    obtain ⟨ao, cap, rfl, _, _⟩ := hv.form
    have HV := Lib.hid hv
    have PT := HPT.out.below hB
    clear hv
    rcases firstR_bd p.orders xs with hf | ⟨t, hf, ht, hred⟩
    · have HX := Lib.hid (hC.out.done hf)
      go_wp2_with fail
      refine (i_reducibleAt _ _ p xs _ PT HV.out HWp.out (ordB_true HVd.out.ord).1 (by omega)).mono ?_
      rintro e w2 ⟨rfl, nd, hnd⟩
      have hb2 : Below wr.heap.size wr w2 := by rw [hnd]; exact below_drewN (Below.refl _ _) _
      rw [hf]
      have hB2 := below_size hB hb2
      have e1 := below_cells hB2 _ _ C1.out
      have HV2 := Lib.hid (HV.out.below hb2)
      clear hnd hf hb2 PT
      go_wp2_with (at_make; refine wp_mkInts _ rfl _ _ rfl i0 Try.underlying24 hi0 hz0 hz1 hz2 _ _ _ _ p.n rfl rfl rfl rfl (by omega) ?_)
      intro w3 hI hB3 hlt3
      have hB4 := below_size hB2 hB3
      clear e1 HV
      go_wp2_with fail
      go_loopw [13, 29] (fun _ i wr2 => ∃ j : Nat, j ≤ xs.length ∧ i = .int .i64 j ∧ Ints wr2 w2.heap.size (.slice (some ⟨w2.heap.size, 0, none⟩) p.n p.n) (vecL p.n (xs.take j)) ∧ Below w2.heap.size w2 wr2) (fun _ i _ => xs.length - (intOf i).toNat)
      case atStart => exact ⟨0, Nat.zero_le _, rfl, hI, hB3⟩
      case round =>
        clear hI hB3 hlt3 hB4
        obtain ⟨j, hj, rfl, hI, hB5⟩ := hrel
        have hS5 := hB5.size
        have HV5 := Lib.hid (HV2.out.below hB5)
        by_cases hlt : j < xs.length
        · obtain ⟨q, hq1, hq2, hq3⟩ := vec_at HWp.out hlt
          obtain ⟨b, off, rfl, hcell⟩ := HV5.out.at hlt
          rw [hq1] at hcell
          have hlen : p.n = (vecL p.n (xs.take j)).length := (vecL_len _ _).symm
          obtain ⟨hcell2, hfz⟩ := hI.cell hlen q hq2
          have hbd := vec_bd (n := p.n) (xs := xs) j q
          obtain ⟨h1, h2⟩ := hI.set hlen q ((vecL p.n (xs.take j)).getD q 0 + 1)
          have hB6 := hB5.trans (h2.below (Nat.le_refl _) hS5)
          have HQ := Lib.hid hq3
          have HQ1 := Lib.hid hq1
          clear hq3 hq1 hlen h2 hI
          generalize vecL p.n (xs.take j) = R at *
          generalize R.getD q 0 = y at *
          go_wp2_with fail
          go_roundw
          case rel => exact ⟨j + 1, by omega, by go_num, by rw [HQ.out]; exact h1, hB6⟩
          case measure => simp [intOf]; omega
        · obtain rfl : j = xs.length := by omega
          rw [List.take_length] at hI
          have hI9 : Ints wr w.heap.size (.slice (some ⟨w2.heap.size, 0, none⟩) p.n p.n) (collL p L w0) := by rw [HX.out.2.2]; exact hI.mono hB2.size
          have hB9 := hB2.trans (hB5.mono hB2.size)
          clear hI
          go_wp2_with fail
          go_ret3
          exact ⟨_, ret_vii rfl HX.out.2.1.symm HX.out.1.symm, hI9, hB9⟩
    · have D0 : decide ((t : Int) < 0) = false := by simp
      by_cases hkl : k = L
      · obtain rfl : k = L := hkl
        have HX := Lib.hid (hC.out.stop hf)
        go_wp2_with fail
        refine (i_reducibleAt _ _ p xs _ PT HV.out HWp.out (ordB_true HVd.out.ord).1 (by omega)).mono ?_
        rintro e w2 ⟨rfl, nd, hnd⟩
        have hb2 : Below wr.heap.size wr w2 := by rw [hnd]; exact below_drewN (Below.refl _ _) _
        rw [hf]
        have hB2 := below_size hB hb2
        clear hnd hf hb2 PT
        go_wp2_with fail
        go_ret3
        exact ⟨_, ret_vii rfl HX.out.2.1.symm HX.out.1.symm, by rw [HX.out.2.2]; exact Ints.nil _ _, hB2⟩
      · have hkl2 : k < L := by omega
        have D1 : ((k : Int) == (L : Int)) = false := by simp; omega
        have hlen := stepL_len ht HVd.out HWp.out
        by_cases hbig : (stepL p xs t).length ≤ 256
        · have HN := Lib.hid (hC.out.next HVd.out hkl2 ht hf hbig)
          have HRd := Lib.hid hred
          go_wp2_with fail
          refine (i_reducibleAt _ _ p xs _ PT HV.out HWp.out (ordB_true HVd.out.ord).1 (by omega)).mono ?_
          rintro e w2 ⟨rfl, nd, hnd⟩
          have hb2 : Below wr.heap.size wr w2 := by rw [hnd]; exact below_drewN (Below.refl _ _) _
          rw [hf]
          have hB2 := below_size hB hb2
          clear hnd hf hred
          go_wp2_with fail
          refine (i_stepAt _ _ p xs t _ HVd.out (PT.below hb2) (HV.out.below hb2) ht HWp.out HRd.out (by omega)).mono ?_
          rintro e w3 ⟨u3, rfl, hI3, hb3⟩
          have hB3 := below_size hB2 hb3
          have hr3 := hI3.rd
          obtain ⟨a9, c9, rfl, _, _⟩ := hr3.form
          clear hI3 hb3 hB2 hb2 PT hB
          generalize stepL p xs t = ys at *
          go_wp2_with fail
          go_roundw
          case rel => exact ⟨k + 1, ys, by go_num, by omega, hr3, HN, hB3⟩
          case measure => simp [intOf]; omega
        · have HX := Lib.hid (hC.out.big hf (by omega))
          have HRd := Lib.hid hred
          go_wp2_with fail
          refine (i_reducibleAt _ _ p xs _ PT HV.out HWp.out (ordB_true HVd.out.ord).1 (by omega)).mono ?_
          rintro e w2 ⟨rfl, nd, hnd⟩
          have hb2 : Below wr.heap.size wr w2 := by rw [hnd]; exact below_drewN (Below.refl _ _) _
          rw [hf]
          have hB2 := below_size hB hb2
          clear hnd hf hred
          go_wp2_with fail
          refine (i_stepAt _ _ p xs t _ HVd.out (PT.below hb2) (HV.out.below hb2) ht HWp.out HRd.out (by omega)).mono ?_
          rintro e w3 ⟨u3, rfl, hI3, hb3⟩
          have hB3 := below_size hB2 hb3
          have hr3 := hI3.rd
          obtain ⟨a9, c9, rfl, _, _⟩ := hr3.form
          clear hI3 hb3 hB2 hb2 PT hB
          generalize stepL p xs t = ys at *
          have hbig2 : 256 < ys.length := by omega
          go_wp2_with fail
          go_ret3
          exact ⟨_, ret_vii rfl HX.out.2.1.symm HX.out.1.symm, by rw [HX.out.2.2]; exact Ints.nil _ _, hB3⟩
--== spec.l07Vector
def RetIBc (w : World) (xs : List Int) (b : Bool) (e : Ending) (w' : World) : Prop := ∃ v, e = .returned (.tuple #[v, .bool b]) ∧ Ints w' w.heap.size v xs ∧ Below w.heap.size w w'
set_option maxHeartbeats 4000000 in
theorem s_l07Vector (n : Nat) (v : Value) (xs : List Int) (w : World) (hv : Rd w v xs) (hw : PosW n xs) (hn : n ≤ 1000) (hx : xs.length ≤ 100000) :
    Calls Try.prog 54 #[.int .i64 n, v] w (RetIBc w (vecL n xs) true) := by
  obtain ⟨i0, hi0, hz0, hz1, hz2⟩ := info_parts Try.info2
  obtain ⟨ao, cap, rfl, _, _⟩ := hv.form
  have HV2 := Lib.hid hv
  have HWp := Lib.hid hw
  clear hv hw
  go_enter Try.func54, Try.ntmps54
  go_wp2_with (at_make; refine wp_mkInts _ rfl _ _ rfl i0 Try.underlying24 hi0 hz0 hz1 hz2 _ _ _ _ n rfl rfl rfl rfl (by omega) ?_)
  intro w3 hI hB3 hlt3
  go_wp2_with fail
  go_loopw [7] (fun i wr2 => ∃ j : Nat, j ≤ xs.length ∧ i = .int .i64 j ∧ Ints wr2 w.heap.size (.slice (some ⟨w.heap.size, 0, none⟩) n n) (vecL n (xs.take j)) ∧ Below w.heap.size w wr2) (fun i _ => xs.length - (intOf i).toNat)
  case atStart => exact ⟨0, Nat.zero_le _, rfl, hI, hB3⟩
  case round =>
    clear hI hB3 hlt3
    obtain ⟨j, hj, rfl, hI, hB5⟩ := hrel
    have hS5 := hB5.size
    have HV5 := Lib.hid (HV2.out.below hB5)
    by_cases hlt : j < xs.length
    · obtain ⟨q, hq1, hq2, hq3⟩ := vec_at HWp.out hlt
      obtain ⟨b, off, rfl, hcell⟩ := HV5.out.at hlt
      rw [hq1] at hcell
      have hlen : n = (vecL n (xs.take j)).length := (vecL_len _ _).symm
      obtain ⟨hcell2, hfz⟩ := hI.cell hlen q hq2
      have hbd := vec_bd (n := n) (xs := xs) j q
      obtain ⟨h1, h2⟩ := hI.set hlen q ((vecL n (xs.take j)).getD q 0 + 1)
      have hB6 := hB5.trans (h2.below (Nat.le_refl _) hS5)
      have HQ := Lib.hid hq3
      have HQ1 := Lib.hid hq1
      clear hq3 hq1 hlen h2 hI
      generalize vecL n (xs.take j) = R at *
      generalize R.getD q 0 = y at *
      have W1 : IntKind.i64.wrap ((q : Int) + 1 - 1) = (q : Int) := by rw [IntWalk.i64_in _ (by omega)]; omega
      have W3 : IntKind.i64.wrap (q : Int) = (q : Int) := IntWalk.i64_in _ (by omega)
      have W2 : IntKind.i64.wrap (y + 1) = y + 1 := IntWalk.i64_in _ (by omega)
      have L1 : (q : Int) < (n : Int) := by omega
      have L2 : (0 : Int) ≤ (q : Int) := by omega
      have L3 : (j : Int) < (xs.length : Int) := by omega
      go_wp2_with fail
      apply via
      case h =>
        go_region
        all_goals exact ⟨rfl, rfl⟩
      clear W1 W2 W3
      go_wp2_with fail
      go_roundw
      case rel => exact ⟨j + 1, by omega, by go_num, by rw [HQ.out]; first | exact h1 | exact h1.drew, by first | exact hB6 | exact hB6.drew⟩
      case measure => simp [intOf]; omega
    · obtain rfl : j = xs.length := by omega
      rw [List.take_length] at hI
      go_wp2_with fail
      go_ret2
      exact ⟨_, rfl, hI, hB5⟩
--== spec.l09Collect
/-- where the reference's collection stands: it goes on, or it has failed -/
def CollS (p : Pres) (L : Nat) (w0 : List Int) (k : Nat) (xs : List Int) : Prop := CollAt p L w0 k xs ∨ ((256 < xs.length ∨ L < k) ∧ xs.length ≤ 400 ∧ collC p L w0 = 3 ∧ collN p L w0 = 0 ∧ collL p L w0 = [])
def okc (c : Int) : Bool := decide (c = 0)
def RetCol (w : World) (xs : List Int) (a : Int) (b : Bool) (e : Ending) (w' : World) : Prop := ∃ v, e = .returned (.tuple #[v, .int .i64 a, .bool b]) ∧ Ints w' w.heap.size v xs ∧ Below w.heap.size w w'
theorem ret_vib {u v : Value} {a c : Int} {b d : Bool} (h : u = v) (h' : a = c) (h'' : b = d) : Ending.returned (.tuple #[u, .int .i64 a, .bool b]) = .returned (.tuple #[v, .int .i64 c, .bool d]) := by rw [h, h', h'']
set_option maxHeartbeats 8000000 in
theorem s_l09Collect (v1 v2 v3 v : Value) (p : Pres) (w0 : List Int) (L : Nat) (w : World) (hV : ValidP p) (hp : RdP w v1 v2 v3 p) (hv : Rd w v w0) (hw : PosW p.n w0) (hl : w0.length ≤ 256) (hL : L ≤ 2000) :
    Calls Try.prog 32 #[.agg #[v1, v2, v3], v, .int .i64 L] w (RetCol w (collL p L w0) (collN p L w0) (okc (collC p L w0))) := by
  have hn6 := hV.n6
  have HP := Lib.hid hp
  have HVd := Lib.hid hV
  obtain ⟨p1, q1, rfl, _, _⟩ := hp.1.formN (n := p.n) rfl
  obtain ⟨p2, q2, rfl, _, _⟩ := hp.2.1.formN hV.pl
  obtain ⟨p3, q3, rfl, _, _⟩ := hp.2.2.formN hV.cl
  have g0 := below_alloc w (Obj.cells #[Value.slice p1 p.n q1, Value.slice p2 p.n q2, Value.slice p3 p.n q3] 28)
  have x0 := Bx.new w (Value.slice p1 p.n q1) (Value.slice p2 p.n q2) (Value.slice p3 p.n q3)
  have hC0 : Hid (CollS p L w0 0 w0) := .inl ⟨Nat.zero_le _, hl, hw, rfl⟩
  have HRV := Lib.hid hv
  clear hV hp hw hv
  go_enter Try.func32, Try.ntmps32
  go_wp2_with fail
  refine (s_l01Own _ w0 _ (HRV.out.below g0) (by omega)).mono ?_
  rintro e w1 ⟨u1, rfl, hI1, hB1⟩
  have g1 := below_size g0 hB1
  have x1 := x0.below hB1 x0.lt
  have hr1 := hI1.rd
  obtain ⟨a6, c6, rfl, _, _⟩ := hr1.form
  clear hI1 hB1 g0 x0
  go_wp2_with fail
  go_loopw [9, 10, 11] (fun u n _ wr => ∃ (k : Nat) (xs : List Int), n = .int .i64 k ∧ k ≤ L + 1 ∧ Rd wr u xs ∧ Hid (CollS p L w0 k xs) ∧ Below w.heap.size w wr ∧ Bx wr w.heap.size (Value.slice p1 p.n q1) (Value.slice p2 p.n q2) (Value.slice p3 p.n q3)) (fun _ n _ _ => L + 1 - (intOf n).toNat)
  case atStart => exact ⟨0, w0, rfl, Nat.zero_le _, hr1, hC0, g1, x1⟩
  case round =>
    clear hC0 HRV hl hr1 g1 x1
    obtain ⟨k, xs, rfl, hk, hv, hC, hB, hX⟩ := hrel
    obtain ⟨ao, cap, rfl, _, _⟩ := hv.form
    have HV := Lib.hid hv
    have m0 := hX.c0
    have m1 := hX.c1
    have m2 := hX.c2
    clear hv
    rcases hC.out with hA | ⟨hb, hlx4, hF⟩
    case inr =>
      have HX := Lib.hid hF
      clear hF
      by_cases hkl : k ≤ L
      · have hb2 : 256 < xs.length := by omega
        go_wp2_with fail
        go_ret3
        exact ⟨_, ret_vib rfl HX.out.2.1.symm (by rw [HX.out.1]; rfl), by rw [HX.out.2.2]; exact Ints.nil _ _, hB⟩
      · go_wp2_with fail
        go_ret3
        exact ⟨_, ret_vib rfl HX.out.2.1.symm (by rw [HX.out.1]; rfl), by rw [HX.out.2.2]; exact Ints.nil _ _, hB⟩
    have hkl := hA.1
    have hlx := hA.2.1
    have HWp := Lib.hid hA.2.2.1
    have HA := Lib.hid hA
    clear hA
    rcases firstR_bd p.orders xs with hf | ⟨t, hf, ht, hred⟩
    · have HX := Lib.hid (HA.out.done hf)
      go_wp2_with fail
      refine (s_l09At _ _ _ _ p xs _ (HP.out.below hB) HV.out HWp.out (ordB_true HVd.out.ord).1 (by omega)).mono ?_
      rintro e w2 ⟨rfl, hb2⟩
      rw [hf]
      have hB2 := below_size hB hb2
      have hX2 := hX.below hb2 hX.lt
      have HV2 := Lib.hid (HV.out.below hb2)
      have n0 := hX2.c0
      clear hf hb2 m0 m1 m2 hX hB
      go_wp2_with fail
      refine (s_l07Vector p.n _ xs _ HV2.out HWp.out (by omega) (by omega)).mono ?_
      rintro e w3 ⟨u3, rfl, hI3, hb3⟩
      have hB3 := below_size hB2 hb3
      have hI4 : Ints w3 w.heap.size u3 (collL p L w0) := by rw [HX.out.2.2]; exact hI3.mono hB2.size
      obtain ⟨a9, c9, rfl, _, _⟩ := hI4.form
      clear hI3 hb3 hB2 hX2 n0
      go_wp2_with fail
      go_ret3
      exact ⟨_, ret_vib rfl HX.out.2.1.symm (by rw [HX.out.1]; rfl), hI4, hB3⟩
    · have hlen := stepL_len ht HVd.out HWp.out
      have HRd := Lib.hid hred
      have HN : Hid (CollS p L w0 (k + 1) (stepL p xs t)) := by
        by_cases hbig : (stepL p xs t).length ≤ 256
        · by_cases hkl2 : k < L
          · exact .inl (HA.out.next HVd.out hkl2 ht hf hbig)
          · obtain rfl : k = L := by omega
            exact .inr ⟨by omega, by omega, HA.out.stop hf⟩
        · exact .inr ⟨by omega, by omega, HA.out.big hf (by omega)⟩
      go_wp2_with fail
      refine (s_l09At _ _ _ _ p xs _ (HP.out.below hB) HV.out HWp.out (ordB_true HVd.out.ord).1 (by omega)).mono ?_
      rintro e w2 ⟨rfl, hb2⟩
      rw [hf]
      have hB2 := below_size hB hb2
      have hX2 := hX.below hb2 hX.lt
      have HV2 := Lib.hid (HV.out.below hb2)
      have n0 := hX2.c0
      have n1 := hX2.c1
      have n2 := hX2.c2
      clear hf hb2 m0 m1 m2 hX hB hred
      go_wp2_with fail
      refine (s_l09Step _ _ _ _ p xs t _ HVd.out (HP.out.below hB2) HV2.out ht HWp.out HRd.out (by omega)).mono ?_
      rintro e w3 ⟨u3, rfl, hI3, hb3⟩
      have hB3 := below_size hB2 hb3
      have hX3 := hX2.below hb3 hX2.lt
      have hr3 := hI3.rd
      obtain ⟨a9, c9, rfl, _, _⟩ := hr3.form
      clear hI3 hb3 hB2 hX2 n0 n1 n2
      generalize stepL p xs t = ys at *
      go_wp2_with fail
      go_roundw
      case rel => exact ⟨k + 1, ys, by go_num, by omega, hr3, HN, hB3, hX3⟩
      case measure => simp [intOf]; omega
end Go.Proofs.Ytiikoappknejgaa
namespace Go.Proofs.Ytiikoappknejgaa
set_option linter.unusedVariables false
set_option linter.unusedSimpArgs false
set_option maxRecDepth 100000
open Go.RowKit

--== a list that grows
/-- the list of pairs so far, in blocks from B on -/
def CO (B : Nat) (w0 : World) (v : Value) (p : Pres) (L : List Itm) (w : World) : Prop :=
  ∃ S : Nat → Prop, OT w S v L.length (flC p L) ∧ (∀ k, S k → B ≤ k ∧ k < w.heap.size) ∧ Below w0.heap.size w0 w
theorem CO.keep {B : Nat} {w0 w w' : World} {v : Value} {p : Pres} {L : List Itm} (h : CO B w0 v p L w) (hb : Below w.heap.size w w') : CO B w0 v p L w' := by
  obtain ⟨S, h1, h2, h3⟩ := h
  exact ⟨S, h1.below hb, fun k hk => ⟨(h2 k hk).1, by have := (h2 k hk).2; have := hb.size; omega⟩, below_size h3 hb⟩
theorem CO.below {B : Nat} {w0 w : World} {v : Value} {p : Pres} {L : List Itm} (h : CO B w0 v p L w) : Below w0.heap.size w0 w := by
  obtain ⟨S, h1, h2, h3⟩ := h; exact h3
theorem CO.rt {B : Nat} {w0 w : World} {v : Value} {p : Pres} {L : List Itm} (h : CO B w0 v p L w) : RT w v L.length (flC p L) := by
  obtain ⟨S, h1, h2, h3⟩ := h; exact h1.rt
theorem CO.grow {B : Nat} {w0 w1 w4 : World} {v x1 x2 x3 : Value} {p : Pres} {L : List Itm} {it : Itm} {T1 T2 T3 : Nat → Prop} (h : CO B w0 v p L w1) (hB : Below w1.heap.size w1 w4) (hB0 : w0.heap.size ≤ B) (hB1 : B ≤ w1.heap.size)
    (h1 : O1 w4 T1 x1 it.1) (h2 : O1 w4 T2 x2 (stepL p it.1 0)) (h3 : O1 w4 T3 x3 (stepL p it.1 it.2))
    (s1 : ∀ k, T1 k → w1.heap.size ≤ k) (s2 : ∀ k, T2 k → w1.heap.size ≤ k) (s3 : ∀ k, T3 k → w1.heap.size ≤ k) (d12 : ∀ k, T1 k → ¬ T2 k) (d13 : ∀ k, T1 k → ¬ T3 k) (d23 : ∀ k, T2 k → ¬ T3 k)
    (o1 : x1.oneCell' = true) (o2 : x2.oneCell' = true) (o3 : x3.oneCell' = true) (hn : L.length ≤ 1000000) :
    ∃ v' w5, (Builtin.append_ #[30, 30] 30 #[v, .slice (some ⟨w4.heap.size, 0, none⟩) 1 1]).run Try.prog (w4.alloc (.cells #[x1, x2, x3] 34)) = .ok v' w5 ∧
      CO B w0 v' p (L ++ [it]) w5 ∧ ChgS (fun k => B ≤ k) w4 w5 := by
  obtain ⟨S, g1, g2, g3⟩ := h
  have z4 := hB.size
  obtain ⟨v', w5, hr, hO, hC⟩ := run_appT w4 (X := fun k => w1.heap.size ≤ k) (g1.below hB) h1 h2 h3 s1 s2 s3 d12 d13 d23 (fun k hk hs => by have := (g2 k hs).2; have hk' : w1.heap.size ≤ k := hk; omega) o1 o2 o3 hn
  have hC2 : ChgS (fun k => B ≤ k) w4 w5 := ⟨hC.os, hC.tape, hC.output, hC.size, fun k hk hn => hC.block k hk fun hs => hn (g2 k hs).1⟩
  have z5 := hC.size
  refine ⟨v', w5, hr, ⟨_, by rw [flC_snoc, List.length_append]; exact hO, ?_, ?_⟩, hC2⟩
  · rintro k (⟨h | h, hl⟩ | h)
    · exact ⟨(g2 k h).1, by omega⟩
    · have h' : w1.heap.size ≤ k := h; exact ⟨by omega, by omega⟩
    · exact ⟨by have := h.1; omega, h.2⟩
  · have z0 := g3.size
    exact (below_size g3 hB).trans (hC2.below (fun k hk => Nat.le_trans hB0 hk) (by omega))
/-- the closure's variable: a block of its own, w0's next one -/
def CB (w0 : World) (p : Pres) (L : List Itm) (w : World) : Prop :=
  ∃ v, w.heap[w0.heap.size]? = some (.cells #[v] 30 (0, 0)) ∧ CO (w0.heap.size + 1) w0 v p L w
theorem CB.keep {w0 w w' : World} {p : Pres} {L : List Itm} (h : CB w0 p L w) (hb : Below w.heap.size w w') : CB w0 p L w' := by
  obtain ⟨v, h1, h2⟩ := h
  exact ⟨v, (hb.block _ (lt_of_block h1)).trans h1, h2.keep hb⟩
theorem CB.below {w0 w : World} {p : Pres} {L : List Itm} (h : CB w0 p L w) : Below w0.heap.size w0 w := by
  obtain ⟨v, h1, h2⟩ := h; exact h2.below
/-- all that the closure 'add' does -/
theorem CB.add {w0 w1 w w3 w4 : World} {x1 x2 x3 : Value} {p : Pres} {L : List Itm} {it : Itm} (h : CB w0 p L w1) (hB : Below w1.heap.size w1 w) (h1 : Ints w w1.heap.size x1 it.1)
    (hB3 : Below w.heap.size w w3) (h2 : Ints w3 w.heap.size x2 (stepL p it.1 0)) (hB4 : Below w3.heap.size w3 w4) (h3 : Ints w4 w3.heap.size x3 (stepL p it.1 it.2))
    (o1 : x1.oneCell' = true) (o2 : x2.oneCell' = true) (o3 : x3.oneCell' = true) (hn : L.length ≤ 1000000) :
    ∃ v a' c' w5, w.cell? ⟨w0.heap.size, 0, none⟩ = some v ∧ w3.cell? ⟨w0.heap.size, 0, none⟩ = some v ∧ w4.cell? ⟨w0.heap.size, 0, none⟩ = some v ∧
      (Builtin.append_ #[30, 30] 30 #[v, .slice (some ⟨w4.heap.size, 0, none⟩) 1 1]).run Try.prog (w4.alloc (.cells #[x1, x2, x3] 34)) = .ok (.slice a' (L.length + 1) c') w5 ∧
      w5.cell? ⟨w0.heap.size, 0, none⟩ = some v ∧ w5.frozen? ⟨w0.heap.size, 0, none⟩ = false ∧ CB w0 p (L ++ [it]) (w5.setCell ⟨w0.heap.size, 0, none⟩ (.slice a' (L.length + 1) c')) := by
  obtain ⟨v, hb, hO⟩ := h
  have hlt := lt_of_block hb
  have z := hB.size
  have z3 := hB3.size
  have z4 := hB4.size
  have b : w.heap[w0.heap.size]? = some (.cells #[v] 30 (0, 0)) := (hB.block _ hlt).trans hb
  have b3 : w3.heap[w0.heap.size]? = some (.cells #[v] 30 (0, 0)) := (hB3.block _ (lt_of_block b)).trans b
  have b4 : w4.heap[w0.heap.size]? = some (.cells #[v] 30 (0, 0)) := (hB4.block _ (lt_of_block b3)).trans b3
  obtain ⟨v', w5, hr, hO5, hC5⟩ := hO.grow (w4 := w4) (hB.trans ((hB3.trans (hB4.mono z3)).mono z)) (Nat.le_succ _) hlt
    (local_O1.below (local_O1.below h1.o1 hB3) hB4) (local_O1.below h2.o1 hB4) h3.o1
    (fun k hk => hk.1) (fun k hk => by have := hk.1; omega) (fun k hk => by have := hk.1; omega) (fun k hk hh => by have := hk.2; have := hh.1; omega) (fun k hk hh => by have := hk.2; have := hh.1; omega) (fun k hk hh => by have := hk.2; have := hh.1; omega) o1 o2 o3 hn
  have b5 : w5.heap[w0.heap.size]? = some (.cells #[v] 30 (0, 0)) := (hC5.block _ (lt_of_block b4) (fun h => by have h' : w0.heap.size + 1 ≤ w0.heap.size := h; omega)).trans b4
  obtain ⟨a', c', hv', _⟩ := hO5.rt.form
  rw [List.length_append] at hv'
  subst hv'
  refine ⟨v, a', c', w5, cell_of_one b, cell_of_one b3, cell_of_one b4, hr, cell_of_one b5, free_of_one b5, _, one_setCell b5, ?_⟩
  obtain ⟨S, k1, k2, k3⟩ := hO5
  exact ⟨S, k1.chg (ChgS.setCell w5 w0.heap.size 0 _) (fun k hk e => by have := (k2 k hk).1; have e' : k = w0.heap.size := e; omega), fun k hk => ⟨(k2 k hk).1, by simpa using (k2 k hk).2⟩, k3.setCell (p := ⟨w0.heap.size, 0, none⟩) (Nat.le_refl _) _⟩
/-- the ways through a region at a function's end meet: at a world of which R holds -/
def MeetR (R : World → Prop) : Exit → Act → World → Prop
  | .normal, a, w => a.defers = [] ∧ R w
  | _, _, _ => False
theorem viaR {P : Program} {c : Code} {Q : Exit → Act → World → Prop} {a : Act} {w : World} (R : World → Prop) (h : Code.wp P c (MeetR R) a w) (hQ : ∀ a' w', a'.defers = [] → R w' → Q .normal a' w') : Code.wp P c Q a w :=
  Code.wp_mono (fun e b u hb => by
    cases e with
    | normal => exact hQ _ _ hb.1 hb.2
    | _ => exact hb.elim) h
--== impl.criticalPairs$1
set_option maxHeartbeats 1000000 in
theorem i_cpAdd {p : Pres} (hV : ValidP p) (L : List Itm) (it : Itm) (hg : CG p it) (vw vp : Value) (b1 : Nat) (w0 w1 w : World) (hC : CB w0 p L w1) (hB : Below w1.heap.size w1 w) (hx : Ints w w1.heap.size vw it.1) (hp : PtrP w0 vp p) (hb1 : w0.cell? ⟨b1, 0, none⟩ = some vp) (hl : L.length ≤ 1000) :
    Calls Try.prog 40 #[vw, .int .i64 it.2, .pointer (some ⟨w0.heap.size, 0, none⟩), .pointer (some ⟨b1, 0, none⟩)] w fun e w' => e = .returned (.tuple #[]) ∧ CB w0 p (L ++ [it]) w' := by
  have hb0 := below_size hC.below hB
  have PT := Lib.hid (hp.below hb0)
  obtain ⟨pb, _, _, _, rfl, _⟩ := hp
  have hc1 := below_cells hb0 _ _ hb1
  have HC := Lib.hid hC
  have HB := Lib.hid hB
  have HX := Lib.hid hx
  have HG := Lib.hid hg
  obtain ⟨ax, cx, rfl, _, _⟩ := hx.form
  obtain ⟨v, hbx, _⟩ := hC.keep hB
  have c0 := cell_of_one hbx
  have l0 := lt_of_block hbx
  have S0 : Hid (∀ wx, Below w.heap.size w wx → Calls Try.prog 25 #[.pointer (some ⟨pb, 0, none⟩), .slice ax it.1.length cx, .int .i64 0] wx (RetInts wx (stepL p it.1 0))) := fun wx hb =>
    i_stepAt _ _ p it.1 0 wx hV (PT.out.below hb) (HX.out.rd.below hb) HG.out.lt0 HG.out.pos HG.out.r0 (by have := HG.out.len; omega)
  have S1 : Hid (∀ wx, Below w.heap.size w wx → Calls Try.prog 25 #[.pointer (some ⟨pb, 0, none⟩), .slice ax it.1.length cx, .int .i64 it.2] wx (RetInts wx (stepL p it.1 it.2))) := fun wx hb =>
    i_stepAt _ _ p it.1 it.2 wx hV (PT.out.below hb) (HX.out.rd.below hb) HG.out.at' HG.out.pos HG.out.rt (by have := HG.out.len; omega)
  have HC1 := Lib.hid hc1
  clear hb0 hb1 hC hB hx hg hbx
  go_enter Try.func40, Try.ntmps40
  refine viaR (fun wx => CB w0 p (L ++ [it]) wx) ?h fun a' w' hd hR => bodyPost_end (results_none rfl _ _ _) hd ⟨rfl, hR⟩
  case h =>
    go_upto_region 0 with (fail)
    go_region_law (first
      | (go_simp; go_at_call 25; (with_reducible refine (S0.out _ (Below.refl _ _).drew).mono ?_); rintro e w3 ⟨u3, rfl, hI3, hB3⟩; have hB3' : Below w.heap.size w w3 := below_size (Below.refl _ _).drew hB3; have hI3' : Ints w3 w.heap.size u3 (stepL p it.1 0) := hI3; obtain ⟨a3, c3, rfl, _, _⟩ := hI3.form; have m1 := below_cells hB3' _ _ HC1.out; have m2 := below_cells hB3' _ _ c0; have l3 := Nat.lt_of_lt_of_le l0 hB3'.size)
      | (go_simp; go_at_call 25; (with_reducible refine (S1.out _ hB3').mono ?_); rintro e w4 ⟨u4, rfl, hI4, hB4⟩; obtain ⟨a4, c4, rfl, _, _⟩ := hI4.form; have l4 := Nat.lt_of_lt_of_le l3 hB4.size; obtain ⟨v2, a', c', w5, n0, n1, n2, hr, n3, n4, hC5⟩ := CB.add HC.out HB.out HX.out hB3' hI3' hB4 hI4 rfl rfl rfl (by omega); obtain rfl : v2 = v := by (have := n0.symm.trans c0; simpa using this))
      | (refine step_of_run rfl (.tmp 6) (.tmp 16) 30 rfl _ _ (by simp [Act.eval, Act.put]) (by simp [Act.eval, Act.put]) _ _ hr ?_))
    all_goals exact ⟨rfl, hC5⟩
--== end
end Go.Proofs.Ytiikoappknejgaa
namespace Go.Proofs.Ytiikoappknejgaa
set_option linter.unusedVariables false
set_option linter.unusedSimpArgs false
set_option maxRecDepth 100000
open Go.RowKit

--== impl.criticalPairs$2
theorem i_cpLetters (x : Int) (m : Nat) (w : World) (hm : m ≤ 1000) : Calls Try.prog 41 #[.int .i64 x, .int .i64 m] w (RetInts w (List.replicate m x)) := by
  have G0 := Lib.hid (below_alloc w (Obj.cells #[.int .i64 x] 2))
  go_enter Try.func41, Try.ntmps41
  go_wp2_with fail
  refine (f_Repeat _ [x] m _ (Rd.lit1 w x) (by simp) (by omega)).mono ?_
  rintro e w5 ⟨u5, rfl, hI, hB⟩
  rw [rep_single] at hI
  have HI := Lib.hid (hI.mono G0.out.size)
  have HB := Lib.hid (below_size G0.out hB)
  clear hI hB
  go_wp2_with fail
  go_ret
  exact ⟨_, rfl, HI.out, HB.out⟩
--== spec.l09Same
set_option maxHeartbeats 2000000 in
theorem s_l09Same (x : Int) (m : Nat) (w : World) (hm : m ≤ 1000) : Calls Try.prog 47 #[.int .i64 x, .int .i64 m] w (RetInts w (List.replicate m x)) := by
  obtain ⟨i0, hi, hz0, hz1, hz2⟩ := info_parts Try.info2
  go_enter Try.func47, Try.ntmps47
  go_wp2_with fail
  go_loopw [5, 6] (fun u t wr => ∃ k : Nat, k ≤ m ∧ t = .int .i64 k ∧ Ints wr w.heap.size u (List.replicate k x) ∧ Below w.heap.size w wr) (fun _ t _ => m - (intOf t).toNat)
  case atStart => exact ⟨0, Nat.zero_le _, rfl, Ints.empty w, below_alloc _ _⟩
  case round =>
    obtain ⟨k, hk, rfl, hI, hB⟩ := hrel
    have hS := hB.size
    by_cases hlt : k < m
    · have HS : Hid (List.replicate (k + 1) x = List.replicate k x ++ [x]) := List.replicate_succ'
      have hll : (List.replicate k x).length ≤ 1000000000 := by simp; omega
      generalize List.replicate k x = R at *
      go_wp2_with (at_builtin; refine wp_app1 _ rfl _ _ rfl w.heap.size i0 Try.underlying24 hi hz0 hz1 hz2 _ _ rfl hI x rfl hll (by omega) ?_)
      intro v' w2 hI1 hG hB1
      go_wp2
      go_roundw
      case rel => exact ⟨k + 1, by omega, by go_num, by rw [HS.out]; exact hI1, hB.trans hB1⟩
      case measure => simp [intOf]; omega
    · obtain rfl : k = m := by omega
      go_wp2
      go_ret
      exact ⟨_, rfl, hI, hB⟩
--== spec.l09Pair
section
variable {w w' : World} {b : Nat} {v1 v2 v3 : Value}
/-- the result's box: three cells of a pair -/
def Bq (w : World) (b : Nat) (v1 v2 v3 : Value) : Prop := w.heap[b]? = some (.cells #[v1, v2, v3] 34 (0, 0))
theorem Bq.lt (h : Bq w b v1 v2 v3) : b < w.heap.size := (Array.getElem?_eq_some_iff.1 h).1
theorem Bq.c0 (h : Bq w b v1 v2 v3) : w.cell? ⟨b, 0, none⟩ = some v1 := by unfold Bq at h; simp [World.cell?, h]
theorem Bq.c1 (h : Bq w b v1 v2 v3) : w.cell? ⟨b, 1, none⟩ = some v2 := by unfold Bq at h; simp [World.cell?, h]
theorem Bq.c2 (h : Bq w b v1 v2 v3) : w.cell? ⟨b, 2, none⟩ = some v3 := by unfold Bq at h; simp [World.cell?, h]
theorem Bq.fr (h : Bq w b v1 v2 v3) (o : Nat) : w.frozen? ⟨b, o, none⟩ = false := by unfold Bq at h; simp [World.frozen?, h]
theorem Bq.below {B : Nat} (h : Bq w b v1 v2 v3) (hb : Below B w w') (hB : b < B) : Bq w' b v1 v2 v3 := (hb.block b hB).trans h
theorem Bq.new (w : World) (v1 v2 v3 : Value) : Bq (w.alloc (.cells #[v1, v2, v3] 34)) w.heap.size v1 v2 v3 := heap_alloc_new w _
theorem Bq.set0 (h : Bq w b v1 v2 v3) (y : Value) : Bq (w.setCell ⟨b, 0, none⟩ y) b y v2 v3 := by
  have := heap_setCell_same w b 0 _ _ y h
  unfold Bq
  rw [this]; simp
theorem Bq.set1 (h : Bq w b v1 v2 v3) (y : Value) : Bq (w.setCell ⟨b, 1, none⟩ y) b v1 y v3 := by
  have := heap_setCell_same w b 1 _ _ y h
  unfold Bq
  rw [this]; simp
theorem Bq.set2 (h : Bq w b v1 v2 v3) (y : Value) : Bq (w.setCell ⟨b, 2, none⟩ y) b v1 v2 y := by
  have := heap_setCell_same w b 2 _ _ y h
  unfold Bq
  rw [this]; simp
end
theorem pair_out {w wb w3 w4 : World} {u3 u4 a n1 n2 n3 : Value} {l r : List Int} (hs : wb.heap.size = w.heap.size + 1 + 1) (GB : Below w.heap.size w wb) (hB3 : Below wb.heap.size wb w3) (h3 : Ints w3 wb.heap.size u3 l) (hB4 : Below w3.heap.size w3 w4) (h4 : Ints w4 w3.heap.size u4 r) (R : Bq wb (w.heap.size + 1) n1 n2 n3) :
    ∃ (x y : Value) (m : Nat), w.heap.size ≤ m ∧ m ≤ (((w4.setCell ⟨w.heap.size + 1, 0, none⟩ a).setCell ⟨w.heap.size + 1, 1, none⟩ u3).setCell ⟨w.heap.size + 1, 2, none⟩ u4).heap.size ∧
      O1 (((w4.setCell ⟨w.heap.size + 1, 0, none⟩ a).setCell ⟨w.heap.size + 1, 1, none⟩ u3).setCell ⟨w.heap.size + 1, 2, none⟩ u4) (win w.heap.size m) x l ∧
      O1 (((w4.setCell ⟨w.heap.size + 1, 0, none⟩ a).setCell ⟨w.heap.size + 1, 1, none⟩ u3).setCell ⟨w.heap.size + 1, 2, none⟩ u4) (win m (((w4.setCell ⟨w.heap.size + 1, 0, none⟩ a).setCell ⟨w.heap.size + 1, 1, none⟩ u3).setCell ⟨w.heap.size + 1, 2, none⟩ u4).heap.size) y r ∧
      Below w.heap.size w (((w4.setCell ⟨w.heap.size + 1, 0, none⟩ a).setCell ⟨w.heap.size + 1, 1, none⟩ u3).setCell ⟨w.heap.size + 1, 2, none⟩ u4) ∧
      Bq (((w4.setCell ⟨w.heap.size + 1, 0, none⟩ a).setCell ⟨w.heap.size + 1, 1, none⟩ u3).setCell ⟨w.heap.size + 1, 2, none⟩ u4) (w.heap.size + 1) a x y := by
  have z3 := hB3.size
  have z4 := hB4.size
  have hB4' := below_size hB3 hB4
  refine ⟨u3, u4, w3.heap.size, by omega, by simp; omega, ?_, ?_, ?_, (((R.below hB4' R.lt).set0 _).set1 _).set2 _⟩
  · exact local_O1.mono (Local.sets local_O1 (Local.sets local_O1 (Local.sets local_O1 (local_O1.below h3.o1 hB4) (b := w.heap.size + 1) (fun h => by have := h.1; omega) 0 _) (b := w.heap.size + 1) (fun h => by have := h.1; omega) 1 _) (b := w.heap.size + 1) (fun h => by have := h.1; omega) 2 _) (fun k _ h => ⟨by have := h.1; omega, h.2⟩)
  · exact local_O1.mono (Local.sets local_O1 (Local.sets local_O1 (Local.sets local_O1 h4.o1 (b := w.heap.size + 1) (fun h => by have := h.1; omega) 0 _) (b := w.heap.size + 1) (fun h => by have := h.1; omega) 1 _) (b := w.heap.size + 1) (fun h => by have := h.1; omega) 2 _) (fun k _ h => ⟨h.1, by simp only [World.size_setCell]; exact h.2⟩)
  · exact ((((below_size GB hB4').setCell (p := ⟨w.heap.size + 1, 0, none⟩) (Nat.le_succ _) _).setCell (p := ⟨w.heap.size + 1, 1, none⟩) (Nat.le_succ _) _).setCell (p := ⟨w.heap.size + 1, 2, none⟩) (Nat.le_succ _) _)
/-- what one pair of the reference returns -/
def RetPr (w : World) (p : Pres) (it : Itm) (vw : Value) (e : Ending) (w' : World) : Prop :=
  ∃ (u3 u4 : Value) (m : Nat), e = .returned (.agg #[vw, u3, u4]) ∧ w.heap.size ≤ m ∧ m ≤ w'.heap.size ∧ O1 w' (win w.heap.size m) u3 (stepL p it.1 0) ∧ O1 w' (win m w'.heap.size) u4 (stepL p it.1 it.2) ∧ Below w.heap.size w w'
set_option maxHeartbeats 600000 in
theorem s_l09Pair {p : Pres} (hV : ValidP p) (it : Itm) (hg : CG p it) (v1 v2 v3 vw : Value) (w : World) (hp : RdP w v1 v2 v3 p) (hx : Rd w vw it.1) :
    Calls Try.prog 46 #[.agg #[v1, v2, v3], vw, .int .i64 it.2] w (RetPr w p it vw) := by
  have HP := Lib.hid hp
  obtain ⟨p1, q1, rfl, _, _⟩ := hp.1.form
  obtain ⟨p2, q2, rfl, _, _⟩ := hp.2.1.form
  obtain ⟨p3, q3, rfl, _, _⟩ := hp.2.2.form
  obtain ⟨ax, cx, rfl, _, _⟩ := hx.form
  have HX := Lib.hid hx
  have HG := Lib.hid hg
  have sz1 : (w.alloc (Obj.cells #[Value.slice p1 p.orders.length q1, Value.slice p2 p.powers.length q2, Value.slice p3 p.conj.length q3] 28)).heap.size = w.heap.size + 1 := by simp
  obtain ⟨wb, hwb⟩ : ∃ wb, wb = (w.alloc (Obj.cells #[Value.slice p1 p.orders.length q1, Value.slice p2 p.powers.length q2, Value.slice p3 p.conj.length q3] 28)).alloc (Obj.cells #[Value.slice none 0 0, Value.slice none 0 0, Value.slice none 0 0] 34) := ⟨_, rfl⟩
  have hs2 : wb.heap.size = w.heap.size + 1 + 1 := by rw [hwb]; simp
  have HS2 := Lib.hid hs2
  have GB : Hid (Below w.heap.size w wb) := by
    show Below _ _ _
    rw [hwb]; exact (below_alloc w _).alloc (by simp) _
  have XB : Hid (Bx wb w.heap.size (Value.slice p1 p.orders.length q1) (Value.slice p2 p.powers.length q2) (Value.slice p3 p.conj.length q3)) := by
    show Bx _ _ _ _ _
    rw [hwb]; exact (Bx.new w _ _ _).old _
  have RB : Hid (Bq wb (w.heap.size + 1) (.slice none 0 0) (.slice none 0 0) (.slice none 0 0)) := by
    show Bq _ _ _ _ _
    rw [hwb, ← sz1]; exact Bq.new _ _ _ _
  have HWB := Lib.hid hwb
  have S0 : Hid (∀ wx, Below wb.heap.size wb wx → Calls Try.prog 55 #[.agg #[Value.slice p1 p.orders.length q1, Value.slice p2 p.powers.length q2, Value.slice p3 p.conj.length q3], .slice ax it.1.length cx, .int .i64 0] wx (RetInts wx (stepL p it.1 0))) := fun wx hb =>
    s_l09Step _ _ _ _ p it.1 0 wx hV (HP.out.below (below_size GB.out hb)) (HX.out.below (below_size GB.out hb)) HG.out.lt0 HG.out.pos HG.out.r0 (by have := HG.out.len; omega)
  have S1 : Hid (∀ wx, Below wb.heap.size wb wx → Calls Try.prog 55 #[.agg #[Value.slice p1 p.orders.length q1, Value.slice p2 p.powers.length q2, Value.slice p3 p.conj.length q3], .slice ax it.1.length cx, .int .i64 it.2] wx (RetInts wx (stepL p it.1 it.2))) := fun wx hb =>
    s_l09Step _ _ _ _ p it.1 it.2 wx hV (HP.out.below (below_size GB.out hb)) (HX.out.below (below_size GB.out hb)) HG.out.at' HG.out.pos HG.out.rt (by have := HG.out.len; omega)
  have c0 := XB.out.c0
  have c1 := XB.out.c1
  have c2 := XB.out.c2
  have l0 := XB.out.lt
  clear hp hx hg hwb hs2 sz1
  go_enter Try.func46, Try.ntmps46
  go_upto_region 1 with (fail)
  rw [← HWB.out]
  go_cut [] (fun wx => ∃ (u3 u4 : Value) (m : Nat), w.heap.size ≤ m ∧ m ≤ wx.heap.size ∧ O1 wx (win w.heap.size m) u3 (stepL p it.1 0) ∧ O1 wx (win m wx.heap.size) u4 (stepL p it.1 it.2) ∧ Below w.heap.size w wx ∧ Bq wx (w.heap.size + 1) (.slice ax it.1.length cx) u3 u4)
  case first =>
    go_region_law (first
      | (go_simp; go_at_call 55; (with_reducible refine (S0.out _ (Below.refl _ _).drew).mono ?_); rintro e w3 ⟨u3, rfl, hI3, hB3⟩; have hB3' : Below wb.heap.size wb w3 := below_size (Below.refl _ _).drew hB3; have hI3' : Ints w3 wb.heap.size u3 (stepL p it.1 0) := hI3; obtain ⟨a3, z3, rfl, _, _⟩ := hI3.form; have m0 := below_cells hB3' _ _ c0; have m1 := below_cells hB3' _ _ c1; have m2 := below_cells hB3' _ _ c2)
      | (go_simp; go_at_call 55; (with_reducible refine (S1.out _ hB3').mono ?_); rintro e w4 ⟨u4, rfl, hI4, hB4⟩; obtain ⟨a4, z4, rfl, _, _⟩ := hI4.form; have hB4' := below_size hB3' hB4; have R4 := RB.out.below hB4' RB.out.lt; have q0 := R4.c0; have q1 := R4.c1; have q2 := R4.c2; have f0 := R4.fr 0; have f1 := R4.fr 1; have f2 := R4.fr 2))
    all_goals (go_wp2_with fail; go_meet; exact pair_out HS2.out GB.out hB3' hI3' hB4 hI4 RB.out)
  case rest =>
    obtain ⟨u3, u4, m, h1, h2, h3, h4, h5, h6⟩ := hcut
    have p0 := h6.c0
    have p1 := h6.c1
    have p2 := h6.c2
    have HH := Lib.hid (And.intro h1 (And.intro h2 (And.intro h3 (And.intro h4 h5))))
    obtain ⟨a3, z3, rfl, _, _⟩ := h3.rd.form
    obtain ⟨a4, z4, rfl, _, _⟩ := h4.rd.form
    clear h1 h2 h3 h4 h5 h6
    go_wp2_with fail
    refine bodyPost_ret (v := .agg #[.slice ax it.1.length cx, .slice a3 (stepL p it.1 0).length z3, .slice a4 (stepL p it.1 it.2).length z4]) (by simp [results, Try.results46, go_sem, p0, p1, p2]) rfl ⟨_, _, m, rfl, HH.out.1, HH.out.2.1, HH.out.2.2.1, HH.out.2.2.2.1, HH.out.2.2.2.2⟩
--== end
end Go.Proofs.Ytiikoappknejgaa
namespace Go.Proofs.Ytiikoappknejgaa
set_option linter.unusedVariables false
set_option linter.unusedSimpArgs false
set_option maxRecDepth 100000
open Go.RowKit

--== pairs
theorem CO.new (w0 : World) (p : Pres) : CO w0.heap.size w0 (.slice (some ⟨w0.heap.size, 0, none⟩) 0 0) p [] (w0.alloc (Obj.cells #[] 34)) :=
  ⟨_, OT.new w0, fun k hk => by obtain rfl : k = w0.heap.size := hk; exact ⟨Nat.le_refl _, by simp⟩, below_alloc _ _⟩
theorem CO.form {B : Nat} {w0 w : World} {v : Value} {p : Pres} {L : List Itm} (h : CO B w0 v p L w) : ∃ a c, v = .slice a L.length c := by
  obtain ⟨a, c, e, _⟩ := h.rt.form; exact ⟨a, c, e⟩
/-- a pair that the reference has made is appended -/
theorem CO.pair {B m : Nat} {w0 w1 w w5 : World} {v vw u3 u4 : Value} {p : Pres} {L : List Itm} {it : Itm} (h : CO B w0 v p L w1) (hB0 : w0.heap.size ≤ B) (hB1 : B ≤ w1.heap.size) (hb : Below w1.heap.size w1 w) (hx : Ints w w1.heap.size vw it.1)
    (hm1 : w.heap.size ≤ m) (h3 : O1 w5 (win w.heap.size m) u3 (stepL p it.1 0)) (h4 : O1 w5 (win m w5.heap.size) u4 (stepL p it.1 it.2)) (hb5 : Below w.heap.size w w5)
    (o1 : vw.oneCell' = true) (o2 : u3.oneCell' = true) (o3 : u4.oneCell' = true) (hn : L.length ≤ 1000000) :
    ∃ v' w6, (Builtin.append_ #[30, 30] 30 #[v, .slice (some ⟨w5.heap.size, 0, none⟩) 1 1]).run Try.prog (w5.alloc (.cells #[vw, u3, u4] 34)) = .ok v' w6 ∧ CO B w0 v' p (L ++ [it]) w6 := by
  have z := hb.size
  have z5 := hb5.size
  obtain ⟨v', w6, hr, hO, _⟩ := h.grow (w4 := w5) (below_size hb hb5) hB0 hB1 (local_O1.below hx.o1 hb5) h3 h4
    (fun k hk => hk.1) (fun k hk => by have := hk.1; omega) (fun k hk => by have := hk.1; omega) (fun k hk hh => by have := hk.2; have := hh.1; omega) (fun k hk hh => by have := hk.2; have := hh.1; omega) (fun k hk hh => by have := hk.2; have := hh.1; omega) o1 o2 o3 hn
  exact ⟨v', w6, hr, hO⟩
theorem Ints.litC (w : World) (a : Int) : Ints (w.alloc (.cells #[.int .i64 a] 2)) w.heap.size (.slice (some ⟨w.heap.size, 0, none⟩) 1 1) [a] :=
  ⟨rfl, .inr ⟨w.heap.size, 1, _, rfl, Nat.le_refl _, heap_alloc_new w _, by simp, by simp [maxLen], rfl, rfl⟩⟩
theorem app3 {α : Type} (a b c d : List α) : a ++ (b ++ (c ++ d)) = (a ++ (b ++ c)) ++ d := by simp
theorem app2 {α : Type} (a b d : List α) : a ++ (b ++ d) = (a ++ b) ++ d := by simp
--== spec.l09Pairs
set_option maxHeartbeats 3000000 in
theorem s_l09Pairs {p : Pres} (hV : ValidP p) (v1 v2 v3 : Value) (w : World) (hp : RdP w v1 v2 v3 p) :
    Calls Try.prog 21 #[.agg #[v1, v2, v3]] w fun e w' => ∃ v, e = .returned v ∧ CO w.heap.size w v p (cpL p) w' := by
  have hn6 := hV.n6
  have HP := Lib.hid hp
  obtain ⟨p1, q1, rfl, _, _⟩ := hp.1.formN (n := p.n) rfl
  obtain ⟨p2, q2, rfl, _, _⟩ := hp.2.1.formN hV.pl
  obtain ⟨p3, q3, rfl, _, _⟩ := hp.2.2.formN hV.cl
  have HVd := Lib.hid hV
  have HSZ : Hid ((w.alloc (Obj.cells #[Value.slice p1 p.n q1, Value.slice p2 p.n q2, Value.slice p3 p.n q3] 28)).heap.size = w.heap.size + 1) := by show _ = _; simp
  have G0 := Lib.hid (below_alloc w (Obj.cells #[Value.slice p1 p.n q1, Value.slice p2 p.n q2, Value.slice p3 p.n q3] 28))
  have X0 := Lib.hid (Bx.new w (Value.slice p1 p.n q1) (Value.slice p2 p.n q2) (Value.slice p3 p.n q3))
  have HC0 : Hid (CO (w.alloc (Obj.cells #[Value.slice p1 p.n q1, Value.slice p2 p.n q2, Value.slice p3 p.n q3] 28)).heap.size (w.alloc (Obj.cells #[Value.slice p1 p.n q1, Value.slice p2 p.n q2, Value.slice p3 p.n q3] 28)) (.slice (some ⟨w.heap.size + 1, 0, none⟩) 0 0) p [] ((w.alloc (Obj.cells #[Value.slice p1 p.n q1, Value.slice p2 p.n q2, Value.slice p3 p.n q3] 28)).alloc (Obj.cells #[] 34))) := by
    have h := CO.new (w.alloc (Obj.cells #[Value.slice p1 p.n q1, Value.slice p2 p.n q2, Value.slice p3 p.n q3] 28)) p
    have e : (w.alloc (Obj.cells #[Value.slice p1 p.n q1, Value.slice p2 p.n q2, Value.slice p3 p.n q3] 28)).heap.size = w.heap.size + 1 := by simp
    show CO _ _ _ _ _ _
    rw [show w.heap.size + 1 = (w.alloc (Obj.cells #[Value.slice p1 p.n q1, Value.slice p2 p.n q2, Value.slice p3 p.n q3] 28)).heap.size from e.symm]
    exact h
  clear hp hV
  go_enter Try.func21, Try.ntmps21
  go_wp2_with fail
  generalize w.alloc (Obj.cells #[Value.slice p1 p.n q1, Value.slice p2 p.n q2, Value.slice p3 p.n q3] 28) = w0 at *
  have KEEP : Hid (∀ wx, Below w0.heap.size w0 wx → wx.cell? ⟨w.heap.size, 0, none⟩ = some (Value.slice p1 p.n q1) ∧ wx.cell? ⟨w.heap.size, 1, none⟩ = some (Value.slice p2 p.n q2) ∧ wx.cell? ⟨w.heap.size, 2, none⟩ = some (Value.slice p3 p.n q3)) := fun wx hb =>
    ⟨below_cells hb _ _ X0.out.c0, below_cells hb _ _ X0.out.c1, below_cells hb _ _ X0.out.c2⟩
  have HPR : Hid (∀ (it : Itm) (wx : World) (vx : Value), CG p it → Below w0.heap.size w0 wx → Rd wx vx it.1 → Calls Try.prog 46 #[.agg #[Value.slice p1 p.n q1, Value.slice p2 p.n q2, Value.slice p3 p.n q3], vx, .int .i64 it.2] wx (RetPr wx p it vx)) := fun it wx vx hg hb hx =>
    s_l09Pair HVd.out it hg _ _ _ _ wx (HP.out.below (below_size G0.out hb)) hx
  go_loopw [4, 5] (fun u t wr => ∃ i : Nat, i ≤ p.n ∧ t = .int .i64 i ∧ CO w0.heap.size w0 u p (wA p.n i) wr) (fun _ t _ => p.n - (intOf t).toNat)
  case atStart => exact ⟨0, Nat.zero_le _, rfl, HC0.out⟩
  case round =>
    clear HC0
    obtain ⟨i, hi, rfl, hC⟩ := hrel
    have HC := Lib.hid hC
    clear hC
    by_cases hlt : i < p.n
    · have HS := Lib.hid (wA_succ p.n i)
      have hltI : (i : Int) < (p.n : Int) := by omega
      go_wp2_with fail
      go_loopw [4, 6] (fun u t wr => ∃ j : Nat, i + 1 ≤ j ∧ j ≤ p.n ∧ t = .int .i64 j ∧ CO w0.heap.size w0 u p (wA p.n i ++ wB p.n i (j - (i + 1))) wr) (fun _ t _ => p.n - (intOf t).toNat)
      case atStart => exact ⟨i + 1, Nat.le_refl _, by omega, by go_num, by rw [Nat.sub_self, show wB p.n i 0 = [] from rfl, List.append_nil]; exact HC.out⟩
      case round =>
        clear HC
        obtain ⟨j, hij, hj, rfl, hC⟩ := hrel
        have HC := Lib.hid hC
        clear hC
        by_cases hltj : j < p.n
        · have HSj : Hid (wB p.n i (j + 1 - (i + 1)) = wB p.n i (j - (i + 1)) ++ wC i j (p.n - (j + 1))) := by
            show _ = _
            rw [show j + 1 - (i + 1) = (j - (i + 1)) + 1 by omega, wB_succ, show i + 1 + (j - (i + 1)) = j by omega]
          have hltJ : (j : Int) < (p.n : Int) := by omega
          go_wp2_with fail
          go_loopw [4, 7] (fun u t wr => ∃ k : Nat, j + 1 ≤ k ∧ k ≤ p.n ∧ t = .int .i64 k ∧ CO w0.heap.size w0 u p (wA p.n i ++ (wB p.n i (j - (i + 1)) ++ wC i j (k - (j + 1)))) wr) (fun _ t _ => p.n - (intOf t).toNat)
          case atStart => exact ⟨j + 1, Nat.le_refl _, by omega, by go_num, by rw [Nat.sub_self, show wC i j 0 = [] from rfl, List.append_nil]; exact HC.out⟩
          case round =>
            clear HC
            obtain ⟨k, hjk, hk, rfl, hC⟩ := hrel
            have HC := Lib.hid hC
            by_cases hltk : k < p.n
            · have HSk : Hid (wA p.n i ++ (wB p.n i (j - (i + 1)) ++ wC i j (k + 1 - (j + 1))) = (wA p.n i ++ (wB p.n i (j - (i + 1)) ++ wC i j (k - (j + 1)))) ++ [itC i j k]) := by
                show _ = _
                rw [show k + 1 - (j + 1) = (k - (j + 1)) + 1 by omega, wC_succ, show j + 1 + (k - (j + 1)) = k by omega, app3]
              have HLN : Hid ((wA p.n i ++ (wB p.n i (j - (i + 1)) ++ wC i j (k - (j + 1)))).length ≤ 1000000) := by
                show _ ≤ _
                simp only [List.length_append, wC_len]
                have := wA_len (n := p.n) (m := i) hn6 (by omega)
                have := wB_len (n := p.n) (i := i) (m := j - (i + 1)) hn6 (by omega)
                omega
              obtain ⟨L, hL⟩ : ∃ L, wA p.n i ++ (wB p.n i (j - (i + 1)) ++ wC i j (k - (j + 1))) = L := ⟨_, rfl⟩
              rw [hL] at hC HC HSk HLN
              obtain ⟨aL, cL, rfl⟩ := hC.form
              have hBr := hC.below
              obtain ⟨m0, m1, m2⟩ := KEEP.out _ hBr
              have hltK : (k : Int) < (p.n : Int) := by omega
              have HI := Lib.hid (Ints.lit3 wr ((k : Int) + 1) ((j : Int) + 1) ((i : Int) + 1))
              have HBr := Lib.hid hBr
              have zz := hBr.size
              have HCT : Hid (Calls Try.prog 46 #[.agg #[Value.slice p1 p.n q1, Value.slice p2 p.n q2, Value.slice p3 p.n q3], .slice (some ⟨wr.heap.size, 0, none⟩) 3 3, .int .i64 1] (wr.alloc (.cells #[.int .i64 ((k : Int) + 1), .int .i64 ((j : Int) + 1), .int .i64 ((i : Int) + 1)] 2)) (RetPr (wr.alloc (.cells #[.int .i64 ((k : Int) + 1), .int .i64 ((j : Int) + 1), .int .i64 ((i : Int) + 1)] 2)) p (itC i j k) (.slice (some ⟨wr.heap.size, 0, none⟩) 3 3))) :=
                HPR.out (itC i j k) _ _ (CG.c (by omega) (by omega) hltk) (ball hBr _) HI.out.rd
              clear hL hC hBr
              go_wp2_with fail
              refine HCT.out.mono ?_
              rintro e w5 ⟨u3, u4, m5, rfl, hm1, hm2, hO3, hO4, hB5⟩
              obtain ⟨a3, c3, rfl, _, _⟩ := hO3.rd.form
              obtain ⟨a4, c4, rfl, _, _⟩ := hO4.rd.form
              obtain ⟨v6, w6, hr6, hC6⟩ := CO.pair (it := itC i j k) HC.out (Nat.le_refl _) zz (below_alloc wr _) HI.out hm1 hO3 hO4 hB5 rfl rfl rfl HLN.out
              have HC6 := Lib.hid hC6
              clear hO3 hO4 hB5 hm1 hm2 hC6 m0 m1 m2
              go_wp2_with (at_builtin; refine wp_of_run _ rfl _ _ _ rfl _ _ rfl rfl _ _ hr6 ?_)
              go_roundw
              case rel => exact ⟨k + 1, by omega, by omega, by go_num, by rw [HSk.out]; exact HC6.out⟩
              case measure => (simp [intOf]; try omega)
            · obtain rfl : k = p.n := by omega
              clear hC
              go_wp2_with fail
              go_roundw
              case rel => exact ⟨j + 1, by omega, by omega, by go_num, by rw [HSj.out]; exact HC.out⟩
              case measure => (simp [intOf]; try omega)
        · obtain rfl : j = p.n := by omega
          go_wp2_with fail
          go_roundw
          case rel => exact ⟨i + 1, by omega, by go_num, by rw [HS.out]; exact HC.out⟩
          case measure => (simp [intOf]; try omega)
    · obtain rfl : i = p.n := by omega
      go_wp2_with fail
      go_loopw [4, 8] (fun u t wr => ∃ i : Nat, i ≤ p.n ∧ t = .int .i64 i ∧ CO w0.heap.size w0 u p (wA p.n p.n ++ w2A p i) wr) (fun _ t _ => p.n - (intOf t).toNat)
      case atStart => exact ⟨0, Nat.zero_le _, rfl, by rw [show w2A p 0 = [] from rfl, List.append_nil]; exact HC.out⟩
      case round =>
        clear HC
        obtain ⟨i, hi, rfl, hC⟩ := hrel
        have HC := Lib.hid hC
        clear hC
        by_cases hlt : i < p.n
        · have HS := Lib.hid (w2A_succ p i)
          have hltI : (i : Int) < (p.n : Int) := by omega
          go_wp2_with fail
          go_loopw [4, 9] (fun u t wr => ∃ j : Nat, i + 1 ≤ j ∧ j ≤ p.n ∧ t = .int .i64 j ∧ CO w0.heap.size w0 u p (wA p.n p.n ++ (w2A p i ++ w2 p i (j - (i + 1)))) wr) (fun _ t _ => p.n - (intOf t).toNat)
          case atStart => exact ⟨i + 1, Nat.le_refl _, by omega, by go_num, by rw [Nat.sub_self, show w2 p i 0 = [] from rfl, List.append_nil]; exact HC.out⟩
          case round =>
            clear HC
            obtain ⟨j, hij, hj, rfl, hC⟩ := hrel
            have HC := Lib.hid hC
            by_cases hltj : j < p.n
            · have HSj : Hid (wA p.n p.n ++ (w2A p i ++ w2 p i (j + 1 - (i + 1))) = (wA p.n p.n ++ (w2A p i ++ w2 p i (j - (i + 1)))) ++ [it2 p i j]) := by
                show _ = _
                rw [show j + 1 - (i + 1) = (j - (i + 1)) + 1 by omega, w2_succ, show i + 1 + (j - (i + 1)) = j by omega, app3]
              have HLN : Hid ((wA p.n p.n ++ (w2A p i ++ w2 p i (j - (i + 1)))).length ≤ 1000000) := by
                show _ ≤ _
                simp only [List.length_append, w2_len]
                have := wA_len (n := p.n) (m := p.n) hn6 hn6
                have := w2A_len (p := p) (m := p.n) hn6 hn6
                have := w2A_len (p := p) (m := i) hn6 (by omega)
                omega
              obtain ⟨L, hL⟩ : ∃ L, wA p.n p.n ++ (w2A p i ++ w2 p i (j - (i + 1))) = L := ⟨_, rfl⟩
              rw [hL] at hC HC HSj HLN
              obtain ⟨aL, cL, rfl⟩ := hC.form
              have hBr := hC.below
              have HBr := Lib.hid hBr
              have zz := hBr.size
              have hltJ : (j : Int) < (p.n : Int) := by omega
              have r7 := HVd.out.rk j (by omega)
              obtain ⟨m, hm⟩ : ∃ m : Nat, p.r j = (m : Int) := ⟨(p.r j).toNat, by omega⟩
              rw [hm] at r7
              obtain ⟨bo, oo, heo, hco⟩ := (HP.out.below G0.out).1.at (j := j) (by show j < p.n; omega)
              obtain rfl : p1 = some ⟨bo, oo, none⟩ := by simpa using heo
              have hco' : w0.cell? ⟨bo, oo + j, none⟩ = some (.int .i64 m) := by rw [hco, ← hm]; rfl
              have HCO := Lib.hid hco'
              have KP : Hid (∀ wx, Below w0.heap.size w0 wx → wx.cell? ⟨w.heap.size, 0, none⟩ = some (Value.slice (some ⟨bo, oo, none⟩) p.n q1) ∧ wx.cell? ⟨w.heap.size, 1, none⟩ = some (Value.slice p2 p.n q2) ∧ wx.cell? ⟨w.heap.size, 2, none⟩ = some (Value.slice p3 p.n q3) ∧ wx.cell? ⟨bo, oo + j, none⟩ = some (.int .i64 m)) := fun wx hb =>
                ⟨(KEEP.out wx hb).1, (KEEP.out wx hb).2.1, (KEEP.out wx hb).2.2, below_cells hb _ _ HCO.out⟩
              obtain ⟨it, hit⟩ : ∃ it, it2 p i j = it := ⟨_, rfl⟩
              have HG : Hid (CG p it) := hit ▸ CG.two HVd.out (by omega) hltj
              have HW : Hid (it.1 = List.replicate m ((j : Int) + 1) ++ [(i : Int) + 1]) := by show _ = _; rw [← hit]; unfold it2; rw [hm]; rfl
              have HT2 : Hid ((it.2 : Int) = (m : Int) - 1) := by show _ = _; rw [← hit]; unfold it2; rw [hm]; simp only [Int.toNat_natCast]; omega
              rw [hit] at HSj
              have HPQ : Hid (∀ (wx : World) (vx : Value), Below w0.heap.size w0 wx → Rd wx vx it.1 → Calls Try.prog 46 #[.agg #[Value.slice (some ⟨bo, oo, none⟩) p.n q1, Value.slice p2 p.n q2, Value.slice p3 p.n q3], vx, .int .i64 ((m : Int) - 1)] wx (RetPr wx p it vx)) := fun wx vx hb hx => by
                have h := HPR.out it wx vx HG.out hb hx
                rwa [HT2.out] at h
              have W1 : IntKind.i64.wrap ((j : Int) + 1) = (j : Int) + 1 := IntWalk.i64_in _ (by omega)
              have W2 : IntKind.i64.wrap ((i : Int) + 1) = (i : Int) + 1 := IntWalk.i64_in _ (by omega)
              have W3 : IntKind.i64.wrap ((m : Int) - 1) = (m : Int) - 1 := IntWalk.i64_in _ (by omega)
              clear hL hC hBr hm hco hco' heo hit
              go_wp2_with fail
              go_region_held3 (fun wx => wx.cell? ⟨w.heap.size, 0, none⟩ = some (Value.slice (some ⟨bo, oo, none⟩) p.n q1) ∧ wx.cell? ⟨w.heap.size, 1, none⟩ = some (Value.slice p2 p.n q2) ∧ wx.cell? ⟨w.heap.size, 2, none⟩ = some (Value.slice p3 p.n q3) ∧ wx.cell? ⟨bo, oo + j, none⟩ = some (.int .i64 m))
                (first
                  | exact KP.out _ (below_size HBr.out (Below.refl _ _).drew)
                  | exact KP.out _ hC8.below
                  | exact KP.out _ (below_size HBr.out hK7)
                  | exact KP.out _ (ball (below_size HBr.out hK7) _)
                  | exact KP.out _ (below_size HBr.out hK6)
                  | exact KP.out _ (below_size HBr.out hK5)
                  | exact KP.out _ (ball (below_size HBr.out hK5) _)
                  | exact KP.out _ (below_size HBr.out (below_alloc _ _).drew)
                  | exact KP.out _ (below_size HBr.out (below_alloc _ _)))
                (first
                  | ((go_at_call 47); (with_reducible refine (s_l09Same ((j : Int) + 1) m _ (by omega)).mono ?_); (rintro e w5 ⟨u5, rfl, hI5, hB5⟩); (have hK5 : Below wr.heap.size wr w5 := (by first | exact below_size (Below.refl _ _).drew hB5 | exact below_size (below_alloc wr _).drew hB5)); (obtain ⟨a5, c5, rfl, _, _⟩ := hI5.rd.formN (n := m) (by simp)))
                  | ((go_at_call 46); (with_reducible refine (HPQ.out _ _ (below_size HBr.out hK6) (by rw [HW.out]; exact hI6.rd)).mono ?_); (rintro e w7 ⟨u3, u4, m7, rfl, hm1, hm2, hO3, hO4, hB7⟩); (have hK7 : Below wr.heap.size wr w7 := below_size hK6 hB7); (obtain ⟨a3, c3, rfl, _, _⟩ := hO3.rd.form); (obtain ⟨a4, c4, rfl, _, _⟩ := hO4.rd.form))
                  | (obtain ⟨v6, w6, hr6, hI6, hB6⟩ := run_appI (w5.alloc (.cells #[.int .i64 ((i : Int) + 1)] 2)) 24 wr.heap.size _ _ ((hI5.mono (B' := wr.heap.size) (Nat.le_refl _)).below (below_alloc w5 _)) _ _ (Rd.lit1 w5 ((i : Int) + 1)) (by simp; omega) (by simp) (by have := hK5.size; simp; omega)
                     have hK6 : Below wr.heap.size wr w6 := (ball hK5 _).trans hB6
                     obtain ⟨a6, c6, rfl, _, _⟩ := hI6.rd.formN (n := m + 1) (by first | (simp; done) | (simp; omega))
                     refine step_of_run rfl (.tmp 69) (.tmp 72) 24 rfl _ _ (by simp [Act.eval, Act.put]) (by simp [Act.eval, Act.put]) _ _ hr6 ?_)
                  | (obtain ⟨v6, w6, hr6, hI6, hB6⟩ := run_appI w5 24 wr.heap.size _ _ (hI5.mono (B' := wr.heap.size) (by simp)) (.slice (some ⟨wr.heap.size, 0, none⟩) 1 1) _ ((Rd.lit1 wr ((i : Int) + 1)).below (below_size (Below.refl _ _).drew hB5)) (by simp; omega) (by simp) hK5.size
                     have hK6 : Below wr.heap.size wr w6 := hK5.trans hB6
                     obtain ⟨a6, c6, rfl, _, _⟩ := hI6.rd.formN (n := m + 1) (by first | (simp; done) | (simp; omega))
                     refine step_of_run rfl (.tmp 69) (.tmp 72) 24 rfl _ _ (by simp [Act.eval, Act.put]) (by simp [Act.eval, Act.put]) _ _ hr6 ?_)
                  | (obtain ⟨v8, w8, hr8, hC8⟩ := CO.pair (it := it) HC.out (Nat.le_refl _) zz hK6 (by rw [HW.out]; exact hI6) hm1 hO3 hO4 hB7 rfl rfl rfl HLN.out
                     refine step_of_run rfl (.tmp 60) (.tmp 81) 30 rfl _ _ (by simp [Act.eval, Act.put]) (by simp [Act.eval, Act.put]) _ _ hr8 ?_))
              all_goals
                have HC8 := Lib.hid hC8
                clear hI5 hB5 hK5 hI6 hB6 hK6 hO3 hO4 hB7 hK7 hm1 hm2 hr6 hr8 hC8 KP HPQ
                go_wp2_with fail
                go_roundw
                case rel => exact ⟨j + 1, by omega, by omega, by go_num, by rw [HSj.out]; exact HC8.out⟩
                case measure => (simp [intOf]; try omega)
            · obtain rfl : j = p.n := by omega
              clear hC
              go_wp2_with fail
              go_roundw
              case rel => exact ⟨i + 1, by omega, by go_num, by rw [HS.out]; exact HC.out⟩
              case measure => (simp [intOf]; try omega)
        · obtain rfl : i = p.n := by omega
          go_wp2_with fail
          go_loopw [4, 10] (fun u t wr => ∃ i : Nat, i ≤ p.n ∧ t = .int .i64 i ∧ CO w0.heap.size w0 u p ((wA p.n p.n ++ w2A p p.n) ++ w3A p i) wr) (fun _ t _ => p.n - (intOf t).toNat)
          case atStart => exact ⟨0, Nat.zero_le _, rfl, by rw [show w3A p 0 = [] from rfl, List.append_nil]; exact HC.out⟩
          case round =>
            clear HC
            obtain ⟨i, hi, rfl, hC⟩ := hrel
            have HC := Lib.hid hC
            clear hC
            by_cases hlt : i < p.n
            · have HS := Lib.hid (w3A_succ p i)
              have hltI : (i : Int) < (p.n : Int) := by omega
              go_wp2_with fail
              go_loopw [4, 11] (fun u t wr => ∃ j : Nat, i + 1 ≤ j ∧ j ≤ p.n ∧ t = .int .i64 j ∧ CO w0.heap.size w0 u p ((wA p.n p.n ++ w2A p p.n) ++ (w3A p i ++ w3 p i (j - (i + 1)))) wr) (fun _ t _ => p.n - (intOf t).toNat)
              case atStart => exact ⟨i + 1, Nat.le_refl _, by omega, by go_num, by rw [Nat.sub_self, show w3 p i 0 = [] from rfl, List.append_nil]; exact HC.out⟩
              case round =>
                clear HC
                obtain ⟨j, hij, hj, rfl, hC⟩ := hrel
                have HC := Lib.hid hC
                by_cases hltj : j < p.n
                · have HSj : Hid ((wA p.n p.n ++ w2A p p.n) ++ (w3A p i ++ w3 p i (j + 1 - (i + 1))) = ((wA p.n p.n ++ w2A p p.n) ++ (w3A p i ++ w3 p i (j - (i + 1)))) ++ [it3 p i j]) := by
                    show _ = _
                    rw [show j + 1 - (i + 1) = (j - (i + 1)) + 1 by omega, w3_succ, show i + 1 + (j - (i + 1)) = j by omega, app3]
                  have HLN : Hid (((wA p.n p.n ++ w2A p p.n) ++ (w3A p i ++ w3 p i (j - (i + 1)))).length ≤ 1000000) := by
                    show _ ≤ _
                    simp only [List.length_append, w3_len]
                    have := wA_len (n := p.n) (m := p.n) hn6 hn6
                    have := w2A_len (p := p) (m := p.n) hn6 hn6
                    have := w3A_len (p := p) (m := i) hn6 (by omega)
                    omega
                  obtain ⟨L, hL⟩ : ∃ L, (wA p.n p.n ++ w2A p p.n) ++ (w3A p i ++ w3 p i (j - (i + 1))) = L := ⟨_, rfl⟩
                  rw [hL] at hC HC HSj HLN
                  obtain ⟨aL, cL, rfl⟩ := hC.form
                  have hBr := hC.below
                  have HBr := Lib.hid hBr
                  have zz := hBr.size
                  have hltJ : (j : Int) < (p.n : Int) := by omega
                  have r7 := HVd.out.rk i (by omega)
                  obtain ⟨m, hm⟩ : ∃ m : Nat, p.r i = (m : Int) := ⟨(p.r i).toNat, by omega⟩
                  rw [hm] at r7
                  obtain ⟨bo, oo, heo, hco⟩ := (HP.out.below G0.out).1.at (j := i) (by show i < p.n; omega)
                  obtain rfl : p1 = some ⟨bo, oo, none⟩ := by simpa using heo
                  have hco' : w0.cell? ⟨bo, oo + i, none⟩ = some (.int .i64 m) := by rw [hco, ← hm]; rfl
                  have HCO := Lib.hid hco'
                  have KP : Hid (∀ wx, Below w0.heap.size w0 wx → wx.cell? ⟨w.heap.size, 0, none⟩ = some (Value.slice (some ⟨bo, oo, none⟩) p.n q1) ∧ wx.cell? ⟨w.heap.size, 1, none⟩ = some (Value.slice p2 p.n q2) ∧ wx.cell? ⟨w.heap.size, 2, none⟩ = some (Value.slice p3 p.n q3) ∧ wx.cell? ⟨bo, oo + i, none⟩ = some (.int .i64 m)) := fun wx hb =>
                    ⟨(KEEP.out wx hb).1, (KEEP.out wx hb).2.1, (KEEP.out wx hb).2.2, below_cells hb _ _ HCO.out⟩
                  obtain ⟨it, hit⟩ : ∃ it, it3 p i j = it := ⟨_, rfl⟩
                  have HG : Hid (CG p it) := hit ▸ CG.three HVd.out (by omega) hltj
                  have HW : Hid (it.1 = ((j : Int) + 1) :: List.replicate m ((i : Int) + 1)) := by show _ = _; rw [← hit]; unfold it3; rw [hm]; rfl
                  have HT2 : Hid ((it.2 : Int) = 1) := by show _ = _; rw [← hit]; rfl
                  rw [hit] at HSj
                  have HPQ : Hid (∀ (wx : World) (vx : Value), Below w0.heap.size w0 wx → Rd wx vx it.1 → Calls Try.prog 46 #[.agg #[Value.slice (some ⟨bo, oo, none⟩) p.n q1, Value.slice p2 p.n q2, Value.slice p3 p.n q3], vx, .int .i64 1] wx (RetPr wx p it vx)) := fun wx vx hb hx => by
                    have h := HPR.out it wx vx HG.out hb hx
                    rwa [HT2.out] at h
                  have W1 : IntKind.i64.wrap ((j : Int) + 1) = (j : Int) + 1 := IntWalk.i64_in _ (by omega)
                  have W2 : IntKind.i64.wrap ((i : Int) + 1) = (i : Int) + 1 := IntWalk.i64_in _ (by omega)
                  have W3 : IntKind.i64.wrap ((m : Int) - 1) = (m : Int) - 1 := IntWalk.i64_in _ (by omega)
                  clear hL hC hBr hm hco hco' heo hit
                  go_wp2_with fail
                  go_region_held3 (fun wx => wx.cell? ⟨w.heap.size, 0, none⟩ = some (Value.slice (some ⟨bo, oo, none⟩) p.n q1) ∧ wx.cell? ⟨w.heap.size, 1, none⟩ = some (Value.slice p2 p.n q2) ∧ wx.cell? ⟨w.heap.size, 2, none⟩ = some (Value.slice p3 p.n q3) ∧ wx.cell? ⟨bo, oo + i, none⟩ = some (.int .i64 m))
                    (first
                      | exact KP.out _ (below_size HBr.out (Below.refl _ _).drew)
                      | exact KP.out _ hC8.below
                      | exact KP.out _ (below_size HBr.out hK7)
                      | exact KP.out _ (ball (below_size HBr.out hK7) _)
                      | exact KP.out _ (below_size HBr.out hK6)
                      | exact KP.out _ (below_size HBr.out hK5)
                      | exact KP.out _ (ball (below_size HBr.out hK5) _)
                      | exact KP.out _ (below_size HBr.out (below_alloc _ _).drew)
                      | exact KP.out _ (below_size HBr.out (below_alloc _ _)))
                    (first
                      | ((go_at_call 47); (with_reducible refine (s_l09Same ((i : Int) + 1) m _ (by omega)).mono ?_); (rintro e w5 ⟨u5, rfl, hI5, hB5⟩); (have hK5 : Below wr.heap.size wr w5 := (by first | exact below_size (Below.refl _ _).drew hB5 | exact below_size (below_alloc wr _).drew hB5)); (obtain ⟨a5, c5, rfl, _, _⟩ := hI5.rd.formN (n := m) (by simp)))
                      | ((go_at_call 46); (with_reducible refine (HPQ.out _ _ (below_size HBr.out hK6) (by rw [HW.out]; exact hI6.rd)).mono ?_); (rintro e w7 ⟨u3, u4, m7, rfl, hm1, hm2, hO3, hO4, hB7⟩); (have hK7 : Below wr.heap.size wr w7 := below_size hK6 hB7); (obtain ⟨a3, c3, rfl, _, _⟩ := hO3.rd.form); (obtain ⟨a4, c4, rfl, _, _⟩ := hO4.rd.form))
                      | (obtain ⟨v6, w6, hr6, hI6, hB6⟩ := run_appI (w5.alloc (.cells #[.int .i64 ((j : Int) + 1)] 2)) 24 wr.heap.size _ _ ((Ints.litC w5 ((j : Int) + 1)).mono (B' := wr.heap.size) hK5.size) _ _ (hI5.rd.below (below_alloc w5 _)) (by simp) (by simp; omega) (by have := hK5.size; simp; omega)
                         have hK6 : Below wr.heap.size wr w6 := (ball hK5 _).trans hB6
                         rw [List.singleton_append] at hI6
                         obtain ⟨a6, c6, rfl, _, _⟩ := hI6.rd.formN (n := m + 1) (by first | (simp; done) | (simp; omega))
                         refine step_of_run rfl (.tmp 99) (.tmp 107) 24 rfl _ _ (by simp [Act.eval, Act.put]) (by simp [Act.eval, Act.put]) _ _ hr6 ?_)
                      | (obtain ⟨v6, w6, hr6, hI6, hB6⟩ := run_appI w5 24 wr.heap.size (.slice (some ⟨wr.heap.size, 0, none⟩) 1 1) _ ((Ints.litC wr ((j : Int) + 1)).below (below_size (Below.refl _ _).drew hB5)) _ _ hI5.rd (by simp) (by simp; omega) hK5.size
                         have hK6 : Below wr.heap.size wr w6 := hK5.trans hB6
                         rw [List.singleton_append] at hI6
                         obtain ⟨a6, c6, rfl, _, _⟩ := hI6.rd.formN (n := m + 1) (by first | (simp; done) | (simp; omega))
                         refine step_of_run rfl (.tmp 99) (.tmp 107) 24 rfl _ _ (by simp [Act.eval, Act.put]) (by simp [Act.eval, Act.put]) _ _ hr6 ?_)
                      | (obtain ⟨v8, w8, hr8, hC8⟩ := CO.pair (it := it) HC.out (Nat.le_refl _) zz hK6 (by rw [HW.out]; exact hI6) hm1 hO3 hO4 hB7 rfl rfl rfl HLN.out
                         refine step_of_run rfl (.tmp 95) (.tmp 110) 30 rfl _ _ (by simp [Act.eval, Act.put]) (by simp [Act.eval, Act.put]) _ _ hr8 ?_))
                  all_goals
                    have HC8 := Lib.hid hC8
                    clear hI5 hB5 hK5 hI6 hB6 hK6 hO3 hO4 hB7 hK7 hm1 hm2 hr6 hr8 hC8 KP HPQ
                    go_wp2_with fail
                    go_roundw
                    case rel => exact ⟨j + 1, by omega, by omega, by go_num, by rw [HSj.out]; exact HC8.out⟩
                    case measure => (simp [intOf]; try omega)
                · obtain rfl : j = p.n := by omega
                  clear hC
                  go_wp2_with fail
                  go_roundw
                  case rel => exact ⟨i + 1, by omega, by go_num, by rw [HS.out]; exact HC.out⟩
                  case measure => (simp [intOf]; try omega)
            · obtain rfl : i = p.n := by omega
              go_wp2_with fail
              go_loopw [4, 12] (fun u t wr => ∃ i : Nat, i ≤ p.n ∧ t = .int .i64 i ∧ CO w0.heap.size w0 u p (((wA p.n p.n ++ w2A p p.n) ++ w3A p p.n) ++ w4 p i) wr) (fun _ t _ => p.n - (intOf t).toNat)
              case atStart => exact ⟨0, Nat.zero_le _, rfl, by rw [show w4 p 0 = [] from rfl, List.append_nil]; exact HC.out⟩
              case round =>
                clear HC
                obtain ⟨i, hi, rfl, hC⟩ := hrel
                have HC := Lib.hid hC
                by_cases hlt : i < p.n
                · have HSj : Hid (((wA p.n p.n ++ w2A p p.n) ++ w3A p p.n) ++ w4 p (i + 1) = (((wA p.n p.n ++ w2A p p.n) ++ w3A p p.n) ++ w4 p i) ++ [it4 p i]) := by
                    show _ = _
                    rw [w4_succ, app2]
                  have HLN : Hid ((((wA p.n p.n ++ w2A p p.n) ++ w3A p p.n) ++ w4 p i).length ≤ 1000000) := by
                    show _ ≤ _
                    simp only [List.length_append, w4_len]
                    have := wA_len (n := p.n) (m := p.n) hn6 hn6
                    have := w2A_len (p := p) (m := p.n) hn6 hn6
                    have := w3A_len (p := p) (m := p.n) hn6 hn6
                    omega
                  obtain ⟨L, hL⟩ : ∃ L, ((wA p.n p.n ++ w2A p p.n) ++ w3A p p.n) ++ w4 p i = L := ⟨_, rfl⟩
                  rw [hL] at hC HC HSj HLN
                  obtain ⟨aL, cL, rfl⟩ := hC.form
                  have hBr := hC.below
                  have HBr := Lib.hid hBr
                  have zz := hBr.size
                  have hltI : (i : Int) < (p.n : Int) := by omega
                  have r7 := HVd.out.rk i hlt
                  obtain ⟨m, hm⟩ : ∃ m : Nat, p.r i = (m : Int) := ⟨(p.r i).toNat, by omega⟩
                  rw [hm] at r7
                  obtain ⟨bo, oo, heo, hco⟩ := (HP.out.below G0.out).1.at (j := i) hlt
                  obtain rfl : p1 = some ⟨bo, oo, none⟩ := by simpa using heo
                  have hco' : w0.cell? ⟨bo, oo + i, none⟩ = some (.int .i64 m) := by rw [hco, ← hm]; rfl
                  have HCO := Lib.hid hco'
                  have KP : Hid (∀ wx, Below w0.heap.size w0 wx → wx.cell? ⟨w.heap.size, 0, none⟩ = some (Value.slice (some ⟨bo, oo, none⟩) p.n q1) ∧ wx.cell? ⟨w.heap.size, 1, none⟩ = some (Value.slice p2 p.n q2) ∧ wx.cell? ⟨w.heap.size, 2, none⟩ = some (Value.slice p3 p.n q3) ∧ wx.cell? ⟨bo, oo + i, none⟩ = some (.int .i64 m)) := fun wx hb =>
                    ⟨(KEEP.out wx hb).1, (KEEP.out wx hb).2.1, (KEEP.out wx hb).2.2, below_cells hb _ _ HCO.out⟩
                  obtain ⟨it, hit⟩ : ∃ it, it4 p i = it := ⟨_, rfl⟩
                  have HG : Hid (CG p it) := hit ▸ CG.four HVd.out hlt
                  have HW : Hid (it.1 = List.replicate (m + 1) ((i : Int) + 1)) := by show _ = _; rw [← hit]; unfold it4; rw [hm]; rfl
                  have HT2 : Hid ((it.2 : Int) = 1) := by show _ = _; rw [← hit]; rfl
                  rw [hit] at HSj
                  have HPQ : Hid (∀ (wx : World) (vx : Value), Below w0.heap.size w0 wx → Rd wx vx it.1 → Calls Try.prog 46 #[.agg #[Value.slice (some ⟨bo, oo, none⟩) p.n q1, Value.slice p2 p.n q2, Value.slice p3 p.n q3], vx, .int .i64 1] wx (RetPr wx p it vx)) := fun wx vx hb hx => by
                    have h := HPR.out it wx vx HG.out hb hx
                    rwa [HT2.out] at h
                  have HSM : Hid (∀ wx, Calls Try.prog 47 #[.int .i64 ((i : Int) + 1), .int .i64 ((m : Int) + 1)] wx (RetInts wx (List.replicate (m + 1) ((i : Int) + 1)))) := fun wx => by
                    have h := s_l09Same ((i : Int) + 1) (m + 1) wx (by omega)
                    rwa [show ((m + 1 : Nat) : Int) = (m : Int) + 1 by omega] at h
                  have W2 : IntKind.i64.wrap ((i : Int) + 1) = (i : Int) + 1 := IntWalk.i64_in _ (by omega)
                  have W3 : IntKind.i64.wrap ((m : Int) + 1) = (m : Int) + 1 := IntWalk.i64_in _ (by omega)
                  clear hL hC hBr hm hco hco' heo hit
                  go_wp2_with fail
                  go_region_held3 (fun wx => wx.cell? ⟨w.heap.size, 0, none⟩ = some (Value.slice (some ⟨bo, oo, none⟩) p.n q1) ∧ wx.cell? ⟨w.heap.size, 1, none⟩ = some (Value.slice p2 p.n q2) ∧ wx.cell? ⟨w.heap.size, 2, none⟩ = some (Value.slice p3 p.n q3) ∧ wx.cell? ⟨bo, oo + i, none⟩ = some (.int .i64 m))
                    (first
                      | exact KP.out _ (below_size HBr.out (Below.refl _ _).drew)
                      | exact KP.out _ hC8.below
                      | exact KP.out _ (below_size HBr.out hK7)
                      | exact KP.out _ (ball (below_size HBr.out hK7) _)
                      | exact KP.out _ (below_size HBr.out hK5))
                    (first
                      | ((go_at_call 47); (with_reducible refine (HSM.out _).mono ?_); (rintro e w5 ⟨u5, rfl, hI5, hB5⟩); (have hK5 : Below wr.heap.size wr w5 := below_size (Below.refl _ _).drew hB5); (obtain ⟨a5, c5, rfl, _, _⟩ := hI5.rd.formN (n := m + 1) (by first | (simp; done) | (simp; omega))))
                      | ((go_at_call 46); (with_reducible refine (HPQ.out _ _ (below_size HBr.out hK5) (by rw [HW.out]; exact hI5.rd)).mono ?_); (rintro e w7 ⟨u3, u4, m7, rfl, hm1, hm2, hO3, hO4, hB7⟩); (have hK7 : Below wr.heap.size wr w7 := below_size hK5 hB7); (obtain ⟨a3, c3, rfl, _, _⟩ := hO3.rd.form); (obtain ⟨a4, c4, rfl, _, _⟩ := hO4.rd.form))
                      | (obtain ⟨v8, w8, hr8, hC8⟩ := CO.pair (it := it) HC.out (Nat.le_refl _) zz hK5 (by rw [HW.out]; exact hI5.mono (B' := wr.heap.size) (Nat.le_refl _)) hm1 hO3 hO4 hB7 rfl rfl rfl HLN.out
                         refine step_of_run rfl (.tmp 117) (.tmp 129) 30 rfl _ _ (by simp [Act.eval, Act.put]) (by simp [Act.eval, Act.put]) _ _ hr8 ?_))
                  all_goals
                    have HC8 := Lib.hid hC8
                    clear hI5 hB5 hK5 hO3 hO4 hB7 hK7 hm1 hm2 hr8 hC8 KP HPQ HSM
                    go_wp2_with fail
                    go_roundw
                    case rel => exact ⟨i + 1, by omega, by go_num, by rw [HSj.out]; exact HC8.out⟩
                    case measure => (simp [intOf]; try omega)
                · obtain rfl : i = p.n := by omega
                  obtain ⟨aL, cL, rfl⟩ := hC.form
                  have HFIN : Hid (∀ v, CO w0.heap.size w0 v p (((wA p.n p.n ++ w2A p p.n) ++ w3A p p.n) ++ w4 p p.n) wr → CO w.heap.size w v p (cpL p) wr) := fun v h => by
                    obtain ⟨S, h1, h2, h3⟩ := h
                    have e : ((wA p.n p.n ++ w2A p p.n) ++ w3A p p.n) ++ w4 p p.n = cpL p := by unfold cpL; simp only [List.append_assoc]
                    rw [e] at h1
                    exact ⟨S, h1, fun k hk => ⟨by have := (h2 k hk).1; have := HSZ.out; omega, (h2 k hk).2⟩, below_size G0.out h3⟩
                  clear hC
                  go_wp2_with fail
                  go_ret
                  exact ⟨_, rfl, HFIN.out _ HC.out⟩
--== end
end Go.Proofs.Ytiikoappknejgaa
