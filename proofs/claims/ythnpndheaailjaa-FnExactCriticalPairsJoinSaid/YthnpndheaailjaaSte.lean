/-
  Steps of a collection: the walks of stepAt and l09Step.
-/
import Derived.Test.YthnpndheaailjaaStp
import Derived.Test.YthnpndheaailjaaLev
import Derived.Test.YthnpndheaailjaaCut
import Derived.Deep.DrawnRows
namespace Go.Proofs.Ythnpndheaailjaa
set_option linter.unusedVariables false
set_option linter.unusedSimpArgs false
set_option maxRecDepth 100000
open Go.RowKit
attribute [local go_sem ↓] Go.wp_at_zero Go.wp_at_succ

--== impl.stepAt
set_option maxHeartbeats 16000000 in
theorem i_stepAt_d (vp v : Value) (p : Pres) (xs : List Int) (t : Nat) (w : World) (hV : ValidP p) (hp : PtrP w vp p) (hv : Rd w v xs) (ht : t < xs.length) (hw : PosW p.n xs) (hd : descB xs t = true) (hx : xs.length ≤ 100000) :
    Calls Try.prog 161 #[vp, v, .int .i64 t] w (RetInts w (stepL p xs t)) := by
  have hn6 := hV.n6
  obtain ⟨q1, q2⟩ := hw.lt ht
  have hn : 0 < p.n := by omega
  obtain ⟨pb, v1, v2, v3, rfl, c1, c2, c3, R1, R2, R3⟩ := hp
  obtain ⟨ao, cap, rfl, hc1, hc2⟩ := hv.form
  have hct := hv.at ht
  have HV := Lib.hid hv
  have HP := Lib.hid (hv.preL t (by omega))
  have W0 : IntKind.i64.wrap ((t : Int) + 1) = (t : Int) + 1 := IntWalk.i64_in _ (by omega)
  obtain ⟨h1, h2⟩ := descB_iff.1 hd
  have hL := Lib.hid (stepL_d (p := p) hd)
  obtain ⟨q3, q4⟩ := hw.lt h1
  obtain ⟨d1, d2⟩ := desc_at hw hd
  obtain ⟨bw, ow, rfl, hct0⟩ := hct
  obtain ⟨_, _, he, hct1⟩ := hv.at h1
  cases he
  obtain ⟨b3, o3, q, rfl, kc⟩ := conj_at hV R3 (i := lt0 xs (t + 1)) q4
  obtain ⟨a4, z4, k4, kc4⟩ := kc
  obtain ⟨i, hi⟩ : ∃ i, lt0 xs (t + 1) = i := ⟨_, rfl⟩
  obtain ⟨j, hj⟩ : ∃ j, lt0 xs t = j := ⟨_, rfl⟩
  have hL2 : Hid (stepD p xs t = cat [xs.take t, [(i : Int) + 1], nwL (p.C i j), xs.drop (t + 2)]) := by show _ = _; unfold stepD; rw [q3, hi, hj]
  rw [hi] at q3 q4 d1 k4 kc4
  rw [hj] at q1 q2 d1 d2
  obtain ⟨k, hk⟩ : ∃ k, j = i + 1 + k := ⟨j - i - 1, by omega⟩
  obtain ⟨b4, o4, rfl, a5, z5, k5, R5⟩ := kc4 k (by omega)
  rw [← hk] at R5
  have SM := (hV.valid.cj i j (by omega) (by omega)).sm hV
  rw [q1] at hct0
  rw [q3] at hct1
  have D1 : decide ((t : Int) + 1 < (xs.length : Int)) = true := by simp; omega
  have L1 : (t : Int) + 1 < (xs.length : Int) := by omega
  have D2 : decide ((i : Int) + 1 < (j : Int) + 1) = true := by simp; omega
  have D3 : decide ((j : Int) + 1 > (i : Int) + 1) = true := by simp; omega
  have W1 : IntKind.i64.wrap ((j : Int) + 1 - 1) = (j : Int) := by rw [IntWalk.i64_in _ (by omega)]; omega
  have W2 : IntKind.i64.wrap ((i : Int) + 1 - 1) = (i : Int) := by rw [IntWalk.i64_in _ (by omega)]; omega
  have HQ := Lib.hid (And.intro q1 q3)
  have HK := Lib.hid hk
  have HSM := Lib.hid SM
  have HR5 := Lib.hid R5
  have C3 := Lib.hid c3
  have K4 := Lib.hid k4
  have K5 := Lib.hid k5
  have hci : (i : Int) < (p.n : Int) := by omega
  have hck : (k : Int) < ((p.n - (i + 1) : Nat) : Int) := by omega
  have hk0 : (0 : Int) ≤ (k : Int) := by omega
  clear q1 q3 hk kc4 hi hj SM c1 c2 R1 R2 R3 hV hw hd hv R5 k4 k5 c3
  go_enter Try.func161, Try.ntmps161
  go_wp2_with fail
  go_quiet (fail)
  clear D1 D2 D3
  obtain ⟨w1, HW1⟩ : ∃ w1, Hid (w.drewN nq = w1) := ⟨_, rfl⟩
  rw [HW1.out]
  have hct2 : w1.cell? ⟨bw, ow + t, none⟩ = some (.int .i64 ((j : Int) + 1)) := by rw [← HW1.out]; exact hct0
  have hct3 : w1.cell? ⟨bw, ow + (t + 1), none⟩ = some (.int .i64 ((i : Int) + 1)) := by rw [← HW1.out]; exact hct1
  clear hct0 hct1
  go_wp2_with fail
  go_quiet (fail)
  clear W0 W1 W2 hct2 hct3
  obtain ⟨w2, HW2⟩ : ∃ w2, Hid (w1.drewN nq = w2) := ⟨_, rfl⟩
  rw [HW2.out]
  have B2 : Below w.heap.size w w2 := by rw [← HW2.out, ← HW1.out]; exact below_drewN (below_drewN (Below.refl _ _) _) _
  have c3 := below_cells B2 _ _ C3.out
  have k4 := below_cells B2 _ _ K4.out
  have k5 := below_cells B2 _ _ K5.out
  have HV2 := Lib.hid (HV.out.below B2)
  have HP2 := Lib.hid (HP.out.below B2)
  have HRR := Lib.hid (HR5.out.below B2)
  have HB2 := Lib.hid B2
  clear B2 HW1 HW2
  have W3 : IntKind.i64.wrap ((i : Int) + 1) = (i : Int) + 1 := IntWalk.i64_in _ (by omega)
  have W4 : IntKind.i64.wrap ((j : Int) - i) = (k : Int) + 1 := by have := HK.out; rw [IntWalk.i64_in _ (by omega)]; omega
  have W5 : IntKind.i64.wrap ((k : Int) + 1 - 1) = (k : Int) := by rw [IntWalk.i64_in _ (by omega)]; omega
  have W7 : IntKind.i64.wrap (k : Int) = (k : Int) := IntWalk.i64_in _ (by omega)
  have W6 : IntKind.i64.wrap ((t : Int) + 2) = (t : Int) + 2 := IntWalk.i64_in _ (by omega)
  have L2 : (t : Int) + 2 ≤ (xs.length : Int) := by omega
  have L3 : (0 : Int) ≤ (t : Int) + 2 := by omega
  have L4 : ((t : Int) + 2).toNat = t + 2 := by omega
  have L5 : (t : Int) ≤ (cap : Int) := by omega
  have HLEN : Hid ((cat [xs.take t, [(i : Int) + 1], nwL (p.C i j), xs.drop (t + 2)]).length ≤ 100000000) := by
    show _ ≤ _
    have := nwL_len HSM.out
    rw [cat4']; simp only [List.length_append, List.length_take, List.length_drop, List.length_cons, List.length_nil]; omega
  obtain ⟨a', ha', hsuf⟩ := HV2.out.cutL (t + 2) (by omega)
  have HSUF := Lib.hid hsuf
  have KEEP : Hid (∀ wx, Below w2.heap.size w2 wx → Below w2.heap.size w2 wx ∧ wx.cell? ⟨pb, 2, none⟩ = some (Value.slice (some ⟨b3, o3, none⟩) p.n q) ∧ wx.cell? ⟨b3, o3 + i, none⟩ = some (Value.slice (some ⟨b4, o4, none⟩) (p.n - (i + 1)) z4) ∧ wx.cell? ⟨b4, o4 + k, none⟩ = some (Value.slice a5 p.n z5)) := fun wx hb =>
    ⟨hb, below_cells hb _ _ c3, below_cells hb _ _ k4, below_cells hb _ _ k5⟩
  clear hsuf
  by_cases hct4 : cap = t + 2
  all_goals
   first | rw [if_pos hct4] at ha' | (rw [if_neg hct4] at ha'; simp only [Option.map_some, Addr.add_lit] at ha')
   subst ha'
   first | (have hcT : (cap = t + 2) ↔ True := iff_true_intro hct4) | (have hcT : True := trivial)
   have hcz : ¬ cap = 0 := by omega
   try (have hct5 : cap = t + 2 := hct4; clear hct5 hct4)
   go_wp2_with fail
   go_region_held3 (fun wx => Below w2.heap.size w2 wx ∧ wx.cell? ⟨pb, 2, none⟩ = some (Value.slice (some ⟨b3, o3, none⟩) p.n q) ∧ wx.cell? ⟨b3, o3 + i, none⟩ = some (Value.slice (some ⟨b4, o4, none⟩) (p.n - (i + 1)) z4) ∧ wx.cell? ⟨b4, o4 + k, none⟩ = some (Value.slice a5 p.n z5))
     (first | exact KEEP.out _ (Below.refl _ _).drew | exact KEEP.out _ hk5 | exact KEEP.out _ (below_size (And.left (by assumption)) (by assumption)) | exact KEEP.out _ (ball (And.left (by assumption)) _))
     (first
       | ((go_at_call 93); (with_reducible refine (i_normalWord _ (p.C i j) _ (HRR.out.below (And.left (by assumption))) HSM.out).mono ?_); (rintro e w3 ⟨u3, rfl, hI3, hB3⟩); (obtain ⟨a9, c9, rfl, _, _⟩ := hI3.rd.form))
       | ((have hK3 : Below w2.heap.size w2 w3 := (by first | exact below_size (below_alloc w2 _).drew hB3 | exact below_size (Below.refl _ _).drew hB3)); (have hA : Rd w3 (.slice (some ⟨w2.heap.size, 0, none⟩) 1 1) [(i : Int) + 1] := (by first | exact (Rd.litS w2 _ _).below hB3 | exact (Rd.drew1 (Rd.litS w2 _ _)).below hB3)); (go_at_call 114); (with_reducible refine (f_Concat _ [xs.take t, [(i : Int) + 1], nwL (p.C i j), xs.drop (t + 2)] _ (Rd2.lit4 _ _ _ _ _ _ _ _ _ (HP2.out.below hK3) hA hI3.rd (HSUF.out.below hK3)) HLEN.out).mono ?_); (rintro e w5 ⟨u5, rfl, hI5, hB5⟩); (have hk5 : Below w2.heap.size w2 w5 := below_size (below_size hK3 (below_alloc w3 _)) hB5); (have hfin : Below w.heap.size w w5 := below_size HB2.out hk5); (have hfi2 : Ints w5 w.heap.size u5 (stepL p xs t) := (by rw [hL.out, hL2.out]; exact hI5.mono (by have := HB2.out.size; have := hK3.size; simp; omega))); (obtain ⟨a8, c8, rfl, _, _⟩ := hfi2.form); (clear hI5 hB5))
       | ((have hK3 : Below w2.heap.size w2 w3 := (by first | exact below_size (below_alloc w2 _).drew hB3 | exact below_size (Below.refl _ _).drew hB3)); (have hK4 := below_size hK3 (below_alloc w3 (Obj.cells #[Value.int .i64 ((i : Int) + 1)] 2))); (have hlit := Rd2.lit4 22 _ _ _ _ _ _ _ _ (HP2.out.below hK4) (Rd.litS w3 2 ((i : Int) + 1)) (hI3.rd.below (below_alloc w3 _)) (HSUF.out.below hK4)); (rw [show (w3.alloc (Obj.cells #[Value.int .i64 ((i : Int) + 1)] 2)).heap.size = w3.heap.size + 1 by simp] at hlit); (go_at_call 114); (with_reducible refine (f_Concat _ [xs.take t, [(i : Int) + 1], nwL (p.C i j), xs.drop (t + 2)] _ hlit HLEN.out).mono ?_); (rintro e w5 ⟨u5, rfl, hI5, hB5⟩); (have hk5 : Below w2.heap.size w2 w5 := below_size (below_size hK4 (below_alloc (w3.alloc _) _)) hB5); (have hfin : Below w.heap.size w w5 := below_size HB2.out hk5); (have hfi2 : Ints w5 w.heap.size u5 (stepL p xs t) := (by rw [hL.out, hL2.out]; exact hI5.mono (by have := HB2.out.size; have := hK3.size; simp; omega))); (obtain ⟨a8, c8, rfl, _, _⟩ := hfi2.form); (clear hI5 hB5)))
   all_goals
    go_wp2_with fail
    go_ret
    exact ⟨_, rfl, hfi2, hfin⟩
set_option maxHeartbeats 16000000 in
theorem i_stepAt_r (vp v : Value) (p : Pres) (xs : List Int) (t : Nat) (w : World) (hV : ValidP p) (hp : PtrP w vp p) (hv : Rd w v xs) (ht : t < xs.length) (hw : PosW p.n xs) (hr : redB p.orders xs t = true) (hd : descB xs t = false) (hx : xs.length ≤ 100000) :
    Calls Try.prog 161 #[vp, v, .int .i64 t] w (RetInts w (stepL p xs t)) := by
  have hn6 := hV.n6
  obtain ⟨q1, q2⟩ := hw.lt ht
  have hn : 0 < p.n := by omega
  have hrun := red_run ht hV hw hr hd
  obtain ⟨pb, v1, v2, v3, rfl, c1, c2, c3, R1, R2, R3⟩ := hp
  obtain ⟨ao, cap, rfl, hc1, hc2⟩ := hv.form
  obtain ⟨bw, ow, rfl, hct0⟩ := hv.at ht
  have HV := Lib.hid hv
  have HP := Lib.hid (hv.preL t (by omega))
  have W0 : IntKind.i64.wrap ((t : Int) + 1) = (t : Int) + 1 := IntWalk.i64_in _ (by omega)
  obtain ⟨bo, oo, qo, rfl, hOA⟩ := ord_at R1 hn
  obtain ⟨bp, op, qp, rfl, hPA⟩ := pow_at hV R2 hn
  have hL := Lib.hid (stepL_r (p := p) hd)
  obtain ⟨j, hj⟩ : ∃ j, lt0 xs t = j := ⟨_, rfl⟩
  obtain ⟨m, hm, hm7⟩ : ∃ m : Nat, p.r j = (m : Int) ∧ 2 ≤ m ∧ m ≤ 7 := ⟨(p.r j).toNat, by have := hV.rk j (by omega); omega, by have := hV.rk j (by omega); omega⟩
  have hL2 : Hid (stepR p xs t = cat [xs.take t, nwL (p.P j), xs.drop (t + m)]) := by show _ = _; unfold stepR; rw [hj, hm]; rfl
  rw [hj, hm] at hrun
  rw [hj] at q1 q2
  have hrun2 : t + m ≤ xs.length := by have : ((m : Int)).toNat = m := rfl; omega
  have k1 := hOA j q2
  rw [hm] at k1
  obtain ⟨a5, z5, k5, R5⟩ := hPA j q2
  have SM := (hV.valid.pow j q2).sm hV
  rw [q1] at hct0
  have HSM := Lib.hid SM
  have HR5 := Lib.hid R5
  have C1 := Lib.hid c1
  have C2 := Lib.hid c2
  have K1 := Lib.hid k1
  have K5 := Lib.hid k5
  have W1 : IntKind.i64.wrap ((j : Int) + 1 - 1) = (j : Int) := by rw [IntWalk.i64_in _ (by omega)]; omega
  have hcj : (j : Int) < (p.n : Int) := by omega
  have HLEN : Hid ((cat [xs.take t, nwL (p.P j), xs.drop (t + m)]).length ≤ 100000000) := by
    show _ ≤ _
    have := nwL_len SM
    rw [cat3]; simp only [List.length_append, List.length_take, List.length_drop]; omega
  clear hj hm hrun hOA hPA SM R1 R2 R3 hV hr R5 k1 k5 c1 c2 c3
  by_cases h1 : t + 1 < xs.length
  · have h2 : ¬ xs.getD (t + 1) 0 < xs.getD t 0 := fun h => by have := descB_iff.2 ⟨h1, h⟩; rw [hd] at this; cases this
    rw [q1] at h2
    obtain ⟨_, _, he, hct1⟩ := hv.at h1
    cases he
    obtain ⟨x, Hx⟩ := named (xs.getD (t + 1) 0)
    rw [Hx.out] at h2 hct1
    have D1 : decide ((t : Int) + 1 < (xs.length : Int)) = true := by simp; omega
    have L1 : (t : Int) + 1 < (xs.length : Int) := by omega
    have D2 : decide (x < (j : Int) + 1) = false := by simpa using h2
    have D3 : decide ((j : Int) + 1 > x) = false := by simpa using h2
    clear q1 hd hw hv h2
    go_enter Try.func161, Try.ntmps161
    go_wp2_with fail
    go_quiet (fail)
    clear D1 D2 D3 hct1
    obtain ⟨w2, HW1⟩ : ∃ w1, Hid (w.drewN nq = w1) := ⟨_, rfl⟩
    rw [HW1.out]
    have B2 : Below w.heap.size w w2 := by rw [← HW1.out]; exact below_drewN (Below.refl _ _) _
    have hct2 : w2.cell? ⟨bw, ow + t, none⟩ = some (.int .i64 ((j : Int) + 1)) := below_cells B2 _ _ hct0
    have c1 := below_cells B2 _ _ C1.out
    have c2 := below_cells B2 _ _ C2.out
    have k1 := below_cells B2 _ _ K1.out
    have k5 := below_cells B2 _ _ K5.out
    have HV2 := Lib.hid (HV.out.below B2)
    have HP2 := Lib.hid (HP.out.below B2)
    have HRR := Lib.hid (HR5.out.below B2)
    have HB2 := Lib.hid B2
    have W6 : IntKind.i64.wrap ((t : Int) + m) = (t : Int) + m := IntWalk.i64_in _ (by omega)
    have L2 : (t : Int) + m ≤ (xs.length : Int) := by omega
    have L3 : (0 : Int) ≤ (t : Int) + m := by omega
    have L4 : ((t : Int) + m).toNat = t + m := by omega
    have L5 : (t : Int) ≤ (cap : Int) := by omega
    have hcz : ¬ cap = 0 := by omega
    obtain ⟨a', ha', hsuf⟩ := HV2.out.cutL (t + m) (by omega)
    have HSUF := Lib.hid hsuf
    have KEEP : Hid (∀ wx, Below w2.heap.size w2 wx → Below w2.heap.size w2 wx ∧ wx.cell? ⟨pb, 0, none⟩ = some (Value.slice (some ⟨bo, oo, none⟩) p.n qo) ∧ wx.cell? ⟨pb, 1, none⟩ = some (Value.slice (some ⟨bp, op, none⟩) p.n qp) ∧ wx.cell? ⟨bo, oo + j, none⟩ = some (.int .i64 (m : Int)) ∧ wx.cell? ⟨bp, op + j, none⟩ = some (Value.slice a5 p.n z5)) := fun wx hb =>
      ⟨hb, below_cells hb _ _ c1, below_cells hb _ _ c2, below_cells hb _ _ k1, below_cells hb _ _ k5⟩
    clear hsuf HW1 B2 W0 hct0
    go_wp2_with fail
    clear W1
    by_cases hct4 : cap = t + m
    all_goals
     first | rw [if_pos hct4] at ha' | (rw [if_neg hct4] at ha'; simp only [Option.map_some, Addr.add_lit] at ha')
     subst ha'
     first | (have hcT : (cap = t + m) ↔ True := iff_true_intro hct4) | (have hcT : True := trivial)
     try (have hct5 : cap = t + m := hct4; clear hct5 hct4)
     go_region_held3 (fun wx => Below w2.heap.size w2 wx ∧ wx.cell? ⟨pb, 0, none⟩ = some (Value.slice (some ⟨bo, oo, none⟩) p.n qo) ∧ wx.cell? ⟨pb, 1, none⟩ = some (Value.slice (some ⟨bp, op, none⟩) p.n qp) ∧ wx.cell? ⟨bo, oo + j, none⟩ = some (.int .i64 (m : Int)) ∧ wx.cell? ⟨bp, op + j, none⟩ = some (Value.slice a5 p.n z5))
       (first | exact KEEP.out _ (Below.refl _ _).drew | exact KEEP.out _ hk5 | exact KEEP.out _ (below_size (And.left (by assumption)) (by assumption)) | exact KEEP.out _ (ball (And.left (by assumption)) _))
       (first
         | ((go_at_call 93); (with_reducible refine (i_normalWord _ (p.P j) _ (HRR.out.below (And.left (by assumption))) HSM.out).mono ?_); (rintro e w3 ⟨u3, rfl, hI3, hB3⟩); (obtain ⟨a9, c9, rfl, _, _⟩ := hI3.rd.form))
         | ((have hK3 : Below w2.heap.size w2 w3 := below_size (Below.refl _ _).drew hB3); (go_at_call 114); (with_reducible refine (f_Concat _ [xs.take t, nwL (p.P j), xs.drop (t + m)] _ (Rd2.lit3 _ _ _ _ _ _ _ (HP2.out.below hK3) hI3.rd (HSUF.out.below hK3)) HLEN.out).mono ?_); (rintro e w5 ⟨u5, rfl, hI5, hB5⟩); (have hk5 : Below w2.heap.size w2 w5 := below_size (below_size hK3 (below_alloc w3 _)) hB5); (have hfin : Below w.heap.size w w5 := below_size HB2.out hk5); (have hfi2 : Ints w5 w.heap.size u5 (stepL p xs t) := (by rw [hL.out, hL2.out]; exact hI5.mono (by have := HB2.out.size; have := hK3.size; simp; omega))); (obtain ⟨a8, c8, rfl, _, _⟩ := hfi2.form); (clear hI5 hB5)))
     all_goals
      go_wp2_with fail
      go_ret
      exact ⟨_, rfl, hfi2, hfin⟩
  · exfalso; omega
theorem i_stepAt (vp v : Value) (p : Pres) (xs : List Int) (t : Nat) (w : World) (hV : ValidP p) (hp : PtrP w vp p) (hv : Rd w v xs) (ht : t < xs.length) (hw : PosW p.n xs) (hr : redB p.orders xs t = true) (hx : xs.length ≤ 100000) :
    Calls Try.prog 161 #[vp, v, .int .i64 t] w (RetInts w (stepL p xs t)) := by
  cases hd : descB xs t with
  | true => exact i_stepAt_d vp v p xs t w hV hp hv ht hw hd hx
  | false => exact i_stepAt_r vp v p xs t w hV hp hv ht hw hr hd hx
end Go.Proofs.Ythnpndheaailjaa
