/-
  Steps of a collection: the walks of stepAt and l09Step.
  Steps of a collection: the walk of l09Step.
  CollectStep.
  Collections: collect, l07Vector, l09Collect.
  CollectWord and CollectProduct: the plain part, and an append as a run.
  CollectWord.
  Normal words are the words of their vectors; the steps of a collection.
  Comparing integers, a code's length.
  What the walks of the laws share, for arguments with depth: lists of lists, presentations that came in.
  A list of bytes that came in.
  The walk of the law FnSteps.
-/
import Derived.Test.YtiikoappknejgaaYj
import Derived.Test.YtiikoappknejgaaZd
import Derived.Deep.DrawnRows
import Derived.Test.YtiikoappknejgaaZc
import Derived.Test.YtiikoappknejgaaZf
import Derived.Test.YtiikoappknejgaaZb
import Derived.Deep.Slices
import Derived.Deep.RegionHeld3
import Derived.Test.YtiikoappknejgaaYi
namespace Go.Proofs.Ytiikoappknejgaa
set_option linter.unusedVariables false
set_option linter.unusedSimpArgs false
set_option maxRecDepth 100000
open Go.RowKit
attribute [local go_sem ↓] Go.wp_at_zero Go.wp_at_succ

--== impl.stepAt
set_option maxHeartbeats 16000000 in
theorem i_stepAt_d (vp v : Value) (p : Pres) (xs : List Int) (t : Nat) (w : World) (hV : ValidP p) (hp : PtrP w vp p) (hv : Rd w v xs) (ht : t < xs.length) (hw : PosW p.n xs) (hd : descB xs t = true) (hx : xs.length ≤ 100000) :
    Calls Try.prog 25 #[vp, v, .int .i64 t] w (RetInts w (stepL p xs t)) := by
  have hn6 := hV.n6
  obtain ⟨q1, q2⟩ := hw.lt ht
  have hn : 0 < p.n := by omega
  obtain ⟨pb, v1, v2, v3, rfl, c1, c2, c3, R1, R2, R3⟩ := hp
  obtain ⟨ao, cap, rfl, hc1, hc2⟩ := hv.form
  have hct := hv.at ht
  have HV := Lib.hid hv
  have HP := Lib.hid (hv.preL t (by omega))
  have W0 : IntKind.i64.wrap ((t : Int) + 1) = (t : Int) + 1 := IntWalk.i64_in _ (by omega)
  obtain ⟨h1, h2⟩ := descB_iff.1 hd
  have hL := Lib.hid (stepL_d (p := p) hd)
  obtain ⟨q3, q4⟩ := hw.lt h1
  obtain ⟨d1, d2⟩ := desc_at hw hd
  obtain ⟨bw, ow, rfl, hct0⟩ := hct
  obtain ⟨_, _, he, hct1⟩ := hv.at h1
  cases he
  obtain ⟨b3, o3, q, rfl, kc⟩ := conj_at hV R3 (i := lt0 xs (t + 1)) q4
  obtain ⟨a4, z4, k4, kc4⟩ := kc
  obtain ⟨i, hi⟩ : ∃ i, lt0 xs (t + 1) = i := ⟨_, rfl⟩
  obtain ⟨j, hj⟩ : ∃ j, lt0 xs t = j := ⟨_, rfl⟩
  have hL2 : Hid (stepD p xs t = cat [xs.take t, [(i : Int) + 1], nwL (p.C i j), xs.drop (t + 2)]) := by show _ = _; unfold stepD; rw [q3, hi, hj]
  rw [hi] at q3 q4 d1 k4 kc4
  rw [hj] at q1 q2 d1 d2
  obtain ⟨k, hk⟩ : ∃ k, j = i + 1 + k := ⟨j - i - 1, by omega⟩
  obtain ⟨b4, o4, rfl, a5, z5, k5, R5⟩ := kc4 k (by omega)
  rw [← hk] at R5
  have SM := (hV.valid.cj i j (by omega) (by omega)).sm hV
  rw [q1] at hct0
  rw [q3] at hct1
  have D1 : decide ((t : Int) + 1 < (xs.length : Int)) = true := by simp; omega
  have L1 : (t : Int) + 1 < (xs.length : Int) := by omega
  have D2 : decide ((i : Int) + 1 < (j : Int) + 1) = true := by simp; omega
  have D3 : decide ((j : Int) + 1 > (i : Int) + 1) = true := by simp; omega
  have W1 : IntKind.i64.wrap ((j : Int) + 1 - 1) = (j : Int) := by rw [IntWalk.i64_in _ (by omega)]; omega
  have W2 : IntKind.i64.wrap ((i : Int) + 1 - 1) = (i : Int) := by rw [IntWalk.i64_in _ (by omega)]; omega
  have HQ := Lib.hid (And.intro q1 q3)
  have HK := Lib.hid hk
  have HSM := Lib.hid SM
  have HR5 := Lib.hid R5
  have C3 := Lib.hid c3
  have K4 := Lib.hid k4
  have K5 := Lib.hid k5
  have hci : (i : Int) < (p.n : Int) := by omega
  have hck : (k : Int) < ((p.n - (i + 1) : Nat) : Int) := by omega
  have hk0 : (0 : Int) ≤ (k : Int) := by omega
  clear q1 q3 hk kc4 hi hj SM c1 c2 R1 R2 R3 hV hw hd hv R5 k4 k5 c3
  go_enter Try.func25, Try.ntmps25
  go_wp2_with fail
  go_quiet (fail)
  clear D1 D2 D3
  obtain ⟨w1, HW1⟩ : ∃ w1, Hid (w.drewN nq = w1) := ⟨_, rfl⟩
  rw [HW1.out]
  have hct2 : w1.cell? ⟨bw, ow + t, none⟩ = some (.int .i64 ((j : Int) + 1)) := by rw [← HW1.out]; exact hct0
  have hct3 : w1.cell? ⟨bw, ow + (t + 1), none⟩ = some (.int .i64 ((i : Int) + 1)) := by rw [← HW1.out]; exact hct1
  clear hct0 hct1
  go_wp2_with fail
  go_quiet (fail)
  clear W0 W1 W2 hct2 hct3
  obtain ⟨w2, HW2⟩ : ∃ w2, Hid (w1.drewN nq = w2) := ⟨_, rfl⟩
  rw [HW2.out]
  have B2 : Below w.heap.size w w2 := by rw [← HW2.out, ← HW1.out]; exact below_drewN (below_drewN (Below.refl _ _) _) _
  have c3 := below_cells B2 _ _ C3.out
  have k4 := below_cells B2 _ _ K4.out
  have k5 := below_cells B2 _ _ K5.out
  have HV2 := Lib.hid (HV.out.below B2)
  have HP2 := Lib.hid (HP.out.below B2)
  have HRR := Lib.hid (HR5.out.below B2)
  have HB2 := Lib.hid B2
  clear B2 HW1 HW2
  have W3 : IntKind.i64.wrap ((i : Int) + 1) = (i : Int) + 1 := IntWalk.i64_in _ (by omega)
  have W4 : IntKind.i64.wrap ((j : Int) - i) = (k : Int) + 1 := by have := HK.out; rw [IntWalk.i64_in _ (by omega)]; omega
  have W5 : IntKind.i64.wrap ((k : Int) + 1 - 1) = (k : Int) := by rw [IntWalk.i64_in _ (by omega)]; omega
  have W7 : IntKind.i64.wrap (k : Int) = (k : Int) := IntWalk.i64_in _ (by omega)
  have W6 : IntKind.i64.wrap ((t : Int) + 2) = (t : Int) + 2 := IntWalk.i64_in _ (by omega)
  have L2 : (t : Int) + 2 ≤ (xs.length : Int) := by omega
  have L3 : (0 : Int) ≤ (t : Int) + 2 := by omega
  have L4 : ((t : Int) + 2).toNat = t + 2 := by omega
  have L5 : (t : Int) ≤ (cap : Int) := by omega
  have HLEN : Hid ((cat [xs.take t, [(i : Int) + 1], nwL (p.C i j), xs.drop (t + 2)]).length ≤ 100000000) := by
    show _ ≤ _
    have := nwL_len HSM.out
    rw [cat4']; simp only [List.length_append, List.length_take, List.length_drop, List.length_cons, List.length_nil]; omega
  obtain ⟨a', ha', hsuf⟩ := HV2.out.cutL (t + 2) (by omega)
  have HSUF := Lib.hid hsuf
  have KEEP : Hid (∀ wx, Below w2.heap.size w2 wx → Below w2.heap.size w2 wx ∧ wx.cell? ⟨pb, 2, none⟩ = some (Value.slice (some ⟨b3, o3, none⟩) p.n q) ∧ wx.cell? ⟨b3, o3 + i, none⟩ = some (Value.slice (some ⟨b4, o4, none⟩) (p.n - (i + 1)) z4) ∧ wx.cell? ⟨b4, o4 + k, none⟩ = some (Value.slice a5 p.n z5)) := fun wx hb =>
    ⟨hb, below_cells hb _ _ c3, below_cells hb _ _ k4, below_cells hb _ _ k5⟩
  clear hsuf
  by_cases hct4 : cap = t + 2
  all_goals
   first | rw [if_pos hct4] at ha' | (rw [if_neg hct4] at ha'; simp only [Option.map_some, Addr.add_lit] at ha')
   subst ha'
   first | (have hcT : (cap = t + 2) ↔ True := iff_true_intro hct4) | (have hcT : True := trivial)
   have hcz : ¬ cap = 0 := by omega
   try (have hct5 : cap = t + 2 := hct4; clear hct5 hct4)
   go_wp2_with fail
   go_region_held3 (fun wx => Below w2.heap.size w2 wx ∧ wx.cell? ⟨pb, 2, none⟩ = some (Value.slice (some ⟨b3, o3, none⟩) p.n q) ∧ wx.cell? ⟨b3, o3 + i, none⟩ = some (Value.slice (some ⟨b4, o4, none⟩) (p.n - (i + 1)) z4) ∧ wx.cell? ⟨b4, o4 + k, none⟩ = some (Value.slice a5 p.n z5))
     (first | exact KEEP.out _ (Below.refl _ _).drew | exact KEEP.out _ hk5 | exact KEEP.out _ (below_size (And.left (by assumption)) (by assumption)) | exact KEEP.out _ (ball (And.left (by assumption)) _))
     (first
       | ((go_at_call 34); (with_reducible refine (i_normalWord _ (p.C i j) _ (HRR.out.below (And.left (by assumption))) HSM.out).mono ?_); (rintro e w3 ⟨u3, rfl, hI3, hB3⟩); (obtain ⟨a9, c9, rfl, _, _⟩ := hI3.rd.form))
       | ((have hK3 : Below w2.heap.size w2 w3 := (by first | exact below_size (below_alloc w2 _).drew hB3 | exact below_size (Below.refl _ _).drew hB3)); (have hA : Rd w3 (.slice (some ⟨w2.heap.size, 0, none⟩) 1 1) [(i : Int) + 1] := (by first | exact (Rd.litS w2 _ _).below hB3 | exact (Rd.drew1 (Rd.litS w2 _ _)).below hB3)); (go_at_call 49); (with_reducible refine (f_Concat _ [xs.take t, [(i : Int) + 1], nwL (p.C i j), xs.drop (t + 2)] _ (Rd2.lit4 _ _ _ _ _ _ _ _ _ (HP2.out.below hK3) hA hI3.rd (HSUF.out.below hK3)) HLEN.out).mono ?_); (rintro e w5 ⟨u5, rfl, hI5, hB5⟩); (have hk5 : Below w2.heap.size w2 w5 := below_size (below_size hK3 (below_alloc w3 _)) hB5); (have hfin : Below w.heap.size w w5 := below_size HB2.out hk5); (have hfi2 : Ints w5 w.heap.size u5 (stepL p xs t) := (by rw [hL.out, hL2.out]; exact hI5.mono (by have := HB2.out.size; have := hK3.size; simp; omega))); (obtain ⟨a8, c8, rfl, _, _⟩ := hfi2.form); (clear hI5 hB5))
       | ((have hK3 : Below w2.heap.size w2 w3 := (by first | exact below_size (below_alloc w2 _).drew hB3 | exact below_size (Below.refl _ _).drew hB3)); (have hK4 := below_size hK3 (below_alloc w3 (Obj.cells #[Value.int .i64 ((i : Int) + 1)] 2))); (have hlit := Rd2.lit4 24 _ _ _ _ _ _ _ _ (HP2.out.below hK4) (Rd.litS w3 2 ((i : Int) + 1)) (hI3.rd.below (below_alloc w3 _)) (HSUF.out.below hK4)); (rw [show (w3.alloc (Obj.cells #[Value.int .i64 ((i : Int) + 1)] 2)).heap.size = w3.heap.size + 1 by simp] at hlit); (go_at_call 49); (with_reducible refine (f_Concat _ [xs.take t, [(i : Int) + 1], nwL (p.C i j), xs.drop (t + 2)] _ hlit HLEN.out).mono ?_); (rintro e w5 ⟨u5, rfl, hI5, hB5⟩); (have hk5 : Below w2.heap.size w2 w5 := below_size (below_size hK4 (below_alloc (w3.alloc _) _)) hB5); (have hfin : Below w.heap.size w w5 := below_size HB2.out hk5); (have hfi2 : Ints w5 w.heap.size u5 (stepL p xs t) := (by rw [hL.out, hL2.out]; exact hI5.mono (by have := HB2.out.size; have := hK3.size; simp; omega))); (obtain ⟨a8, c8, rfl, _, _⟩ := hfi2.form); (clear hI5 hB5)))
   all_goals
    go_wp2_with fail
    go_ret
    exact ⟨_, rfl, hfi2, hfin⟩
set_option maxHeartbeats 16000000 in
theorem i_stepAt_r (vp v : Value) (p : Pres) (xs : List Int) (t : Nat) (w : World) (hV : ValidP p) (hp : PtrP w vp p) (hv : Rd w v xs) (ht : t < xs.length) (hw : PosW p.n xs) (hr : redB p.orders xs t = true) (hd : descB xs t = false) (hx : xs.length ≤ 100000) :
    Calls Try.prog 25 #[vp, v, .int .i64 t] w (RetInts w (stepL p xs t)) := by
  have hn6 := hV.n6
  obtain ⟨q1, q2⟩ := hw.lt ht
  have hn : 0 < p.n := by omega
  have hrun := red_run ht hV hw hr hd
  obtain ⟨pb, v1, v2, v3, rfl, c1, c2, c3, R1, R2, R3⟩ := hp
  obtain ⟨ao, cap, rfl, hc1, hc2⟩ := hv.form
  obtain ⟨bw, ow, rfl, hct0⟩ := hv.at ht
  have HV := Lib.hid hv
  have HP := Lib.hid (hv.preL t (by omega))
  have W0 : IntKind.i64.wrap ((t : Int) + 1) = (t : Int) + 1 := IntWalk.i64_in _ (by omega)
  obtain ⟨bo, oo, qo, rfl, hOA⟩ := ord_at R1 hn
  obtain ⟨bp, op, qp, rfl, hPA⟩ := pow_at hV R2 hn
  have hL := Lib.hid (stepL_r (p := p) hd)
  obtain ⟨j, hj⟩ : ∃ j, lt0 xs t = j := ⟨_, rfl⟩
  obtain ⟨m, hm, hm7⟩ : ∃ m : Nat, p.r j = (m : Int) ∧ 2 ≤ m ∧ m ≤ 7 := ⟨(p.r j).toNat, by have := hV.rk j (by omega); omega, by have := hV.rk j (by omega); omega⟩
  have hL2 : Hid (stepR p xs t = cat [xs.take t, nwL (p.P j), xs.drop (t + m)]) := by show _ = _; unfold stepR; rw [hj, hm]; rfl
  rw [hj, hm] at hrun
  rw [hj] at q1 q2
  have hrun2 : t + m ≤ xs.length := by have : ((m : Int)).toNat = m := rfl; omega
  have k1 := hOA j q2
  rw [hm] at k1
  obtain ⟨a5, z5, k5, R5⟩ := hPA j q2
  have SM := (hV.valid.pow j q2).sm hV
  rw [q1] at hct0
  have HSM := Lib.hid SM
  have HR5 := Lib.hid R5
  have C1 := Lib.hid c1
  have C2 := Lib.hid c2
  have K1 := Lib.hid k1
  have K5 := Lib.hid k5
  have W1 : IntKind.i64.wrap ((j : Int) + 1 - 1) = (j : Int) := by rw [IntWalk.i64_in _ (by omega)]; omega
  have hcj : (j : Int) < (p.n : Int) := by omega
  have HLEN : Hid ((cat [xs.take t, nwL (p.P j), xs.drop (t + m)]).length ≤ 100000000) := by
    show _ ≤ _
    have := nwL_len SM
    rw [cat3]; simp only [List.length_append, List.length_take, List.length_drop]; omega
  clear hj hm hrun hOA hPA SM R1 R2 R3 hV hr R5 k1 k5 c1 c2 c3
  by_cases h1 : t + 1 < xs.length
  · have h2 : ¬ xs.getD (t + 1) 0 < xs.getD t 0 := fun h => by have := descB_iff.2 ⟨h1, h⟩; rw [hd] at this; cases this
    rw [q1] at h2
    obtain ⟨_, _, he, hct1⟩ := hv.at h1
    cases he
    obtain ⟨x, Hx⟩ := named (xs.getD (t + 1) 0)
    rw [Hx.out] at h2 hct1
    have D1 : decide ((t : Int) + 1 < (xs.length : Int)) = true := by simp; omega
    have L1 : (t : Int) + 1 < (xs.length : Int) := by omega
    have D2 : decide (x < (j : Int) + 1) = false := by simpa using h2
    have D3 : decide ((j : Int) + 1 > x) = false := by simpa using h2
    clear q1 hd hw hv h2
    go_enter Try.func25, Try.ntmps25
    go_wp2_with fail
    go_quiet (fail)
    clear D1 D2 D3 hct1
    obtain ⟨w2, HW1⟩ : ∃ w1, Hid (w.drewN nq = w1) := ⟨_, rfl⟩
    rw [HW1.out]
    have B2 : Below w.heap.size w w2 := by rw [← HW1.out]; exact below_drewN (Below.refl _ _) _
    have hct2 : w2.cell? ⟨bw, ow + t, none⟩ = some (.int .i64 ((j : Int) + 1)) := below_cells B2 _ _ hct0
    have c1 := below_cells B2 _ _ C1.out
    have c2 := below_cells B2 _ _ C2.out
    have k1 := below_cells B2 _ _ K1.out
    have k5 := below_cells B2 _ _ K5.out
    have HV2 := Lib.hid (HV.out.below B2)
    have HP2 := Lib.hid (HP.out.below B2)
    have HRR := Lib.hid (HR5.out.below B2)
    have HB2 := Lib.hid B2
    have W6 : IntKind.i64.wrap ((t : Int) + m) = (t : Int) + m := IntWalk.i64_in _ (by omega)
    have L2 : (t : Int) + m ≤ (xs.length : Int) := by omega
    have L3 : (0 : Int) ≤ (t : Int) + m := by omega
    have L4 : ((t : Int) + m).toNat = t + m := by omega
    have L5 : (t : Int) ≤ (cap : Int) := by omega
    have hcz : ¬ cap = 0 := by omega
    obtain ⟨a', ha', hsuf⟩ := HV2.out.cutL (t + m) (by omega)
    have HSUF := Lib.hid hsuf
    have KEEP : Hid (∀ wx, Below w2.heap.size w2 wx → Below w2.heap.size w2 wx ∧ wx.cell? ⟨pb, 0, none⟩ = some (Value.slice (some ⟨bo, oo, none⟩) p.n qo) ∧ wx.cell? ⟨pb, 1, none⟩ = some (Value.slice (some ⟨bp, op, none⟩) p.n qp) ∧ wx.cell? ⟨bo, oo + j, none⟩ = some (.int .i64 (m : Int)) ∧ wx.cell? ⟨bp, op + j, none⟩ = some (Value.slice a5 p.n z5)) := fun wx hb =>
      ⟨hb, below_cells hb _ _ c1, below_cells hb _ _ c2, below_cells hb _ _ k1, below_cells hb _ _ k5⟩
    clear hsuf HW1 B2 W0 hct0
    go_wp2_with fail
    clear W1
    by_cases hct4 : cap = t + m
    all_goals
     first | rw [if_pos hct4] at ha' | (rw [if_neg hct4] at ha'; simp only [Option.map_some, Addr.add_lit] at ha')
     subst ha'
     first | (have hcT : (cap = t + m) ↔ True := iff_true_intro hct4) | (have hcT : True := trivial)
     try (have hct5 : cap = t + m := hct4; clear hct5 hct4)
     go_region_held3 (fun wx => Below w2.heap.size w2 wx ∧ wx.cell? ⟨pb, 0, none⟩ = some (Value.slice (some ⟨bo, oo, none⟩) p.n qo) ∧ wx.cell? ⟨pb, 1, none⟩ = some (Value.slice (some ⟨bp, op, none⟩) p.n qp) ∧ wx.cell? ⟨bo, oo + j, none⟩ = some (.int .i64 (m : Int)) ∧ wx.cell? ⟨bp, op + j, none⟩ = some (Value.slice a5 p.n z5))
       (first | exact KEEP.out _ (Below.refl _ _).drew | exact KEEP.out _ hk5 | exact KEEP.out _ (below_size (And.left (by assumption)) (by assumption)) | exact KEEP.out _ (ball (And.left (by assumption)) _))
       (first
         | ((go_at_call 34); (with_reducible refine (i_normalWord _ (p.P j) _ (HRR.out.below (And.left (by assumption))) HSM.out).mono ?_); (rintro e w3 ⟨u3, rfl, hI3, hB3⟩); (obtain ⟨a9, c9, rfl, _, _⟩ := hI3.rd.form))
         | ((have hK3 : Below w2.heap.size w2 w3 := below_size (Below.refl _ _).drew hB3); (go_at_call 49); (with_reducible refine (f_Concat _ [xs.take t, nwL (p.P j), xs.drop (t + m)] _ (Rd2.lit3 _ _ _ _ _ _ _ (HP2.out.below hK3) hI3.rd (HSUF.out.below hK3)) HLEN.out).mono ?_); (rintro e w5 ⟨u5, rfl, hI5, hB5⟩); (have hk5 : Below w2.heap.size w2 w5 := below_size (below_size hK3 (below_alloc w3 _)) hB5); (have hfin : Below w.heap.size w w5 := below_size HB2.out hk5); (have hfi2 : Ints w5 w.heap.size u5 (stepL p xs t) := (by rw [hL.out, hL2.out]; exact hI5.mono (by have := HB2.out.size; have := hK3.size; simp; omega))); (obtain ⟨a8, c8, rfl, _, _⟩ := hfi2.form); (clear hI5 hB5)))
     all_goals
      go_wp2_with fail
      go_ret
      exact ⟨_, rfl, hfi2, hfin⟩
  · exfalso; omega
theorem i_stepAt (vp v : Value) (p : Pres) (xs : List Int) (t : Nat) (w : World) (hV : ValidP p) (hp : PtrP w vp p) (hv : Rd w v xs) (ht : t < xs.length) (hw : PosW p.n xs) (hr : redB p.orders xs t = true) (hx : xs.length ≤ 100000) :
    Calls Try.prog 25 #[vp, v, .int .i64 t] w (RetInts w (stepL p xs t)) := by
  cases hd : descB xs t with
  | true => exact i_stepAt_d vp v p xs t w hV hp hv ht hw hd hx
  | false => exact i_stepAt_r vp v p xs t w hV hp hv ht hw hr hd hx
end Go.Proofs.Ytiikoappknejgaa
namespace Go.Proofs.Ytiikoappknejgaa
set_option linter.unusedVariables false
set_option linter.unusedSimpArgs false
set_option maxRecDepth 100000
open Go.RowKit

--== spec.l09Step
set_option maxHeartbeats 16000000 in
theorem s_l09Step_d (v1 v2 v3 v : Value) (p : Pres) (xs : List Int) (t : Nat) (w : World) (hV : ValidP p) (hp : RdP w v1 v2 v3 p) (hv : Rd w v xs) (ht : t < xs.length) (hw : PosW p.n xs) (hd : descB xs t = true) (hx : xs.length ≤ 100000) :
    Calls Try.prog 55 #[.agg #[v1, v2, v3], v, .int .i64 t] w (RetInts w (stepL p xs t)) := by
  obtain ⟨i0, hi0, hz0, hz1, hz2⟩ := info_parts Try.info2
  have hn6 := hV.n6
  obtain ⟨q1, q2⟩ := hw.lt ht
  have hn : 0 < p.n := by omega
  obtain ⟨R1, R2, R3⟩ := hp
  obtain ⟨ao, cap, rfl, hc1, hc2⟩ := hv.form
  obtain ⟨bw, ow, rfl, hct0⟩ := hv.at ht
  have HV := Lib.hid hv
  have HP := Lib.hid (hv.preL t (by omega))
  have W0 : IntKind.i64.wrap ((t : Int) + 1) = (t : Int) + 1 := IntWalk.i64_in _ (by omega)
  obtain ⟨h1, h2⟩ := descB_iff.1 hd
  have hL := Lib.hid (stepL_d (p := p) hd)
  obtain ⟨q3, q4⟩ := hw.lt h1
  obtain ⟨d1, d2⟩ := desc_at hw hd
  obtain ⟨_, _, he, hct1⟩ := hv.at h1
  cases he
  obtain ⟨p1, r1, rfl, _, _⟩ := R1.formN (n := p.n) rfl
  obtain ⟨p2, r2, rfl, _, _⟩ := R2.formN hV.pl
  obtain ⟨b3, o3, q, rfl, kc⟩ := conj_at hV R3 (i := lt0 xs (t + 1)) q4
  obtain ⟨a4, z4, k4, kc4⟩ := kc
  obtain ⟨i, hi⟩ : ∃ i, lt0 xs (t + 1) = i := ⟨_, rfl⟩
  obtain ⟨j, hj⟩ : ∃ j, lt0 xs t = j := ⟨_, rfl⟩
  have hL2 : Hid (stepD p xs t = xs.take t ++ [(i : Int) + 1] ++ nwL (p.C i j) ++ xs.drop (t + 2)) := by show _ = _; unfold stepD; rw [q3, hi, hj, cat4']; simp
  rw [hi] at q3 q4 d1 k4 kc4
  rw [hj] at q1 q2 d1 d2
  obtain ⟨k, hk⟩ : ∃ k, j = i + 1 + k := ⟨j - i - 1, by omega⟩
  obtain ⟨b4, o4, rfl, a5, z5, k5, R5⟩ := kc4 k (by omega)
  rw [← hk] at R5
  have SM := (hV.valid.cj i j (by omega) (by omega)).sm hV
  have hnl := nwL_len SM
  rw [q1] at hct0
  rw [q3] at hct1
  have g0 := below_alloc w (Obj.cells #[Value.slice p1 p.n r1, Value.slice p2 p.n r2, Value.slice (some ⟨b3, o3, none⟩) p.n q] 28)
  have x0 := Bx.new w (Value.slice p1 p.n r1) (Value.slice p2 p.n r2) (Value.slice (some ⟨b3, o3, none⟩) p.n q)
  have D1 : decide ((t : Int) + 1 < (xs.length : Int)) = true := by simp; omega
  have L1 : (t : Int) + 1 < (xs.length : Int) := by omega
  have D2 : decide ((i : Int) + 1 < (j : Int) + 1) = true := by simp; omega
  have D3 : decide ((j : Int) + 1 > (i : Int) + 1) = true := by simp; omega
  have W1 : IntKind.i64.wrap ((j : Int) + 1 - 1) = (j : Int) := by rw [IntWalk.i64_in _ (by omega)]; omega
  have W2 : IntKind.i64.wrap ((i : Int) + 1 - 1) = (i : Int) := by rw [IntWalk.i64_in _ (by omega)]; omega
  have HK := Lib.hid hk
  have HSM := Lib.hid SM
  have HR5 := Lib.hid R5
  have K4 := Lib.hid k4
  have K5 := Lib.hid k5
  have CT0 := Lib.hid hct0
  have CT1 := Lib.hid hct1
  have hci : (i : Int) < (p.n : Int) := by omega
  have hck : (k : Int) < ((p.n - (i + 1) : Nat) : Int) := by omega
  have hk0 : (0 : Int) ≤ (k : Int) := by omega
  have hcz : ¬ cap = 0 := by omega
  have hkj : (i : Int) + 1 + k = (j : Int) := by omega
  have HKJ := Lib.hid hkj
  have HLT : Hid ((xs.take t).length = t) := by show _ = _; rw [List.length_take]; omega
  clear hkj q1 q3 hk kc4 hi hj SM R1 R2 R3 hV hw hd hv R5 k4 k5 hct0 hct1
  go_enter Try.func55, Try.ntmps55
  go_wp2_with fail
  refine (s_l01Own _ (xs.take t) _ (HP.out.below g0) (by rw [HLT.out]; omega)).mono ?_
  rintro e w1 ⟨u1, rfl, hI1, hB1⟩
  have g1 := below_size g0 hB1
  have x1 := x0.below hB1 x0.lt
  obtain ⟨a6, c6, rfl, _, _⟩ := hI1.rd.formN HLT.out
  have hct0 := below_cells g1 _ _ CT0.out
  have hct1 := below_cells g1 _ _ CT1.out
  have hI2 : Ints w1 (w.heap.size + 1) _ _ := hI1.mono (by simp)
  clear hI1 hB1 g0 x0
  go_wp2_with fail
  go_quiet (fail)
  clear D1 D2 D3
  obtain ⟨w2, HW2⟩ : ∃ w2, Hid (w1.drewN nq = w2) := ⟨_, rfl⟩
  rw [HW2.out]
  have B2 : Below w1.heap.size w1 w2 := by rw [← HW2.out]; exact below_drewN (Below.refl _ _) _
  have hct2 := below_cells B2 _ _ hct0
  have hct3 := below_cells B2 _ _ hct1
  have hI3 := hI2.below B2
  have x2 := x1.below B2 x1.lt
  have g2 := below_size g1 B2
  clear hct0 hct1 HW2 B2 hI2 x1 g1
  go_wp2_with fail
  go_quiet (fail)
  clear W0 W1 W2 hct2 hct3
  obtain ⟨w3, HW3⟩ : ∃ w3, Hid (w2.drewN nq = w3) := ⟨_, rfl⟩
  rw [HW3.out]
  have B3 : Below w2.heap.size w2 w3 := by rw [← HW3.out]; exact below_drewN (Below.refl _ _) _
  have hI4 := hI3.below B3
  have x3 := x2.below B3 x2.lt
  have g3 := below_size g2 B3
  clear HW3 B3 hI3 x2 g2
  go_wp2_with (at_builtin; refine wp_app1 _ rfl _ _ rfl (w.heap.size + 1) i0 Try.underlying24 hi0 hz0 hz1 hz2 _ _ rfl hI4 ((i : Int) + 1) rfl (by rw [HLT.out]; omega) x3.lt ?_)
  intro u4 w4 hI5 hG4 hB4
  have x4 := x3.below hB4 (by omega)
  have g4 : Below w.heap.size w w4 := g3.trans (hB4.mono (by omega))
  obtain ⟨A1, HA1⟩ : ∃ A1, Hid (xs.take t ++ [(i : Int) + 1] = A1) := ⟨_, rfl⟩
  have HL1 : Hid (A1.length = t + 1) := by show _ = _; rw [← HA1.out, List.length_append, HLT.out]; rfl
  rw [HA1.out] at hI5
  obtain ⟨a7, c7, rfl, _, _⟩ := hI5.rd.formN HL1.out
  have m2 := x4.c2
  have k4 := below_cells g4 _ _ K4.out
  have HKK : Hid (k = j - i - 1) := by show _ = _; have := HK.out; omega
  have k5 := below_cells g4 _ _ K5.out
  rw [HKK.out] at k5
  have hji : j - i - 1 < p.n - (i + 1) := by omega
  have RR := HR5.out.below g4
  clear hI4 x3 g3 hG4 hB4
  go_wp2_with fail
  refine (s_l07Word _ (p.C i j) _ RR HSM.out).mono ?_
  rintro e w5 ⟨u5, rfl, hI6, hB5⟩
  have hI7 := hI5.below hB5
  have x5 := x4.below hB5 x4.lt
  have g5 := below_size g4 hB5
  obtain ⟨a8, c8, rfl, _, _⟩ := hI6.rd.form
  have HR6 := hI6.rd
  clear hI5 x4 g4 hB5 hI6 m2 k4 k5 RR
  go_wp2_with (at_builtin; refine wp_appN _ rfl _ _ rfl (w.heap.size + 1) i0 Try.underlying24 hi0 hz0 hz1 hz2 _ _ rfl hI7 _ (nwL (p.C i j)) rfl HR6 (by rw [HL1.out]; omega) (by omega) x5.lt ?_)
  intro u6 w6 hI8 hG6 hB6
  have g6 : Below w.heap.size w w6 := g5.trans (hB6.mono (by omega))
  have x6 := x5.below hB6 (by omega)
  obtain ⟨A2, HA2⟩ : ∃ A2, Hid (A1 ++ nwL (p.C i j) = A2) := ⟨_, rfl⟩
  have HL3 : Hid (A2.length ≤ t + 101) := by show _ ≤ _; rw [← HA2.out, List.length_append, HL1.out]; omega
  rw [HA2.out] at hI8
  obtain ⟨N, HN⟩ : ∃ N, Hid (A2.length = N) := ⟨_, rfl⟩
  have hN : N ≤ t + 101 := by rw [← HN.out]; exact HL3.out
  obtain ⟨a9, c9, rfl, _, _⟩ := hI8.rd.formN HN.out
  obtain ⟨a', ha', hsuf⟩ := (HV.out.below g6).cutL (t + 2) (by omega)
  have hl6 := x6.lt
  clear hI7 HR6 g5 x5 hG6 hB6 x6
  by_cases hct4 : cap = t + 2
  · rw [if_pos hct4] at ha'
    subst ha'
    subst hct4
    have HSUF := Lib.hid hsuf
    clear hsuf
    go_wp2_with (at_builtin; (refine wp_appN _ rfl _ _ rfl (w.heap.size + 1) i0 Try.underlying24 hi0 hz0 hz1 hz2 _ _ rfl hI8 _ (xs.drop (t + 2)) rfl HSUF.out (by rw [HN.out]; omega) (by rw [List.length_drop]; omega) hl6 ?_))
    intro u7 w7 hI9 hG7 hB7
    have hfi : Ints w7 w.heap.size u7 (stepL p xs t) := by rw [hL.out, hL2.out, HA1.out, HA2.out]; exact hI9.mono (by omega)
    have hfb : Below w.heap.size w w7 := g6.trans (hB7.mono (by omega))
    obtain ⟨a3, c3, rfl, _, _⟩ := hfi.form
    clear hI9 hG7 hB7 g6 hI8
    go_wp2_with fail
    go_ret
    exact ⟨_, rfl, hfi, hfb⟩
  · rw [if_neg hct4] at ha'
    simp only [Option.map_some, Addr.add_lit] at ha'
    subst ha'
    have HSUF := Lib.hid hsuf
    clear hsuf
    go_wp2_with (at_builtin; refine wp_appN _ rfl _ _ rfl (w.heap.size + 1) i0 Try.underlying24 hi0 hz0 hz1 hz2 _ _ rfl hI8 _ (xs.drop (t + 2)) rfl HSUF.out (by rw [HN.out]; omega) (by rw [List.length_drop]; omega) hl6 ?_)
    intro u7 w7 hI9 hG7 hB7
    have hfi : Ints w7 w.heap.size u7 (stepL p xs t) := by rw [hL.out, hL2.out, HA1.out, HA2.out]; exact hI9.mono (by omega)
    have hfb : Below w.heap.size w w7 := g6.trans (hB7.mono (by omega))
    obtain ⟨a3, c3, rfl, _, _⟩ := hfi.form
    clear hI9 hG7 hB7 g6 hI8
    go_wp2_with fail
    go_ret
    exact ⟨_, rfl, hfi, hfb⟩
set_option maxHeartbeats 16000000 in
theorem s_l09Step_r (v1 v2 v3 v : Value) (p : Pres) (xs : List Int) (t : Nat) (w : World) (hV : ValidP p) (hp : RdP w v1 v2 v3 p) (hv : Rd w v xs) (ht : t < xs.length) (hw : PosW p.n xs) (hr : redB p.orders xs t = true) (hd : descB xs t = false) (hx : xs.length ≤ 100000) :
    Calls Try.prog 55 #[.agg #[v1, v2, v3], v, .int .i64 t] w (RetInts w (stepL p xs t)) := by
  obtain ⟨i0, hi0, hz0, hz1, hz2⟩ := info_parts Try.info2
  have hn6 := hV.n6
  obtain ⟨q1, q2⟩ := hw.lt ht
  have hn : 0 < p.n := by omega
  have hrun := red_run ht hV hw hr hd
  obtain ⟨R1, R2, R3⟩ := hp
  obtain ⟨ao, cap, rfl, hc1, hc2⟩ := hv.form
  obtain ⟨bw, ow, rfl, hct0⟩ := hv.at ht
  have HV := Lib.hid hv
  have HP := Lib.hid (hv.preL t (by omega))
  have W0 : IntKind.i64.wrap ((t : Int) + 1) = (t : Int) + 1 := IntWalk.i64_in _ (by omega)
  obtain ⟨bo, oo, qo, rfl, hOA⟩ := ord_at R1 hn
  obtain ⟨bp, op, qp, rfl, hPA⟩ := pow_at hV R2 hn
  obtain ⟨p3, q3, rfl, _, _⟩ := R3.formN hV.cl
  have hL := Lib.hid (stepL_r (p := p) hd)
  obtain ⟨j, hj⟩ : ∃ j, lt0 xs t = j := ⟨_, rfl⟩
  obtain ⟨m, hm, hm7⟩ : ∃ m : Nat, p.r j = (m : Int) ∧ 2 ≤ m ∧ m ≤ 7 := ⟨(p.r j).toNat, by have := hV.rk j (by omega); omega, by have := hV.rk j (by omega); omega⟩
  have hL2 : Hid (stepR p xs t = xs.take t ++ nwL (p.P j) ++ xs.drop (t + m)) := by show _ = _; unfold stepR; rw [hj, hm, cat3]; simp
  rw [hj, hm] at hrun
  rw [hj] at q1 q2
  have hrun2 : t + m ≤ xs.length := by have : ((m : Int)).toNat = m := rfl; omega
  have k1 := hOA j q2
  rw [hm] at k1
  obtain ⟨a5, z5, k5, R5⟩ := hPA j q2
  have SM := (hV.valid.pow j q2).sm hV
  have hnl := nwL_len SM
  rw [q1] at hct0
  have HSM := Lib.hid SM
  have HR5 := Lib.hid R5
  have K1 := Lib.hid k1
  have K5 := Lib.hid k5
  have CT0 := Lib.hid hct0
  have g0 := below_alloc w (Obj.cells #[Value.slice (some ⟨bo, oo, none⟩) p.n qo, Value.slice (some ⟨bp, op, none⟩) p.n qp, Value.slice p3 p.n q3] 28)
  have x0 := Bx.new w (Value.slice (some ⟨bo, oo, none⟩) p.n qo) (Value.slice (some ⟨bp, op, none⟩) p.n qp) (Value.slice p3 p.n q3)
  have h1 : t + 1 < xs.length := by omega
  have h2 : ¬ xs.getD (t + 1) 0 < xs.getD t 0 := fun h => by have := descB_iff.2 ⟨h1, h⟩; rw [hd] at this; cases this
  rw [q1] at h2
  obtain ⟨_, _, he, hct1⟩ := hv.at h1
  cases he
  obtain ⟨x, Hx⟩ := named (xs.getD (t + 1) 0)
  rw [Hx.out] at h2 hct1
  have CT1 := Lib.hid hct1
  have D1 : decide ((t : Int) + 1 < (xs.length : Int)) = true := by simp; omega
  have L1 : (t : Int) + 1 < (xs.length : Int) := by omega
  have D2 : decide (x < (j : Int) + 1) = false := by simpa using h2
  have D3 : decide ((j : Int) + 1 > x) = false := by simpa using h2
  have hcz : ¬ cap = 0 := by omega
  have HLT : Hid ((xs.take t).length = t) := by show _ = _; rw [List.length_take]; omega
  clear q1 hd hw hv h2 hj hm hrun hOA hPA SM R1 R2 R3 hV hr R5 k1 k5 hct0 hct1
  go_enter Try.func55, Try.ntmps55
  go_wp2_with fail
  refine (s_l01Own _ (xs.take t) _ (HP.out.below g0) (by rw [HLT.out]; omega)).mono ?_
  rintro e w1 ⟨u1, rfl, hI1, hB1⟩
  have g1 := below_size g0 hB1
  have x1 := x0.below hB1 x0.lt
  obtain ⟨a6, c6, rfl, _, _⟩ := hI1.rd.formN HLT.out
  have hct0 := below_cells g1 _ _ CT0.out
  have hct1 := below_cells g1 _ _ CT1.out
  have hI2 : Ints w1 (w.heap.size + 1) _ _ := hI1.mono (by simp)
  clear hI1 hB1 g0 x0
  go_wp2_with fail
  go_quiet (fail)
  clear D1 D2 D3
  obtain ⟨w3, HW2⟩ : ∃ w2, Hid (w1.drewN nq = w2) := ⟨_, rfl⟩
  rw [HW2.out]
  have B2 : Below w1.heap.size w1 w3 := by rw [← HW2.out]; exact below_drewN (Below.refl _ _) _
  have hct2 := below_cells B2 _ _ hct0
  have hI5 := hI2.below B2
  have x4 := x1.below B2 x1.lt
  have g4 := below_size g1 B2
  clear hct0 hct1 HW2 B2 hI2 x1 g1 W0
  have m1 := x4.c1
  have k5 := below_cells g4 _ _ K5.out
  have RR := HR5.out.below g4
  go_wp2_with fail
  refine (s_l07Word _ (p.P j) _ RR HSM.out).mono ?_
  rintro e w5 ⟨u5, rfl, hI6, hB5⟩
  have hI7 := hI5.below hB5
  have x5 := x4.below hB5 x4.lt
  have g5 := below_size g4 hB5
  obtain ⟨a8, c8, rfl, _, _⟩ := hI6.rd.form
  have HR6 := hI6.rd
  clear hI5 x4 g4 hB5 hI6 m1 k5 RR hct2
  go_wp2_with (at_builtin; refine wp_appN _ rfl _ _ rfl (w.heap.size + 1) i0 Try.underlying24 hi0 hz0 hz1 hz2 _ _ rfl hI7 _ (nwL (p.P j)) rfl HR6 (by rw [HLT.out]; omega) (by omega) x5.lt ?_)
  intro u6 w6 hI8 hG6 hB6
  have g6 : Below w.heap.size w w6 := g5.trans (hB6.mono (by omega))
  have x6 := x5.below hB6 (by omega)
  obtain ⟨A2, HA2⟩ : ∃ A2, Hid (xs.take t ++ nwL (p.P j) = A2) := ⟨_, rfl⟩
  have HL3 : Hid (A2.length ≤ t + 101) := by show _ ≤ _; rw [← HA2.out, List.length_append, HLT.out]; omega
  rw [HA2.out] at hI8
  obtain ⟨N, HN⟩ : ∃ N, Hid (A2.length = N) := ⟨_, rfl⟩
  have hN : N ≤ t + 101 := by rw [← HN.out]; exact HL3.out
  obtain ⟨a9, c9, rfl, _, _⟩ := hI8.rd.formN HN.out
  obtain ⟨a', ha', hsuf⟩ := (HV.out.below g6).cutL (t + m) (by omega)
  have hl6 := x6.lt
  have m0 := x6.c0
  have k1 := below_cells g6 _ _ K1.out
  clear hI7 HR6 g5 x5 hG6 hB6 x6
  by_cases hct4 : cap = t + m
  · rw [if_pos hct4] at ha'
    subst ha'
    subst hct4
    have HSUF := Lib.hid hsuf
    clear hsuf
    go_wp2_with (at_builtin; refine wp_appN _ rfl _ _ rfl (w.heap.size + 1) i0 Try.underlying24 hi0 hz0 hz1 hz2 _ _ rfl hI8 _ (xs.drop (t + m)) rfl HSUF.out (by rw [HN.out]; omega) (by rw [List.length_drop]; omega) hl6 ?_)
    intro u7 w7 hI9 hG7 hB7
    have hfi : Ints w7 w.heap.size u7 (stepL p xs t) := by rw [hL.out, hL2.out, HA2.out]; exact hI9.mono (by omega)
    have hfb : Below w.heap.size w w7 := g6.trans (hB7.mono (by omega))
    obtain ⟨a3, c3, rfl, _, _⟩ := hfi.form
    clear hI9 hG7 hB7 g6 hI8
    go_wp2_with fail
    go_ret
    exact ⟨_, rfl, hfi, hfb⟩
  · rw [if_neg hct4] at ha'
    simp only [Option.map_some, Addr.add_lit] at ha'
    subst ha'
    have HSUF := Lib.hid hsuf
    clear hsuf
    go_wp2_with (at_builtin; refine wp_appN _ rfl _ _ rfl (w.heap.size + 1) i0 Try.underlying24 hi0 hz0 hz1 hz2 _ _ rfl hI8 _ (xs.drop (t + m)) rfl HSUF.out (by rw [HN.out]; omega) (by rw [List.length_drop]; omega) hl6 ?_)
    intro u7 w7 hI9 hG7 hB7
    have hfi : Ints w7 w.heap.size u7 (stepL p xs t) := by rw [hL.out, hL2.out, HA2.out]; exact hI9.mono (by omega)
    have hfb : Below w.heap.size w w7 := g6.trans (hB7.mono (by omega))
    obtain ⟨a3, c3, rfl, _, _⟩ := hfi.form
    clear hI9 hG7 hB7 g6 hI8
    go_wp2_with fail
    go_ret
    exact ⟨_, rfl, hfi, hfb⟩
theorem s_l09Step (v1 v2 v3 v : Value) (p : Pres) (xs : List Int) (t : Nat) (w : World) (hV : ValidP p) (hp : RdP w v1 v2 v3 p) (hv : Rd w v xs) (ht : t < xs.length) (hw : PosW p.n xs) (hr : redB p.orders xs t = true) (hx : xs.length ≤ 100000) :
    Calls Try.prog 55 #[.agg #[v1, v2, v3], v, .int .i64 t] w (RetInts w (stepL p xs t)) := by
  cases hd : descB xs t with
  | true => exact s_l09Step_d v1 v2 v3 v p xs t w hV hp hv ht hw hd hx
  | false => exact s_l09Step_r v1 v2 v3 v p xs t w hV hp hv ht hw hr hd hx
end Go.Proofs.Ytiikoappknejgaa
namespace Go.Proofs.Ytiikoappknejgaa
set_option linter.unusedVariables false
set_option linter.unusedSimpArgs false
set_option maxRecDepth 100000
open Go.RowKit

--== three results
def RetInts3 (w : World) (xs : List Int) (a b : Int) (e : Ending) (w' : World) : Prop := ∃ v, e = .returned (.tuple #[v, .int .i64 a, .int .i64 b]) ∧ Ints w' w.heap.size v xs ∧ Below w.heap.size w w'
theorem ret_vii {u v : Value} {a b c d : Int} (h : u = v) (h' : a = c) (h'' : b = d) : Ending.returned (.tuple #[u, .int .i64 a, .int .i64 b]) = .returned (.tuple #[v, .int .i64 c, .int .i64 d]) := by rw [h, h', h'']
theorem len_CollectStep (p : Pres) (w : List Int) : (csL p w).length ≤ 1000000000 := by
  by_cases h : posV p w = true
  · obtain ⟨hV, hP, hl⟩ := posV_true h
    rcases firstR_bd p.orders w with hf | ⟨t, hf, ht, _⟩
    · rw [(cs_nf h hf).2.2]; omega
    · rw [(cs_at h hf).2.2]
      have := stepL_len ht hV (posB_true hP)
      omega
  · rw [(cs_no (by simpa using h)).2.2]; simp
--== impl.CollectStep
set_option maxHeartbeats 4000000 in
theorem i_CollectStep (v1 v2 v3 : Value) (p : Pres) (v : Value) (xs : List Int) (w : World) (hp : RdP w v1 v2 v3 p) (hv : Rd w v xs) :
    Calls Try.prog 10 #[.agg #[v1, v2, v3], v] w (RetInts3 w (csL p xs) (csT p xs) (csK p xs)) := by
  have HP := Lib.hid hp
  have HV := Lib.hid hv
  obtain ⟨ao1, cap1, rfl, _, _⟩ := hp.1.form
  obtain ⟨ao2, cap2, rfl, _, _⟩ := hp.2.1.form
  obtain ⟨ao3, cap3, rfl, _, _⟩ := hp.2.2.form
  obtain ⟨ao, cap, rfl, hc1, hc2⟩ := hv.form
  have g0 := below_alloc w (Obj.cells #[Value.slice ao1 p.orders.length cap1, Value.slice ao2 p.powers.length cap2, Value.slice ao3 p.conj.length cap3] 28)
  have B0 := Bx.new w (Value.slice ao1 p.orders.length cap1) (Value.slice ao2 p.powers.length cap2) (Value.slice ao3 p.conj.length cap3)
  clear hp hv
  by_cases hV : validB p = true
  case neg =>
    have hV' : validB p = false := by simpa using hV
    have HX := Lib.hid (cs_no (w := xs) (show posV p xs = false by simp [posV, hV']))
    clear hV
    go_enter Try.func10, Try.ntmps10
    go_wp2_with fail
    refine (i_IsPresentation _ _ _ p _ (HP.out.below g0)).mono ?_
    rintro e w1 ⟨rfl, hb⟩
    have g1 := below_size g0 hb
    have B1 := B0.below hb (by simp)
    have PT := B1.ptr (HP.out.below g1)
    have m0 := B1.c0
    have m1 := B1.c1
    have m2 := B1.c2
    rw [hV']
    clear hb hV' PT m0 m1 m2
    go_wp2_with fail
    go_ret3
    exact ⟨_, ret_vii rfl HX.out.2.1.symm HX.out.1.symm, by rw [HX.out.2.2]; exact Ints.nil _ _, g1⟩
  have HVd := Lib.hid (validB_true.1 hV)
  have hn6 : p.orders.length ≤ 6 := HVd.out.n6
  have HVt := Lib.hid hV
  by_cases hP : posB p.n xs = true
  case neg =>
    have hP' : posB p.n xs = false := by simpa using hP
    have HX := Lib.hid (cs_no (w := xs) (show posV p xs = false by simp [posV, posM, hP']))
    clear hP
    go_enter Try.func10, Try.ntmps10
    go_wp2_with fail
    refine (i_IsPresentation _ _ _ p _ (HP.out.below g0)).mono ?_
    rintro e w1 ⟨rfl, hb⟩
    have g1 := below_size g0 hb
    have B1 := B0.below hb (by simp)
    have PT := B1.ptr (HP.out.below g1)
    have m0 := B1.c0
    have m1 := B1.c1
    have m2 := B1.c2
    rw [hV]
    clear hb hV m0 m1 m2
    go_wp2_with fail
    refine (i_positiveWord _ _ p xs _ PT (Rd.below HV.out g1) (by unfold Pres.n; omega)).mono ?_
    rintro e w' ⟨rfl, rfl⟩
    rw [hP']
    clear hP' 
    go_wp2_with fail
    go_ret3
    exact ⟨_, ret_vii rfl HX.out.2.1.symm HX.out.1.symm, by rw [HX.out.2.2]; exact Ints.nil _ _, g1⟩
  have HPw := Lib.hid hP
  by_cases hl : xs.length ≤ 64
  case neg =>
    have HX := Lib.hid (cs_no (w := xs) (show posV p xs = false by simp [posV, posM, hl]))
    go_enter Try.func10, Try.ntmps10
    go_wp2_with fail
    refine (i_IsPresentation _ _ _ p _ (HP.out.below g0)).mono ?_
    rintro e w1 ⟨rfl, hb⟩
    have g1 := below_size g0 hb
    have B1 := B0.below hb (by simp)
    have PT := B1.ptr (HP.out.below g1)
    have m0 := B1.c0
    have m1 := B1.c1
    have m2 := B1.c2
    rw [hV]
    clear hb hV m0 m1 m2
    go_wp2_with fail
    refine (i_positiveWord _ _ p xs _ PT (Rd.below HV.out g1) (by unfold Pres.n; omega)).mono ?_
    rintro e w' ⟨rfl, rfl⟩
    rw [hP]
    clear hP
    go_wp2_with fail
    go_ret3
    exact ⟨_, ret_vii rfl HX.out.2.1.symm HX.out.1.symm, by rw [HX.out.2.2]; exact Ints.nil _ _, g1⟩
  have HY : Hid (posV p xs = true) := by show _ = _; simp [posV, posM, hl, HVt.out, HPw.out]
  have HWp := Lib.hid (posB_true HPw.out)
  rcases firstR_bd p.orders xs with hf | ⟨t, hf, ht, hred⟩
  · have HX := Lib.hid (cs_nf HY.out hf)
    go_enter Try.func10, Try.ntmps10
    go_wp2_with fail
    refine (i_IsPresentation _ _ _ p _ (HP.out.below g0)).mono ?_
    rintro e w1 ⟨rfl, hb⟩
    have g1 := below_size g0 hb
    have B1 := B0.below hb (by simp)
    have PT := B1.ptr (HP.out.below g1)
    have m0 := B1.c0
    have m1 := B1.c1
    have m2 := B1.c2
    rw [hV]
    clear hb hV m0 m1 m2
    go_wp2_with fail
    refine (i_positiveWord _ _ p xs _ PT (Rd.below HV.out g1) (by unfold Pres.n; omega)).mono ?_
    rintro e w' ⟨rfl, rfl⟩
    rw [hP]
    clear hP
    go_wp2_with fail
    refine (i_reducibleAt _ _ p xs _ PT (Rd.below HV.out g1) HWp.out (ordB_true HVd.out.ord).1 (by omega)).mono ?_
    rintro e w2 ⟨rfl, nd, hnd⟩
    have hb2 : Below w1.heap.size w1 w2 := by rw [hnd]; exact below_drewN (Below.refl _ _) _
    clear hnd
    rw [hf]
    clear hf
    have g2 := below_size g1 hb2
    clear hb2 g1 B1 PT
    go_wp2_with fail
    refine (f_Clone _ xs _ (Rd.below HV.out g2) (by omega)).mono ?_
    rintro e w3 ⟨u3, rfl, hI3, hb3⟩
    have g3 := below_size g2 hb3
    have hI4 : Ints w3 w.heap.size u3 (csL p xs) := by rw [HX.out.2.2]; exact hI3.mono g2.size
    obtain ⟨a9, c9, rfl, _, _⟩ := hI4.form
    clear hI3 hb3 g2
    go_wp2_with fail
    go_ret3
    exact ⟨_, ret_vii rfl HX.out.2.1.symm HX.out.1.symm, hI4, g3⟩
  · have HX := Lib.hid (cs_at HY.out hf)
    have HR := Lib.hid hred
    clear hred
    go_enter Try.func10, Try.ntmps10
    go_wp2_with fail
    refine (i_IsPresentation _ _ _ p _ (HP.out.below g0)).mono ?_
    rintro e w1 ⟨rfl, hb⟩
    have g1 := below_size g0 hb
    have B1 := B0.below hb (by simp)
    have PT := B1.ptr (HP.out.below g1)
    have m0 := B1.c0
    have m1 := B1.c1
    have m2 := B1.c2
    rw [hV]
    clear hb hV m0 m1 m2
    go_wp2_with fail
    refine (i_positiveWord _ _ p xs _ PT (Rd.below HV.out g1) (by unfold Pres.n; omega)).mono ?_
    rintro e w' ⟨rfl, rfl⟩
    rw [hP]
    clear hP
    go_wp2_with fail
    refine (i_reducibleAt _ _ p xs _ PT (Rd.below HV.out g1) HWp.out (ordB_true HVd.out.ord).1 (by omega)).mono ?_
    rintro e w2 ⟨rfl, nd, hnd⟩
    have hb2 : Below w1.heap.size w1 w2 := by rw [hnd]; exact below_drewN (Below.refl _ _) _
    clear hnd
    rw [hf]
    clear hf
    have g2 := below_size g1 hb2
    go_wp2_with fail
    refine (i_stepAt _ _ p xs t _ HVd.out (PT.below hb2) (Rd.below HV.out g2) ht HWp.out HR.out (by omega)).mono ?_
    rintro e w3 ⟨u3, rfl, hI3, hb3⟩
    have g3 := below_size g2 hb3
    have hI4 : Ints w3 w.heap.size u3 (csL p xs) := by rw [HX.out.2.2]; exact hI3.mono g2.size
    obtain ⟨a9, c9, rfl, _, _⟩ := hI4.form
    clear hI3 hb3 g2
    go_wp2_with fail
    go_ret3
    exact ⟨_, ret_vii rfl HX.out.2.1.symm HX.out.1.symm, hI4, g3⟩
end Go.Proofs.Ytiikoappknejgaa
namespace Go.Proofs.Ytiikoappknejgaa
set_option linter.unusedVariables false
set_option linter.unusedSimpArgs false
set_option maxRecDepth 100000
open Go.RowKit

--== plain
theorem vec_at {n : Nat} {xs : List Int} (hw : PosW n xs) {j : Nat} (hj : j < xs.length) : ∃ q : Nat, xs.getD j 0 = (q : Int) + 1 ∧ q < n ∧ vecL n (xs.take (j + 1)) = (vecL n (xs.take j)).set q ((vecL n (xs.take j)).getD q 0 + 1) := by
  obtain ⟨q, h1, h2⟩ := hw j hj
  refine ⟨q, h1, h2, ?_⟩
  rw [vecL_succ n xs j hj]
  unfold vecS
  rw [h1, show ((q : Int) + 1 - 1).toNat = q by omega]
theorem vec_bd {n : Nat} {xs : List Int} (j q : Nat) : 0 ≤ (vecL n (xs.take j)).getD q 0 ∧ (vecL n (xs.take j)).getD q 0 ≤ xs.length := by
  have := vecL_bd n (xs.take j) q
  rw [List.length_take] at this
  omega
/-- where a collection stands -/
def CollAt (p : Pres) (L : Nat) (w0 : List Int) (k : Nat) (xs : List Int) : Prop := k ≤ L ∧ xs.length ≤ 256 ∧ PosW p.n xs ∧ colW p L w0 = colW p (L - k) xs
theorem CollAt.done {p : Pres} {L : Nat} {w0 : List Int} {k : Nat} {xs : List Int} (h : CollAt p L w0 k xs) (hf : firstR p.orders xs = -1) : collC p L w0 = 0 ∧ collN p L w0 = k ∧ collL p L w0 = vecL p.n xs := by
  have h1 := h.2.2.2
  rw [colW_nf hf] at h1
  obtain ⟨e1, e2, e3⟩ := coll_some h1
  have := h.1
  exact ⟨e1, by rw [e2]; omega, e3⟩
theorem CollAt.stop {p : Pres} {L : Nat} {w0 : List Int} {xs : List Int} {t : Nat} (h : CollAt p L w0 L xs) (hf : firstR p.orders xs = (t : Int)) : collC p L w0 = 3 ∧ collN p L w0 = 0 ∧ collL p L w0 = [] := by
  have h1 := h.2.2.2
  rw [Nat.sub_self, colW_zero hf] at h1
  exact coll_none h1
theorem CollAt.big {p : Pres} {L : Nat} {w0 : List Int} {k : Nat} {xs : List Int} {t : Nat} (h : CollAt p L w0 k xs) (hf : firstR p.orders xs = (t : Int)) (hb : 256 < (stepL p xs t).length) : collC p L w0 = 3 ∧ collN p L w0 = 0 ∧ collL p L w0 = [] := by
  have h1 := h.2.2.2
  rw [colW_big hf hb] at h1
  exact coll_none h1
theorem CollAt.next {p : Pres} {L : Nat} {w0 : List Int} {k : Nat} {xs : List Int} {t : Nat} (hV : ValidP p) (h : CollAt p L w0 k xs) (hk : k < L) (ht : t < xs.length) (hf : firstR p.orders xs = (t : Int)) (hb : (stepL p xs t).length ≤ 256) : CollAt p L w0 (k + 1) (stepL p xs t) := by
  refine ⟨hk, hb, stepL_pos ht hV h.2.2.1, ?_⟩
  have h1 := h.2.2.2
  rw [show L - k = (L - (k + 1)) + 1 by omega, colW_step hf hb] at h1
  exact h1
--== impl.collect
set_option maxHeartbeats 8000000 in
theorem i_collect (vp v : Value) (p : Pres) (w0 : List Int) (L : Nat) (w : World) (hV : ValidP p) (hp : PtrP w vp p) (hv : Rd w v w0) (hw : PosW p.n w0) (hl : w0.length ≤ 256) (hL : L ≤ 2000) :
    Calls Try.prog 29 #[vp, v, .int .i64 L] w (RetInts3 w (collL p L w0) (collN p L w0) (collC p L w0)) := by
  obtain ⟨i0, hi0, hz0, hz1, hz2⟩ := info_parts Try.info2
  have hn6 := hV.n6
  have HPT := Lib.hid hp
  have HVd := Lib.hid hV
  obtain ⟨pb, v1, v2, v3, rfl, c1, c2, c3, R1, R2, R3⟩ := hp
  obtain ⟨p1, q1, rfl, _, _⟩ := R1.formN (n := p.n) rfl
  have C1 := Lib.hid c1
  have hC0 : Hid (CollAt p L w0 0 w0) := ⟨Nat.zero_le _, hl, hw, rfl⟩
  have HRV := Lib.hid hv
  clear hV c1 c2 c3 R1 R2 R3 hw hv
  go_enter Try.func29, Try.ntmps29
  go_wp2_with fail
  go_loopw [1, 9, 10] (fun u n _ wr => ∃ (k : Nat) (xs : List Int), n = .int .i64 k ∧ k ≤ L ∧ Rd wr u xs ∧ Hid (CollAt p L w0 k xs) ∧ Below w.heap.size w wr) (fun _ n _ _ => L - (intOf n).toNat)
  case atStart => exact ⟨0, w0, rfl, Nat.zero_le _, HRV.out, hC0, Below.refl _ _⟩
  case round =>
    clear hC0 HRV hl
    obtain ⟨k, xs, rfl, hk, hv, hC, hB⟩ := hrel
    have hlx := hC.out.2.1
    have HWp := Lib.hid hC.out.2.2.1
    obtain ⟨ao, cap, rfl, _, _⟩ := hv.form
    have HV := Lib.hid hv
    have PT := HPT.out.below hB
    clear hv
    rcases firstR_bd p.orders xs with hf | ⟨t, hf, ht, hred⟩
    · have HX := Lib.hid (hC.out.done hf)
      go_wp2_with fail
      refine (i_reducibleAt _ _ p xs _ PT HV.out HWp.out (ordB_true HVd.out.ord).1 (by omega)).mono ?_
      rintro e w2 ⟨rfl, nd, hnd⟩
      have hb2 : Below wr.heap.size wr w2 := by rw [hnd]; exact below_drewN (Below.refl _ _) _
      rw [hf]
      have hB2 := below_size hB hb2
      have e1 := below_cells hB2 _ _ C1.out
      have HV2 := Lib.hid (HV.out.below hb2)
      clear hnd hf hb2 PT
      go_wp2_with (at_make; refine wp_mkInts _ rfl _ _ rfl i0 Try.underlying24 hi0 hz0 hz1 hz2 _ _ _ _ p.n rfl rfl rfl rfl (by omega) ?_)
      intro w3 hI hB3 hlt3
      have hB4 := below_size hB2 hB3
      clear e1 HV
      go_wp2_with fail
      go_loopw [13, 29] (fun _ i wr2 => ∃ j : Nat, j ≤ xs.length ∧ i = .int .i64 j ∧ Ints wr2 w2.heap.size (.slice (some ⟨w2.heap.size, 0, none⟩) p.n p.n) (vecL p.n (xs.take j)) ∧ Below w2.heap.size w2 wr2) (fun _ i _ => xs.length - (intOf i).toNat)
      case atStart => exact ⟨0, Nat.zero_le _, rfl, hI, hB3⟩
      case round =>
        clear hI hB3 hlt3 hB4
        obtain ⟨j, hj, rfl, hI, hB5⟩ := hrel
        have hS5 := hB5.size
        have HV5 := Lib.hid (HV2.out.below hB5)
        by_cases hlt : j < xs.length
        · obtain ⟨q, hq1, hq2, hq3⟩ := vec_at HWp.out hlt
          obtain ⟨b, off, rfl, hcell⟩ := HV5.out.at hlt
          rw [hq1] at hcell
          have hlen : p.n = (vecL p.n (xs.take j)).length := (vecL_len _ _).symm
          obtain ⟨hcell2, hfz⟩ := hI.cell hlen q hq2
          have hbd := vec_bd (n := p.n) (xs := xs) j q
          obtain ⟨h1, h2⟩ := hI.set hlen q ((vecL p.n (xs.take j)).getD q 0 + 1)
          have hB6 := hB5.trans (h2.below (Nat.le_refl _) hS5)
          have HQ := Lib.hid hq3
          have HQ1 := Lib.hid hq1
          clear hq3 hq1 hlen h2 hI
          generalize vecL p.n (xs.take j) = R at *
          generalize R.getD q 0 = y at *
          go_wp2_with fail
          go_roundw
          case rel => exact ⟨j + 1, by omega, by go_num, by rw [HQ.out]; exact h1, hB6⟩
          case measure => simp [intOf]; omega
        · obtain rfl : j = xs.length := by omega
          rw [List.take_length] at hI
          have hI9 : Ints wr w.heap.size (.slice (some ⟨w2.heap.size, 0, none⟩) p.n p.n) (collL p L w0) := by rw [HX.out.2.2]; exact hI.mono hB2.size
          have hB9 := hB2.trans (hB5.mono hB2.size)
          clear hI
          go_wp2_with fail
          go_ret3
          exact ⟨_, ret_vii rfl HX.out.2.1.symm HX.out.1.symm, hI9, hB9⟩
    · have D0 : decide ((t : Int) < 0) = false := by simp
      by_cases hkl : k = L
      · obtain rfl : k = L := hkl
        have HX := Lib.hid (hC.out.stop hf)
        go_wp2_with fail
        refine (i_reducibleAt _ _ p xs _ PT HV.out HWp.out (ordB_true HVd.out.ord).1 (by omega)).mono ?_
        rintro e w2 ⟨rfl, nd, hnd⟩
        have hb2 : Below wr.heap.size wr w2 := by rw [hnd]; exact below_drewN (Below.refl _ _) _
        rw [hf]
        have hB2 := below_size hB hb2
        clear hnd hf hb2 PT
        go_wp2_with fail
        go_ret3
        exact ⟨_, ret_vii rfl HX.out.2.1.symm HX.out.1.symm, by rw [HX.out.2.2]; exact Ints.nil _ _, hB2⟩
      · have hkl2 : k < L := by omega
        have D1 : ((k : Int) == (L : Int)) = false := by simp; omega
        have hlen := stepL_len ht HVd.out HWp.out
        by_cases hbig : (stepL p xs t).length ≤ 256
        · have HN := Lib.hid (hC.out.next HVd.out hkl2 ht hf hbig)
          have HRd := Lib.hid hred
          go_wp2_with fail
          refine (i_reducibleAt _ _ p xs _ PT HV.out HWp.out (ordB_true HVd.out.ord).1 (by omega)).mono ?_
          rintro e w2 ⟨rfl, nd, hnd⟩
          have hb2 : Below wr.heap.size wr w2 := by rw [hnd]; exact below_drewN (Below.refl _ _) _
          rw [hf]
          have hB2 := below_size hB hb2
          clear hnd hf hred
          go_wp2_with fail
          refine (i_stepAt _ _ p xs t _ HVd.out (PT.below hb2) (HV.out.below hb2) ht HWp.out HRd.out (by omega)).mono ?_
          rintro e w3 ⟨u3, rfl, hI3, hb3⟩
          have hB3 := below_size hB2 hb3
          have hr3 := hI3.rd
          obtain ⟨a9, c9, rfl, _, _⟩ := hr3.form
          clear hI3 hb3 hB2 hb2 PT hB
          generalize stepL p xs t = ys at *
          go_wp2_with fail
          go_roundw
          case rel => exact ⟨k + 1, ys, by go_num, by omega, hr3, HN, hB3⟩
          case measure => simp [intOf]; omega
        · have HX := Lib.hid (hC.out.big hf (by omega))
          have HRd := Lib.hid hred
          go_wp2_with fail
          refine (i_reducibleAt _ _ p xs _ PT HV.out HWp.out (ordB_true HVd.out.ord).1 (by omega)).mono ?_
          rintro e w2 ⟨rfl, nd, hnd⟩
          have hb2 : Below wr.heap.size wr w2 := by rw [hnd]; exact below_drewN (Below.refl _ _) _
          rw [hf]
          have hB2 := below_size hB hb2
          clear hnd hf hred
          go_wp2_with fail
          refine (i_stepAt _ _ p xs t _ HVd.out (PT.below hb2) (HV.out.below hb2) ht HWp.out HRd.out (by omega)).mono ?_
          rintro e w3 ⟨u3, rfl, hI3, hb3⟩
          have hB3 := below_size hB2 hb3
          have hr3 := hI3.rd
          obtain ⟨a9, c9, rfl, _, _⟩ := hr3.form
          clear hI3 hb3 hB2 hb2 PT hB
          generalize stepL p xs t = ys at *
          have hbig2 : 256 < ys.length := by omega
          go_wp2_with fail
          go_ret3
          exact ⟨_, ret_vii rfl HX.out.2.1.symm HX.out.1.symm, by rw [HX.out.2.2]; exact Ints.nil _ _, hB3⟩
--== spec.l07Vector
def RetIBc (w : World) (xs : List Int) (b : Bool) (e : Ending) (w' : World) : Prop := ∃ v, e = .returned (.tuple #[v, .bool b]) ∧ Ints w' w.heap.size v xs ∧ Below w.heap.size w w'
set_option maxHeartbeats 4000000 in
theorem s_l07Vector (n : Nat) (v : Value) (xs : List Int) (w : World) (hv : Rd w v xs) (hw : PosW n xs) (hn : n ≤ 1000) (hx : xs.length ≤ 100000) :
    Calls Try.prog 54 #[.int .i64 n, v] w (RetIBc w (vecL n xs) true) := by
  obtain ⟨i0, hi0, hz0, hz1, hz2⟩ := info_parts Try.info2
  obtain ⟨ao, cap, rfl, _, _⟩ := hv.form
  have HV2 := Lib.hid hv
  have HWp := Lib.hid hw
  clear hv hw
  go_enter Try.func54, Try.ntmps54
  go_wp2_with (at_make; refine wp_mkInts _ rfl _ _ rfl i0 Try.underlying24 hi0 hz0 hz1 hz2 _ _ _ _ n rfl rfl rfl rfl (by omega) ?_)
  intro w3 hI hB3 hlt3
  go_wp2_with fail
  go_loopw [7] (fun i wr2 => ∃ j : Nat, j ≤ xs.length ∧ i = .int .i64 j ∧ Ints wr2 w.heap.size (.slice (some ⟨w.heap.size, 0, none⟩) n n) (vecL n (xs.take j)) ∧ Below w.heap.size w wr2) (fun i _ => xs.length - (intOf i).toNat)
  case atStart => exact ⟨0, Nat.zero_le _, rfl, hI, hB3⟩
  case round =>
    clear hI hB3 hlt3
    obtain ⟨j, hj, rfl, hI, hB5⟩ := hrel
    have hS5 := hB5.size
    have HV5 := Lib.hid (HV2.out.below hB5)
    by_cases hlt : j < xs.length
    · obtain ⟨q, hq1, hq2, hq3⟩ := vec_at HWp.out hlt
      obtain ⟨b, off, rfl, hcell⟩ := HV5.out.at hlt
      rw [hq1] at hcell
      have hlen : n = (vecL n (xs.take j)).length := (vecL_len _ _).symm
      obtain ⟨hcell2, hfz⟩ := hI.cell hlen q hq2
      have hbd := vec_bd (n := n) (xs := xs) j q
      obtain ⟨h1, h2⟩ := hI.set hlen q ((vecL n (xs.take j)).getD q 0 + 1)
      have hB6 := hB5.trans (h2.below (Nat.le_refl _) hS5)
      have HQ := Lib.hid hq3
      have HQ1 := Lib.hid hq1
      clear hq3 hq1 hlen h2 hI
      generalize vecL n (xs.take j) = R at *
      generalize R.getD q 0 = y at *
      have W1 : IntKind.i64.wrap ((q : Int) + 1 - 1) = (q : Int) := by rw [IntWalk.i64_in _ (by omega)]; omega
      have W3 : IntKind.i64.wrap (q : Int) = (q : Int) := IntWalk.i64_in _ (by omega)
      have W2 : IntKind.i64.wrap (y + 1) = y + 1 := IntWalk.i64_in _ (by omega)
      have L1 : (q : Int) < (n : Int) := by omega
      have L2 : (0 : Int) ≤ (q : Int) := by omega
      have L3 : (j : Int) < (xs.length : Int) := by omega
      go_wp2_with fail
      apply via
      case h =>
        go_region
        all_goals exact ⟨rfl, rfl⟩
      clear W1 W2 W3
      go_wp2_with fail
      go_roundw
      case rel => exact ⟨j + 1, by omega, by go_num, by rw [HQ.out]; first | exact h1 | exact h1.drew, by first | exact hB6 | exact hB6.drew⟩
      case measure => simp [intOf]; omega
    · obtain rfl : j = xs.length := by omega
      rw [List.take_length] at hI
      go_wp2_with fail
      go_ret2
      exact ⟨_, rfl, hI, hB5⟩
--== spec.l09Collect
/-- where the reference's collection stands: it goes on, or it has failed -/
def CollS (p : Pres) (L : Nat) (w0 : List Int) (k : Nat) (xs : List Int) : Prop := CollAt p L w0 k xs ∨ ((256 < xs.length ∨ L < k) ∧ xs.length ≤ 400 ∧ collC p L w0 = 3 ∧ collN p L w0 = 0 ∧ collL p L w0 = [])
def okc (c : Int) : Bool := decide (c = 0)
def RetCol (w : World) (xs : List Int) (a : Int) (b : Bool) (e : Ending) (w' : World) : Prop := ∃ v, e = .returned (.tuple #[v, .int .i64 a, .bool b]) ∧ Ints w' w.heap.size v xs ∧ Below w.heap.size w w'
theorem ret_vib {u v : Value} {a c : Int} {b d : Bool} (h : u = v) (h' : a = c) (h'' : b = d) : Ending.returned (.tuple #[u, .int .i64 a, .bool b]) = .returned (.tuple #[v, .int .i64 c, .bool d]) := by rw [h, h', h'']
set_option maxHeartbeats 8000000 in
theorem s_l09Collect (v1 v2 v3 v : Value) (p : Pres) (w0 : List Int) (L : Nat) (w : World) (hV : ValidP p) (hp : RdP w v1 v2 v3 p) (hv : Rd w v w0) (hw : PosW p.n w0) (hl : w0.length ≤ 256) (hL : L ≤ 2000) :
    Calls Try.prog 32 #[.agg #[v1, v2, v3], v, .int .i64 L] w (RetCol w (collL p L w0) (collN p L w0) (okc (collC p L w0))) := by
  have hn6 := hV.n6
  have HP := Lib.hid hp
  have HVd := Lib.hid hV
  obtain ⟨p1, q1, rfl, _, _⟩ := hp.1.formN (n := p.n) rfl
  obtain ⟨p2, q2, rfl, _, _⟩ := hp.2.1.formN hV.pl
  obtain ⟨p3, q3, rfl, _, _⟩ := hp.2.2.formN hV.cl
  have g0 := below_alloc w (Obj.cells #[Value.slice p1 p.n q1, Value.slice p2 p.n q2, Value.slice p3 p.n q3] 28)
  have x0 := Bx.new w (Value.slice p1 p.n q1) (Value.slice p2 p.n q2) (Value.slice p3 p.n q3)
  have hC0 : Hid (CollS p L w0 0 w0) := .inl ⟨Nat.zero_le _, hl, hw, rfl⟩
  have HRV := Lib.hid hv
  clear hV hp hw hv
  go_enter Try.func32, Try.ntmps32
  go_wp2_with fail
  refine (s_l01Own _ w0 _ (HRV.out.below g0) (by omega)).mono ?_
  rintro e w1 ⟨u1, rfl, hI1, hB1⟩
  have g1 := below_size g0 hB1
  have x1 := x0.below hB1 x0.lt
  have hr1 := hI1.rd
  obtain ⟨a6, c6, rfl, _, _⟩ := hr1.form
  clear hI1 hB1 g0 x0
  go_wp2_with fail
  go_loopw [9, 10, 11] (fun u n _ wr => ∃ (k : Nat) (xs : List Int), n = .int .i64 k ∧ k ≤ L + 1 ∧ Rd wr u xs ∧ Hid (CollS p L w0 k xs) ∧ Below w.heap.size w wr ∧ Bx wr w.heap.size (Value.slice p1 p.n q1) (Value.slice p2 p.n q2) (Value.slice p3 p.n q3)) (fun _ n _ _ => L + 1 - (intOf n).toNat)
  case atStart => exact ⟨0, w0, rfl, Nat.zero_le _, hr1, hC0, g1, x1⟩
  case round =>
    clear hC0 HRV hl hr1 g1 x1
    obtain ⟨k, xs, rfl, hk, hv, hC, hB, hX⟩ := hrel
    obtain ⟨ao, cap, rfl, _, _⟩ := hv.form
    have HV := Lib.hid hv
    have m0 := hX.c0
    have m1 := hX.c1
    have m2 := hX.c2
    clear hv
    rcases hC.out with hA | ⟨hb, hlx4, hF⟩
    case inr =>
      have HX := Lib.hid hF
      clear hF
      by_cases hkl : k ≤ L
      · have hb2 : 256 < xs.length := by omega
        go_wp2_with fail
        go_ret3
        exact ⟨_, ret_vib rfl HX.out.2.1.symm (by rw [HX.out.1]; rfl), by rw [HX.out.2.2]; exact Ints.nil _ _, hB⟩
      · go_wp2_with fail
        go_ret3
        exact ⟨_, ret_vib rfl HX.out.2.1.symm (by rw [HX.out.1]; rfl), by rw [HX.out.2.2]; exact Ints.nil _ _, hB⟩
    have hkl := hA.1
    have hlx := hA.2.1
    have HWp := Lib.hid hA.2.2.1
    have HA := Lib.hid hA
    clear hA
    rcases firstR_bd p.orders xs with hf | ⟨t, hf, ht, hred⟩
    · have HX := Lib.hid (HA.out.done hf)
      go_wp2_with fail
      refine (s_l09At _ _ _ _ p xs _ (HP.out.below hB) HV.out HWp.out (ordB_true HVd.out.ord).1 (by omega)).mono ?_
      rintro e w2 ⟨rfl, hb2⟩
      rw [hf]
      have hB2 := below_size hB hb2
      have hX2 := hX.below hb2 hX.lt
      have HV2 := Lib.hid (HV.out.below hb2)
      have n0 := hX2.c0
      clear hf hb2 m0 m1 m2 hX hB
      go_wp2_with fail
      refine (s_l07Vector p.n _ xs _ HV2.out HWp.out (by omega) (by omega)).mono ?_
      rintro e w3 ⟨u3, rfl, hI3, hb3⟩
      have hB3 := below_size hB2 hb3
      have hI4 : Ints w3 w.heap.size u3 (collL p L w0) := by rw [HX.out.2.2]; exact hI3.mono hB2.size
      obtain ⟨a9, c9, rfl, _, _⟩ := hI4.form
      clear hI3 hb3 hB2 hX2 n0
      go_wp2_with fail
      go_ret3
      exact ⟨_, ret_vib rfl HX.out.2.1.symm (by rw [HX.out.1]; rfl), hI4, hB3⟩
    · have hlen := stepL_len ht HVd.out HWp.out
      have HRd := Lib.hid hred
      have HN : Hid (CollS p L w0 (k + 1) (stepL p xs t)) := by
        by_cases hbig : (stepL p xs t).length ≤ 256
        · by_cases hkl2 : k < L
          · exact .inl (HA.out.next HVd.out hkl2 ht hf hbig)
          · obtain rfl : k = L := by omega
            exact .inr ⟨by omega, by omega, HA.out.stop hf⟩
        · exact .inr ⟨by omega, by omega, HA.out.big hf (by omega)⟩
      go_wp2_with fail
      refine (s_l09At _ _ _ _ p xs _ (HP.out.below hB) HV.out HWp.out (ordB_true HVd.out.ord).1 (by omega)).mono ?_
      rintro e w2 ⟨rfl, hb2⟩
      rw [hf]
      have hB2 := below_size hB hb2
      have hX2 := hX.below hb2 hX.lt
      have HV2 := Lib.hid (HV.out.below hb2)
      have n0 := hX2.c0
      have n1 := hX2.c1
      have n2 := hX2.c2
      clear hf hb2 m0 m1 m2 hX hB hred
      go_wp2_with fail
      refine (s_l09Step _ _ _ _ p xs t _ HVd.out (HP.out.below hB2) HV2.out ht HWp.out HRd.out (by omega)).mono ?_
      rintro e w3 ⟨u3, rfl, hI3, hb3⟩
      have hB3 := below_size hB2 hb3
      have hX3 := hX2.below hb3 hX2.lt
      have hr3 := hI3.rd
      obtain ⟨a9, c9, rfl, _, _⟩ := hr3.form
      clear hI3 hb3 hB2 hX2 n0 n1 n2
      generalize stepL p xs t = ys at *
      go_wp2_with fail
      go_roundw
      case rel => exact ⟨k + 1, ys, by go_num, by omega, hr3, HN, hB3, hX3⟩
      case measure => simp [intOf]; omega
end Go.Proofs.Ytiikoappknejgaa
namespace Go.Proofs.Ytiikoappknejgaa
set_option linter.unusedVariables false
set_option linter.unusedSimpArgs false
set_option maxRecDepth 100000
open Go.RowKit

--== append
theorem run_appK (w : World) (ty : TypeId) (B : Nat) (v : Value) (xs : List Int) (hown : Ints w B v xs) (vx : Value) (ys : List Int) (hrd : Rd w vx ys) (hn : xs.length ≤ 1000000000) (hm : ys.length ≤ 1000000000) (hB : B ≤ w.heap.size) :
    ∃ v' w', (Builtin.append_ #[24, 24] ty #[v, vx]).run Try.prog w = .ok v' w' ∧ Ints w' B v' (xs ++ ys) ∧ Below B w w' := by
  obtain ⟨i0, hi, hz0, hz1, hz2⟩ := info_parts Try.info2
  obtain ⟨v', w', hr, h1, h2, h3⟩ := run_app w B 24 ty 2 i0 (.int .i64 0) 8 Try.underlying24 hi hz0 hz1 hz2 rfl v xs.length (xs.map (Value.int .i64)) hown vx (ys.map (Value.int .i64)) hrd.cells (ints_oneCell _ _) (by simp [maxLen]; omega) (by simp; omega) hB
  have hg : Grew w w' v v' := ⟨h2, h3⟩
  refine ⟨v', w', hr, ?_, hg.below hB fun g hg => (hown.lt g hg).1⟩
  unfold Ints
  rw [List.length_append, List.map_append]
  simpa using h1
--== plain
def cwK (p : Pres) (w : List Int) (l : Int) : Int := if posV p w = true then (if inB l 0 2000 = true then collC p l.toNat w else 2) else 1
def cwN (p : Pres) (w : List Int) (l : Int) : Int := if posV p w = true then (if inB l 0 2000 = true then collN p l.toNat w else 0) else 0
def cwL (p : Pres) (w : List Int) (l : Int) : List Int := if posV p w = true then (if inB l 0 2000 = true then collL p l.toNat w else []) else []
theorem cw_no {p : Pres} {w : List Int} {l : Int} (h : posV p w = false) : cwK p w l = 1 ∧ cwN p w l = 0 ∧ cwL p w l = [] := by simp [cwK, cwN, cwL, h]
theorem cw_lim {p : Pres} {w : List Int} {l : Int} (h : posV p w = true) (h2 : inB l 0 2000 = false) : cwK p w l = 2 ∧ cwN p w l = 0 ∧ cwL p w l = [] := by simp [cwK, cwN, cwL, h, h2]
theorem cw_go {p : Pres} {w : List Int} {m : Nat} (h : posV p w = true) (h2 : inB (m : Int) 0 2000 = true) : cwK p w m = collC p m w ∧ cwN p w m = collN p m w ∧ cwL p w m = collL p m w := by simp [cwK, cwN, cwL, h, h2]
theorem collL_len (p : Pres) (m : Nat) (w : List Int) : (collL p m w).length ≤ p.n := by
  unfold collL
  split
  · rw [vecL_len]; omega
  · simp
theorem len_CollectWord (p : Pres) (w : List Int) (l : Int) : (cwL p w l).length ≤ 1000000000 := by
  unfold cwL
  split
  · rename_i h
    have := (posV_true h).1.n6
    split
    · have := collL_len p l.toNat w; omega
    · simp
  · simp
def cpB (p : Pres) (a b : List Int) : Bool := validB p && (tailB p.orders a 0 && tailB p.orders b 0)
def cpK (p : Pres) (a b : List Int) (l : Int) : Int := if cpB p a b = true then (if inB l 0 2000 = true then collC p l.toNat (nwL a ++ nwL b) else 2) else 1
def cpL (p : Pres) (a b : List Int) (l : Int) : List Int := if cpB p a b = true then (if inB l 0 2000 = true then collL p l.toNat (nwL a ++ nwL b) else []) else []
theorem cp_no {p : Pres} {a b : List Int} {l : Int} (h : cpB p a b = false) : cpK p a b l = 1 ∧ cpL p a b l = [] := by simp [cpK, cpL, h]
theorem cp_lim {p : Pres} {a b : List Int} {l : Int} (h : cpB p a b = true) (h2 : inB l 0 2000 = false) : cpK p a b l = 2 ∧ cpL p a b l = [] := by simp [cpK, cpL, h, h2]
theorem cp_go {p : Pres} {a b : List Int} {m : Nat} (h : cpB p a b = true) (h2 : inB (m : Int) 0 2000 = true) : cpK p a b m = collC p m (nwL a ++ nwL b) ∧ cpL p a b m = collL p m (nwL a ++ nwL b) := by simp [cpK, cpL, h, h2]
theorem cpB_true {p : Pres} {a b : List Int} (h : cpB p a b = true) : ValidP p ∧ tailB p.orders a 0 = true ∧ tailB p.orders b 0 = true := by
  unfold cpB at h
  rw [Bool.and_eq_true, Bool.and_eq_true] at h
  exact ⟨validB_true.1 h.1, h.2⟩
theorem len_CollectProduct (p : Pres) (a b : List Int) (l : Int) : (cpL p a b l).length ≤ 1000000000 := by
  unfold cpL
  split
  · rename_i h
    have := (cpB_true h).1.n6
    split
    · have := collL_len p l.toNat (nwL a ++ nwL b); omega
    · simp
  · simp
theorem cp_word {p : Pres} {a b : List Int} (h : cpB p a b = true) : SmE a ∧ SmE b ∧ PosW p.n (nwL a ++ nwL b) ∧ (nwL a ++ nwL b).length ≤ 200 ∧ (nwL a).length ≤ 100 ∧ (nwL b).length ≤ 100 := by
  obtain ⟨hV, ha, hb⟩ := cpB_true h
  have ho := (ordB_true hV.ord).1
  have sa := tailB_sm ho hV.n6 ha
  have sb := tailB_sm ho hV.n6 hb
  have la := nwL_len sa
  have lb := nwL_len sb
  exact ⟨sa, sb, (PosM.app (nwL_pos (tailB_true ha).1) (nwL_pos (tailB_true hb).1)).w, by rw [List.length_append]; omega, la, lb⟩
end Go.Proofs.Ytiikoappknejgaa
namespace Go.Proofs.Ytiikoappknejgaa
set_option linter.unusedVariables false
set_option linter.unusedSimpArgs false
set_option maxRecDepth 100000
open Go.RowKit

--== both
theorem coll_cases (p : Pres) (m : Nat) (w : List Int) : collC p m w = 0 ∨ (collC p m w = 3 ∧ collN p m w = 0 ∧ collL p m w = []) := by
  cases h : colW p m w with
  | none => exact .inr (coll_none h)
  | some x => obtain ⟨u, f⟩ := x; exact .inl (coll_some h).1
--== impl.CollectWord
set_option maxHeartbeats 4000000 in
theorem i_CollectWord (v1 v2 v3 : Value) (p : Pres) (v : Value) (xs : List Int) (l : Int) (w : World) (hp : RdP w v1 v2 v3 p) (hv : Rd w v xs) (bl : -9223372036854775808 ≤ l ∧ l ≤ 9223372036854775807) :
    Calls Try.prog 12 #[.agg #[v1, v2, v3], v, .int .i64 l] w (RetInts3 w (cwL p xs l) (cwN p xs l) (cwK p xs l)) := by
  have HP := Lib.hid hp
  obtain ⟨ao1, cap1, rfl, _, _⟩ := hp.1.form
  obtain ⟨ao2, cap2, rfl, _, _⟩ := hp.2.1.form
  obtain ⟨ao3, cap3, rfl, _, _⟩ := hp.2.2.form
  have g0 := below_alloc w (Obj.cells #[Value.slice ao1 p.orders.length cap1, Value.slice ao2 p.powers.length cap2, Value.slice ao3 p.conj.length cap3] 28)
  have B0 := Bx.new w (Value.slice ao1 p.orders.length cap1) (Value.slice ao2 p.powers.length cap2) (Value.slice ao3 p.conj.length cap3)
  have HV := Lib.hid hv
  obtain ⟨ao, cap, rfl, hc1, hc2⟩ := hv.form
  clear hp hv
  by_cases hV : validB p = true
  case neg =>
    have hV' : validB p = false := by simpa using hV
    have HX := Lib.hid (cw_no (l := l) (show posV p xs = false by simp [posV, hV']))
    clear hV
    go_enter Try.func12, Try.ntmps12
    go_wp2_with fail
    refine (i_IsPresentation _ _ _ p _ (HP.out.below g0)).mono ?_
    rintro e w1 ⟨rfl, hb⟩
    have g1 := below_size g0 hb
    have B1 := B0.below hb (by simp)
    have PT := B1.ptr (HP.out.below g1)
    have m0 := B1.c0
    have m1 := B1.c1
    have m2 := B1.c2
    rw [hV']
    clear hb hV' PT m0 m1 m2
    go_wp2_with fail
    go_ret3
    exact ⟨_, ret_vii rfl HX.out.2.1.symm HX.out.1.symm, by rw [HX.out.2.2]; exact Ints.nil _ _, g1⟩
  have HVd := Lib.hid (validB_true.1 hV)
  have hn6 : p.orders.length ≤ 6 := HVd.out.n6
  have HVt := Lib.hid hV
  by_cases hP : posB p.n xs = true
  case neg =>
    have hP' : posB p.n xs = false := by simpa using hP
    have HX := Lib.hid (cw_no (l := l) (show posV p xs = false by simp [posV, posM, hP']))
    clear hP
    go_enter Try.func12, Try.ntmps12
    go_wp2_with fail
    refine (i_IsPresentation _ _ _ p _ (HP.out.below g0)).mono ?_
    rintro e w1 ⟨rfl, hb⟩
    have g1 := below_size g0 hb
    have B1 := B0.below hb (by simp)
    have PT := B1.ptr (HP.out.below g1)
    have m0 := B1.c0
    have m1 := B1.c1
    have m2 := B1.c2
    rw [hV]
    clear hb hV m0 m1 m2
    go_wp2_with fail
    refine (i_positiveWord _ _ p xs _ PT (Rd.below HV.out g1) (by unfold Pres.n; omega)).mono ?_
    rintro e w' ⟨rfl, rfl⟩
    rw [hP']
    clear hP' 
    go_wp2_with fail
    go_ret3
    exact ⟨_, ret_vii rfl HX.out.2.1.symm HX.out.1.symm, by rw [HX.out.2.2]; exact Ints.nil _ _, g1⟩
  have HPw := Lib.hid hP
  by_cases hl : xs.length ≤ 64
  case neg =>
    have HX := Lib.hid (cw_no (l := l) (show posV p xs = false by simp [posV, posM, hl]))
    go_enter Try.func12, Try.ntmps12
    go_wp2_with fail
    refine (i_IsPresentation _ _ _ p _ (HP.out.below g0)).mono ?_
    rintro e w1 ⟨rfl, hb⟩
    have g1 := below_size g0 hb
    have B1 := B0.below hb (by simp)
    have PT := B1.ptr (HP.out.below g1)
    have m0 := B1.c0
    have m1 := B1.c1
    have m2 := B1.c2
    rw [hV]
    clear hb hV m0 m1 m2
    go_wp2_with fail
    refine (i_positiveWord _ _ p xs _ PT (Rd.below HV.out g1) (by unfold Pres.n; omega)).mono ?_
    rintro e w' ⟨rfl, rfl⟩
    rw [hP]
    clear hP
    go_wp2_with fail
    go_ret3
    exact ⟨_, ret_vii rfl HX.out.2.1.symm HX.out.1.symm, by rw [HX.out.2.2]; exact Ints.nil _ _, g1⟩
  have HY : Hid (posV p xs = true) := by show _ = _; simp [posV, posM, hl, HVt.out, HPw.out]
  have HWp := Lib.hid (posB_true HPw.out)
  by_cases hi : inB l 0 2000 = true
  case neg =>
    have hi' : inB l 0 2000 = false := by simpa using hi
    have HX := Lib.hid (cw_lim HY.out hi')
    clear hi
    go_enter Try.func12, Try.ntmps12
    go_wp2_with fail
    refine (i_IsPresentation _ _ _ p _ (HP.out.below g0)).mono ?_
    rintro e w1 ⟨rfl, hb⟩
    have g1 := below_size g0 hb
    have B1 := B0.below hb (by simp)
    have PT := B1.ptr (HP.out.below g1)
    have m0 := B1.c0
    have m1 := B1.c1
    have m2 := B1.c2
    rw [hV]
    clear hb hV m0 m1 m2
    go_wp2_with fail
    refine (i_positiveWord _ _ p xs _ PT (Rd.below HV.out g1) (by unfold Pres.n; omega)).mono ?_
    rintro e w' ⟨rfl, rfl⟩
    rw [hP]
    clear hP
    clear PT
    have PT := B1.ptr (HP.out.below g1)
    go_wp2_with fail
    refine (i_inside l 0 2000 _).mono ?_
    rintro e w' ⟨rfl, rfl⟩
    rw [hi']
    clear hi'
    go_wp2_with fail
    go_ret3
    exact ⟨_, ret_vii rfl HX.out.2.1.symm HX.out.1.symm, by rw [HX.out.2.2]; exact Ints.nil _ _, g1⟩
  obtain ⟨hl0, hl1⟩ := inB_true.1 hi
  obtain ⟨m, rfl⟩ : ∃ m : Nat, l = (m : Int) := ⟨l.toNat, by omega⟩
  have hm : m ≤ 2000 := by omega
  have HX := Lib.hid (cw_go HY.out hi)
  clear hl0 hl1
  go_enter Try.func12, Try.ntmps12
  go_wp2_with fail
  refine (i_IsPresentation _ _ _ p _ (HP.out.below g0)).mono ?_
  rintro e w1 ⟨rfl, hb⟩
  have g1 := below_size g0 hb
  have B1 := B0.below hb (by simp)
  have PT := B1.ptr (HP.out.below g1)
  have m0 := B1.c0
  have m1 := B1.c1
  have m2 := B1.c2
  rw [hV]
  clear hb hV m0 m1 m2
  go_wp2_with fail
  refine (i_positiveWord _ _ p xs _ PT (Rd.below HV.out g1) (by unfold Pres.n; omega)).mono ?_
  rintro e w' ⟨rfl, rfl⟩
  rw [hP]
  clear hP
  clear PT
  have PT := B1.ptr (HP.out.below g1)
  go_wp2_with fail
  refine (i_inside (m : Int) 0 2000 _).mono ?_
  rintro e w' ⟨rfl, rfl⟩
  rw [hi]
  clear hi
  go_wp2_with fail
  refine (i_collect _ _ p xs m _ HVd.out PT (Rd.below HV.out g1) HWp.out (by omega) hm).mono ?_
  rintro e w3 ⟨u3, rfl, hI3, hb3⟩
  have g3 := below_size g1 hb3
  have hI4 : Ints w3 w.heap.size u3 (cwL p xs m) := by rw [HX.out.2.2]; exact hI3.mono g1.size
  obtain ⟨a9, c9, rfl, _, _⟩ := hI4.form
  clear hI3 hb3 g1
  go_wp2_with fail
  go_ret3
  exact ⟨_, ret_vii rfl HX.out.2.1.symm HX.out.1.symm, hI4, g3⟩
--== spec.CollectWord
set_option maxHeartbeats 4000000 in
theorem s_CollectWord (v1 v2 v3 : Value) (p : Pres) (v : Value) (xs : List Int) (l : Int) (w : World) (hp : RdP w v1 v2 v3 p) (hv : Rd w v xs) (bl : -9223372036854775808 ≤ l ∧ l ≤ 9223372036854775807) :
    Calls Try.prog 13 #[.agg #[v1, v2, v3], v, .int .i64 l] w (RetInts3 w (cwL p xs l) (cwN p xs l) (cwK p xs l)) := by
  have HP := Lib.hid hp
  obtain ⟨ao1, cap1, rfl, _, _⟩ := hp.1.form
  obtain ⟨ao2, cap2, rfl, _, _⟩ := hp.2.1.form
  obtain ⟨ao3, cap3, rfl, _, _⟩ := hp.2.2.form
  have g0 := below_alloc w (Obj.cells #[Value.slice ao1 p.orders.length cap1, Value.slice ao2 p.powers.length cap2, Value.slice ao3 p.conj.length cap3] 28)
  have B0 := Bx.new w (Value.slice ao1 p.orders.length cap1) (Value.slice ao2 p.powers.length cap2) (Value.slice ao3 p.conj.length cap3)
  have HV := Lib.hid hv
  obtain ⟨ao, cap, rfl, hc1, hc2⟩ := hv.form
  clear hp hv
  by_cases hV : validB p = true
  case neg =>
    have hV' : validB p = false := by simpa using hV
    have HX := Lib.hid (cw_no (l := l) (show posV p xs = false by simp [posV, hV']))
    clear hV
    go_enter Try.func13, Try.ntmps13
    go_wp2_with fail
    refine (s_IsPresentation _ _ _ p _ (HP.out.below g0)).mono ?_
    rintro e w1 ⟨rfl, hb⟩
    have g1 := below_size g0 hb
    have B1 := B0.below hb (by simp)
    have PT := B1.ptr (HP.out.below g1)
    have m0 := B1.c0
    have m1 := B1.c1
    have m2 := B1.c2
    rw [hV']
    clear hb hV' PT m0 m1 m2
    go_wp2_with fail
    go_ret3
    exact ⟨_, ret_vii rfl HX.out.2.1.symm HX.out.1.symm, by rw [HX.out.2.2]; exact Ints.nil _ _, g1⟩
  have HVd := Lib.hid (validB_true.1 hV)
  have hn6 : p.orders.length ≤ 6 := HVd.out.n6
  have HVt := Lib.hid hV
  by_cases hP : posM p.n xs 64 = true
  case neg =>
    have hP' : posM p.n xs 64 = false := by simpa using hP
    have HX := Lib.hid (cw_no (l := l) (show posV p xs = false by simp [posV, hP']))
    have HC : Hid (∀ w, Rd w (.slice ao xs.length cap) xs → Calls Try.prog 30 #[.int .i64 (p.orders.length : Nat), .slice ao xs.length cap, .int .i64 64] w fun e w' => e = .returned (.bool false) ∧ w = w') := fun w h => by rw [← hP']; exact s_l09Positive p.n _ xs 64 w h (by unfold Pres.n; omega) (by omega)
    clear hP hP'
    go_enter Try.func13, Try.ntmps13
    go_wp2_with fail
    refine (s_IsPresentation _ _ _ p _ (HP.out.below g0)).mono ?_
    rintro e w1 ⟨rfl, hb⟩
    have g1 := below_size g0 hb
    have B1 := B0.below hb (by simp)
    have PT := B1.ptr (HP.out.below g1)
    have m0 := B1.c0
    have m1 := B1.c1
    have m2 := B1.c2
    rw [hV]
    clear hb hV m1 m2
    go_wp2_with fail
    refine (HC.out _ (Rd.below HV.out g1)).mono ?_
    rintro e w' ⟨rfl, rfl⟩
    clear HC
    go_wp2_with fail
    go_ret3
    exact ⟨_, ret_vii rfl HX.out.2.1.symm HX.out.1.symm, by rw [HX.out.2.2]; exact Ints.nil _ _, g1⟩
  have HPw : Hid (posB p.n xs = true ∧ xs.length ≤ 64) := by simpa [posM, Hid] using hP
  have hl := HPw.out.2
  have HC : Hid (∀ w, Rd w (.slice ao xs.length cap) xs → Calls Try.prog 30 #[.int .i64 (p.orders.length : Nat), .slice ao xs.length cap, .int .i64 64] w fun e w' => e = .returned (.bool true) ∧ w = w') := fun w h => by rw [← hP]; exact s_l09Positive p.n _ xs 64 w h (by unfold Pres.n; omega) (by omega)
  have HY : Hid (posV p xs = true) := by show _ = _; simp [posV, HVt.out, hP]
  have HWp := Lib.hid (posB_true HPw.out.1)
  clear hP
  by_cases hi : inB l 0 2000 = true
  case neg =>
    have hi' : inB l 0 2000 = false := by simpa using hi
    have HX := Lib.hid (cw_lim HY.out hi')
    clear hi
    go_enter Try.func13, Try.ntmps13
    go_wp2_with fail
    refine (s_IsPresentation _ _ _ p _ (HP.out.below g0)).mono ?_
    rintro e w1 ⟨rfl, hb⟩
    have g1 := below_size g0 hb
    have B1 := B0.below hb (by simp)
    have PT := B1.ptr (HP.out.below g1)
    have m0 := B1.c0
    have m1 := B1.c1
    have m2 := B1.c2
    rw [hV]
    clear hb hV
    go_wp2_with fail
    refine (HC.out _ (Rd.below HV.out g1)).mono ?_
    rintro e w' ⟨rfl, rfl⟩
    clear HC
    go_wp2_with fail
    refine (s_l01In l 0 2000 _).mono ?_
    rintro e w' ⟨rfl, rfl⟩
    rw [hi']
    clear hi'
    go_wp2_with fail
    go_ret3
    exact ⟨_, ret_vii rfl HX.out.2.1.symm HX.out.1.symm, by rw [HX.out.2.2]; exact Ints.nil _ _, g1⟩
  obtain ⟨hl0, hl1⟩ := inB_true.1 hi
  obtain ⟨m, rfl⟩ : ∃ m : Nat, l = (m : Int) := ⟨l.toNat, by omega⟩
  have hm : m ≤ 2000 := by omega
  have HX := Lib.hid (cw_go HY.out hi)
  clear hl0 hl1
  go_enter Try.func13, Try.ntmps13
  go_wp2_with fail
  refine (s_IsPresentation _ _ _ p _ (HP.out.below g0)).mono ?_
  rintro e w1 ⟨rfl, hb⟩
  have g1 := below_size g0 hb
  have B1 := B0.below hb (by simp)
  have PT := B1.ptr (HP.out.below g1)
  have m0 := B1.c0
  have m1 := B1.c1
  have m2 := B1.c2
  rw [hV]
  clear hb hV
  go_wp2_with fail
  refine (HC.out _ (Rd.below HV.out g1)).mono ?_
  rintro e w' ⟨rfl, rfl⟩
  clear HC
  go_wp2_with fail
  refine (s_l01In (m : Int) 0 2000 _).mono ?_
  rintro e w' ⟨rfl, rfl⟩
  rw [hi]
  clear hi
  go_wp2_with fail
  refine (s_l09Collect _ _ _ _ p xs m _ HVd.out (HP.out.below g1) (Rd.below HV.out g1) HWp.out (by omega) hm).mono ?_
  rintro e w3 ⟨u3, rfl, hI3, hb3⟩
  have g3 := below_size g1 hb3
  have hI4 : Ints w3 w.heap.size u3 (cwL p xs m) := by rw [HX.out.2.2]; exact hI3.mono g1.size
  obtain ⟨a9, c9, rfl, _, _⟩ := hI4.form
  clear hI3 hb3 g1
  rcases coll_cases p m xs with hz | ⟨hz, hn0, hnl⟩
  · have HZ : Hid (okc (collC p m xs) = true) := by show _ = _; rw [hz]; rfl
    have HZ0 := Lib.hid hz
    rw [HZ.out]
    clear hz
    go_wp2_with fail
    go_ret3
    exact ⟨_, ret_vii rfl HX.out.2.1.symm (by rw [HX.out.1, HZ0.out]), hI4, g3⟩
  · have HZ : Hid (okc (collC p m xs) = false) := by show _ = _; rw [hz]; rfl
    have HZ0 := Lib.hid (And.intro hz (And.intro hn0 hnl))
    rw [HZ.out]
    clear hz hn0 hnl
    go_wp2_with fail
    go_ret3
    exact ⟨_, ret_vii rfl (by rw [HX.out.2.1, HZ0.out.2.1]) (by rw [HX.out.1, HZ0.out.1]), by rw [HX.out.2.2, HZ0.out.2.2]; exact Ints.nil _ _, g3⟩
end Go.Proofs.Ytiikoappknejgaa
namespace Go.Proofs.Ytiikoappknejgaa
set_option linter.unusedVariables false
set_option linter.unusedSimpArgs false
set_option maxRecDepth 100000
open Go.RowKit

--== plain
theorem firstR_neg {os w : List Int} (h : firstR os w = -1) {t : Nat} (ht : t < w.length) : redB os w t = false := by
  unfold firstR at h
  cases hf : (List.range w.length).find? (redB os w) with
  | none =>
    have := List.find?_eq_none.1 hf t (List.mem_range.2 ht)
    simpa using this
  | some s => rw [hf] at h; simp at h
theorem vecL_app (n : Nat) (l : List Int) (o : Int) : vecL n (l ++ [o]) = vecS (vecL n l) o := by simp [vecL, List.foldl_append]
theorem vecL_count {n i : Nat} (hi : i < n) (u : List Int) : PosM n u → (vecL n u).getD i 0 = ((u.count ((i : Int) + 1) : Nat) : Int) := by
  refine snoc_ind (P := fun u => PosM n u → (vecL n u).getD i 0 = ((u.count ((i : Int) + 1) : Nat) : Int)) ?_ ?_ u
  · intro _
    simp [vecL, List.getD, hi]
  · intro l o ih h
    have h1 := ih fun x hx => h x (List.mem_append_left _ hx)
    have ho := h o (List.mem_append_right _ (List.mem_singleton.2 rfl))
    obtain ⟨q, rfl⟩ : ∃ q : Nat, o = (q : Int) + 1 := ⟨(o - 1).toNat, by omega⟩
    rw [vecL_app, List.count_append, List.count_singleton]
    unfold vecS
    rw [show ((q : Int) + 1 - 1).toNat = q by omega]
    by_cases hq : q = i
    · subst hq
      rw [gset_selfI _ _ _ (by rw [vecL_len]; exact hi), h1]
      simp
    · rw [gset_neI _ _ _ _ hq, h1]
      have : ((q : Int) + 1 == (i : Int) + 1) = false := by simp; omega
      simp [this]
theorem nwL_flat (v : List Int) : nwL v = (List.range v.length).flatMap fun k => List.replicate (v.getD k 0).toNat ((k : Int) + 1) := by
  unfold nwL lw lwAt
  rw [List.map_flatMap]
  congr 1
  funext k
  rw [List.map_replicate]
theorem count_flat (c : Nat → Nat) (i : Nat) : ∀ n, ((List.range n).flatMap fun k => List.replicate (c k) ((k : Int) + 1)).count ((i : Int) + 1) = if i < n then c i else 0
  | 0 => by simp
  | n + 1 => by
    rw [List.range_succ, List.flatMap_append, List.count_append, count_flat c i n]
    simp only [List.flatMap_cons, List.flatMap_nil, List.append_nil, List.count_replicate]
    by_cases h : i = n
    · subst h; simp
    · have hb : ((n : Int) + 1 == (i : Int) + 1) = false := by simp; omega
      rw [hb, if_neg Bool.false_ne_true, Nat.add_zero]
      by_cases h2 : i < n
      · rw [if_pos h2, if_pos (show i < n + 1 by omega)]
      · rw [if_neg h2, if_neg (show ¬ i < n + 1 by omega)]
theorem sorted_adj {u : List Int} (h : ∀ t, t + 1 < u.length → u.getD t 0 ≤ u.getD (t + 1) 0) : u.Pairwise (· ≤ ·) := by
  have hd : ∀ d t, t + d < u.length → u.getD t 0 ≤ u.getD (t + d) 0 := by
    intro d
    induction d with
    | zero => intro t _; exact Int.le_refl _
    | succ d ih =>
      intro t ht
      have h1 := ih t (by omega)
      have h2 := h (t + d) (by omega)
      exact Int.le_trans h1 h2
  rw [List.pairwise_iff_getElem]
  intro i j hi hj hij
  have := hd (j - i) i (by omega)
  rw [show i + (j - i) = j by omega] at this
  simpa [List.getD, hi, hj] using this
theorem nwL_sorted (v : List Int) : (nwL v).Pairwise (· ≤ ·) := by
  rw [nwL_flat, List.pairwise_flatMap]
  refine ⟨fun k _ => ?_, ?_⟩
  · rw [List.pairwise_replicate]; exact .inr (Int.le_refl _)
  · refine List.pairwise_lt_range.imp ?_
    intro a b hab x hx y hy
    rw [List.mem_replicate] at hx hy
    rw [hx.2, hy.2]; omega
theorem nw_vec {p : Pres} {u : List Int} (hu : PosW p.n u) (hf : firstR p.orders u = -1) : nwL (vecL p.n u) = u := by
  have hm := hu.m
  have hs : u.Pairwise (· ≤ ·) := sorted_adj fun t ht => by
    have h1 := firstR_neg hf (show t < u.length by omega)
    apply Classical.byContradiction
    intro hc
    rw [redB_desc ht (by omega)] at h1
    cases h1
  refine List.Perm.eq_of_pairwise (le := fun a b : Int => a ≤ b) (fun a b _ _ h1 h2 => Int.le_antisymm h1 h2) (nwL_sorted _) hs ?_
  rw [List.perm_iff_count]
  intro a
  by_cases ha : 1 ≤ a ∧ a ≤ (p.n : Int)
  · obtain ⟨i, rfl⟩ : ∃ i : Nat, a = (i : Int) + 1 := ⟨(a - 1).toNat, by omega⟩
    have hi : i < p.n := by omega
    rw [nwL_flat, count_flat (fun k => ((vecL p.n u).getD k 0).toNat), vecL_len, if_pos hi, vecL_count hi u hm]
    simp
  · rw [List.count_eq_zero.2 fun h => ha (by have := nwL_pos (vecL_len p.n u) a h; omega), List.count_eq_zero.2 fun h => ha (by have := hm a h; omega)]
theorem redB_runS {p : Pres} (hV : ValidP p) {w : List Int} {t q : Nat} (hq : w.getD t 0 = (q : Int) + 1) (hqn : q < p.n) (ht : t ≤ w.length) (hr : t + (p.r q).toNat ≤ w.length) (hall : ∀ i, i < (p.r q).toNat → w.getD (t + i) 0 = (q : Int) + 1) : redB p.orders w t = true := by
  have h7 := hV.rk q hqn
  unfold redB
  rw [Bool.or_eq_true]
  refine .inr (decide_eq_true ?_)
  have h1 : (p.r q).toNat ≤ runL w t := (runL_ge ht).2 ⟨hr, fun i hi => by rw [hall i hi, hq]⟩
  rw [hq, show ((q : Int) + 1 - 1).toNat = q by omega]
  show p.r q ≤ _
  omega
theorem gapp_atS {β : Type} (l m : List β) (j : Nat) (d : β) : (l ++ m).getD (l.length + j) d = m.getD j d := by rw [List.getD_eq_getElem?_getD, List.getElem?_append_right (by omega), Nat.add_sub_cancel_left, ← List.getD_eq_getElem?_getD]
theorem flat_split (c : Nat → Nat) (i : Nat) : ∀ n, i < n → ∃ A B : List Int, ((List.range n).flatMap fun k => List.replicate (c k) ((k : Int) + 1)) = A ++ (List.replicate (c i) ((i : Int) + 1) ++ B)
  | 0, h => by omega
  | n + 1, h => by
    rw [List.range_succ, List.flatMap_append]
    by_cases hi : i = n
    · subst hi
      exact ⟨(List.range i).flatMap fun k => List.replicate (c k) ((k : Int) + 1), [], by simp⟩
    · obtain ⟨A, B, e⟩ := flat_split c i n (by omega)
      exact ⟨A, B ++ List.replicate (c n) ((n : Int) + 1), by rw [e]; simp⟩
/-- the exponents of a normal word are small -/
theorem exv_nf {p : Pres} (hV : ValidP p) {u : List Int} (hu : PosW p.n u) (hf : firstR p.orders u = -1) : exvB p (vecL p.n u) = true := by
  unfold exvB
  rw [validB_true.2 hV, Bool.true_and]
  refine tailB_of (vecL_len _ _) fun i hi => ?_
  rw [vecL_len] at hi
  have hb := vecL_bd p.n u i
  refine expAt_true.2 ⟨⟨hb.1, ?_⟩, .inl (Nat.zero_le _)⟩
  apply Classical.byContradiction
  intro hc
  have h7 := hV.rk i hi
  have hr : p.r i = p.orders.getD i 0 := rfl
  have hnw := nw_vec hu hf
  rw [nwL_flat, vecL_len] at hnw
  obtain ⟨A, B, e⟩ := flat_split (fun k => ((vecL p.n u).getD k 0).toNat) i p.n hi
  rw [e] at hnw
  obtain ⟨m, hm⟩ : ∃ m : Nat, (vecL p.n u).getD i 0 = (m : Int) := ⟨((vecL p.n u).getD i 0).toNat, by omega⟩
  simp only [hm, Int.toNat_natCast] at hnw
  have hmr : (p.r i).toNat ≤ m := by omega
  have hat : ∀ t, t < m → u.getD (A.length + t) 0 = (i : Int) + 1 := fun t ht => by
    rw [← hnw, gapp_atS]
    rw [List.getD_eq_getElem?_getD, List.getElem?_append_left (by simpa using ht), List.getElem?_replicate, if_pos ht]
    rfl
  have hlen : A.length + m ≤ u.length := by rw [← hnw]; simp
  have hred := redB_runS hV (w := u) (t := A.length) (q := i) (by have := hat 0 (by omega); simpa using this) hi (by omega) (by omega) (fun t ht => hat t (by omega))
  rw [firstR_neg hf (by omega)] at hred
  cases hred
theorem colW_le {p : Pres} : ∀ {m : Nat} {w u : List Int} {f : Nat}, colW p m w = some (u, f) → f ≤ m
  | 0, w, u, f, h => by
    unfold colW at h
    split at h
    · simp only [Option.some.injEq, Prod.mk.injEq] at h; omega
    · cases h
  | m + 1, w, u, f, h => by
    unfold colW at h
    split at h
    · simp only [Option.some.injEq, Prod.mk.injEq] at h; omega
    · split at h
      · cases h
      · have := colW_le h; omega
theorem colW_end {p : Pres} {m : Nat} {w u : List Int} {f : Nat} (h : colW p m w = some (u, f)) (hf : firstR p.orders w = -1) : u = w ∧ f = m := by
  rw [colW_nf hf] at h
  simp only [Option.some.injEq, Prod.mk.injEq] at h
  exact ⟨h.1.symm, h.2.symm⟩
theorem colW_next {p : Pres} {m : Nat} {w u : List Int} {f t : Nat} (h : colW p m w = some (u, f)) (hf : firstR p.orders w = (t : Int)) : ∃ k, m = k + 1 ∧ (stepL p w t).length ≤ 256 ∧ colW p k (stepL p w t) = some (u, f) := by
  cases m with
  | zero => rw [colW_zero hf] at h; cases h
  | succ k =>
    by_cases hb : 256 < (stepL p w t).length
    · rw [colW_big hf hb] at h; cases h
    · rw [colW_step hf (by omega)] at h
      exact ⟨k, rfl, by omega, h⟩
--== end
end Go.Proofs.Ytiikoappknejgaa
namespace Go.Proofs.Ytiikoappknejgaa
set_option linter.unusedVariables false
set_option linter.unusedSimpArgs false
set_option maxRecDepth 100000
open Go.RowKit

theorem codeOf_word {k : Int} {xs : List Int} (h : isWordB k xs = true) : codeOf k [xs] = 0 := by
  unfold isWordB at h
  rw [Bool.and_eq_true] at h
  rw [codeOf_in _ h.1]
  simp [h.2]
theorem rd_formN {w : World} {v : Value} {xs : List Int} (h : Rd w v xs) {n : Nat} (e : xs.length = n) : ∃ ao cap, v = .slice ao n cap ∧ n ≤ cap ∧ cap ≤ 9223372036854775807 := by subst e; exact h.form
--== laws.big
theorem l_big (v : Value) (n : Nat) (w : World) (h : RdU w v n) : Calls Try.prog 5 #[v] w fun e w' => e = .returned (.bool (decide (4096 < n))) ∧ w = w' := by
  obtain ⟨ao, cap, rfl, h1, h2, _⟩ := h
  by_cases hb : 4096 < n
  · rw [decide_eq_true hb]
    go_enter Try.func5, Try.ntmps5
    go_wp2
    go_ret
    exact ⟨ret_bool (decide_eq_true (by omega)), rfl⟩
  · rw [decide_eq_false hb]
    go_enter Try.func5, Try.ntmps5
    go_wp2
    go_ret
    exact ⟨ret_bool (decide_eq_false (by omega)), rfl⟩
--== laws.likeInts
set_option maxHeartbeats 400000 in
theorem l_likeInts (va vb : Value) (xs ys : List Int) (w : World) (ha : Rd w va xs) (hb : Rd w vb ys) :
    Calls Try.prog 9 #[va, vb] w (RetQuiet w (.bool (decide (xs = ys)))) := by
  obtain ⟨ao, cap, rfl, ha1, ha2, _, hA⟩ := ha
  obtain ⟨bo, cap', rfl, hb1, hb2, _, hB⟩ := hb
  by_cases hl : xs.length = ys.length
  · have HL := Lib.hid hl
    have hl1 : ((xs.length : Int) != ys.length) = false := by simp [hl]
    have hl2 : xs.length ≤ ys.length := by omega
    have hl3 : ys.length ≤ xs.length := by omega
    clear hl
    go_enter Try.func9, Try.ntmps9
    go_wp2
    go_loopw [5] (fun i wr => ∃ k : Nat, k ≤ xs.length ∧ i = .int .i64 k ∧ (∀ j, j < k → xs.getD j 0 = ys.getD j 0) ∧ ∃ n, wr = w.drewN n) (fun i _ => xs.length - (intOf i).toNat)
    case atStart => exact ⟨0, Nat.zero_le _, rfl, fun j h => by omega, 0, rfl⟩
    case round =>
      obtain ⟨k, hk, rfl, hpre, n, rfl⟩ := hrel
      have HP := Lib.hid hpre
      clear hpre
      by_cases hlt : k < xs.length
      · rcases hA with hA | ⟨b, off, rfl, hA⟩
        · omega
        rcases hB with hB | ⟨b', off', rfl, hB⟩
        · omega
        have hA' := hA k hlt
        have hB' := hB k (by omega)
        clear hA hB
        by_cases hab : xs.getD k 0 = ys.getD k 0
        · have HAB := Lib.hid hab
          rw [← hab] at hB'
          clear hab
          have HX : Hid (∀ j, j < k + 1 → xs.getD j 0 = ys.getD j 0) := fun j hj => by
            by_cases h : j < k
            · exact HP.out j h
            · obtain rfl : j = k := by omega
              exact HAB.out
          clear HP HAB
          generalize xs.getD k 0 = x at hA' hB'
          go_wp2
          go_quiet (fail)
          go_wp2
          go_roundw
          case rel => exact ⟨k + 1, by omega, by go_num, HX.out, by first | exact ⟨_, rfl⟩ | exact drewN_drewN _ _ _⟩
          case measure => simp [intOf]; omega
        · have HAB := Lib.hid hab
          have hab1 : (xs.getD k 0 != ys.getD k 0) = true := by simpa using hab
          clear hab HP
          have HX : Hid (decide (xs = ys) = false) := decide_eq_false fun e => HAB.out (by rw [e])
          clear HAB
          generalize xs.getD k 0 = x at hA' hab1
          generalize ys.getD k 0 = y at hB' hab1
          go_wp2
          go_quiet (fail)
          go_wp2
          go_ret
          exact ⟨ret_bool HX.out.symm, by first | exact ⟨_, rfl⟩ | exact drewN_drewN _ _ _⟩
      · go_wp2
        go_ret
        exact ⟨ret_bool (decide_eq_true (all_eq HL.out fun j hj => HP.out j (by omega))).symm, n, rfl⟩
  · have HL := Lib.hid hl
    have hl1 : ((xs.length : Int) != ys.length) = true := by simp; omega
    clear hl
    go_enter Try.func9, Try.ntmps9
    go_wp2
    go_ret
    exact ⟨ret_bool (decide_eq_false fun e => HL.out (by rw [e])).symm, 0, rfl⟩
theorem l_like (va vb : Value) (xs ys : List Int) (w : World) (ha : Rd w va xs) (hb : Rd w vb ys) : Calls Try.prog 9 #[va, vb] w (RetV w (.bool (decide (xs = ys)))) :=
  (l_likeInts va vb xs ys w ha hb).mono fun _ _ h => h.below
theorem l_like_same (va vb : Value) (xs : List Int) (w : World) (ha : Rd w va xs) (hb : Rd w vb xs) : Calls Try.prog 9 #[va, vb] w (RetV w (.bool true)) :=
  (l_like va vb xs xs w ha hb).mono fun _ _ h => by rwa [decide_eq_true rfl] at h
end Go.Proofs.Ytiikoappknejgaa
namespace Go.Proofs.Ytiikoappknejgaa
set_option linter.unusedVariables false
set_option linter.unusedSimpArgs false
set_option maxRecDepth 100000
open Go.ChangeShapes Go.WideShapes Go.ChangeAt Go.RowKit

section
variable {H : Type} {enc : TypeId × Value → H} {w : World} {fuel : Nat} {v : Value}
theorem rd_addr {a : Addr} {u : Value} (h : w.cell? (a.add 0) = some u) : ∃ b off, a = ⟨b, off, none⟩ := by
  obtain ⟨b, off, spot⟩ := a
  have hspot : spot = none := by simpa [Addr.add] using World.cell?_spot h
  subst hspot
  exact ⟨b, off, rfl⟩
theorem rd1_of {x : DataW H × List MemPlace} (h : DataW.trod enc Try.prog w 0 (fun _ => true) true fuel 24 [v] = some x) : ∃ xs, Rd w v xs := by
  rcases open_ints Try.underlying24 Try.underlying2 (by kernel_rfl) h with ⟨hcs, _⟩ | ⟨a, l, c, zs, hcs, _, hl, hm, hz, _, hcell, hwz⟩
  · obtain rfl : v = .slice none 0 0 := by simpa using hcs
    exact ⟨[], Rd.nil w⟩
  · obtain rfl : v = .slice (some a) l c := by simpa using hcs
    have hz' : zs.length = c := by simpa using hz
    have : IsRow .i64 w (some a) l c zs := .inr ⟨a, rfl, hl, hm, hz', hcell, hwz⟩
    exact ⟨_, this.rd⟩
theorem rd2_of {x : DataW H × List MemPlace} (h : DataW.trod enc Try.prog w 0 (fun _ => true) true fuel 25 [v] = some x) : ∃ xss, Rd2 w v xss := by
  rcases Go.Deep.open_slice1 Try.underlying25 (by kernel_rfl) h with ⟨hcs, _⟩ | ⟨a, len, cap, m, n, V, D, Pl, hcs, _, hl, hm, hmm, _, hx⟩
  · obtain rfl : v = .slice none 0 0 := by simpa using hcs
    exact ⟨[], Rd2.nil w⟩
  · obtain rfl : v = .slice (some a) len cap := by simpa using hcs
    simp only [if_true] at hmm
    subst hmm
    obtain ⟨X, hX⟩ := Go.Deep.choose_lt (α := List Int) (p := fun i xs => Rd w (V i) xs) (fun i hi => rd1_of (hx i hi).2)
    refine ⟨(List.range len).map X, (List.range len).map V, ⟨some a, m, by simp, by simpa using hl, by unfold maxLen at hm; omega, fun h => by (cases h), ?_⟩, by simp, fun i hi => ?_⟩
    · by_cases h0 : len = 0
      · exact .inl (by simpa using h0)
      · obtain ⟨b, off, rfl⟩ := rd_addr (hx 0 (by omega)).1
        refine .inr ⟨b, off, rfl, fun j hj => ?_⟩
        simp only [List.length_map, List.length_range] at hj
        have := (hx j (by omega)).1
        rw [Addr.add_lit] at this
        rw [this, List.getElem?_map, List.getElem?_range hj]; rfl
    · simp only [List.length_map, List.length_range] at hi
      simp only [List.getD_eq_getElem?_getD, List.getElem?_map, List.getElem?_range hi, Option.map_some, Option.getD_some]
      exact hX i (by omega)
theorem rd3_of {x : DataW H × List MemPlace} (h : DataW.trod enc Try.prog w 0 (fun _ => true) true fuel 26 [v] = some x) : ∃ xss, Rd3 w v xss := by
  rcases Go.Deep.open_slice1 Try.underlying26 (by kernel_rfl) h with ⟨hcs, _⟩ | ⟨a, len, cap, m, n, V, D, Pl, hcs, _, hl, hm, hmm, _, hx⟩
  · obtain rfl : v = .slice none 0 0 := by simpa using hcs
    exact ⟨[], Rd3.nil w⟩
  · obtain rfl : v = .slice (some a) len cap := by simpa using hcs
    simp only [if_true] at hmm
    subst hmm
    obtain ⟨X, hX⟩ := Go.Deep.choose_lt (α := List (List Int)) (p := fun i xs => Rd2 w (V i) xs) (fun i hi => rd2_of (hx i hi).2)
    refine ⟨(List.range len).map X, (List.range len).map V, ⟨some a, m, by simp, by simpa using hl, by unfold maxLen at hm; omega, fun h => by (cases h), ?_⟩, by simp, fun i hi => ?_⟩
    · by_cases h0 : len = 0
      · exact .inl (by simpa using h0)
      · obtain ⟨b, off, rfl⟩ := rd_addr (hx 0 (by omega)).1
        refine .inr ⟨b, off, rfl, fun j hj => ?_⟩
        simp only [List.length_map, List.length_range] at hj
        have := (hx j (by omega)).1
        rw [Addr.add_lit] at this
        rw [this, List.getElem?_map, List.getElem?_range hj]; rfl
    · simp only [List.length_map, List.length_range] at hi
      simp only [List.getD_eq_getElem?_getD, List.getElem?_map, List.getElem?_range hi, Option.map_some, Option.getD_some]
      exact hX i (by omega)
end
theorem OP.formsE {w : World} {S : Nat → Prop} {v1 v2 v3 : Value} {p : Pres} (h : OP w S v1 v2 v3 p) :
    ∃ a1 n1 c1 a2 n2 c2 a3 n3 c3, v1 = .slice a1 n1 c1 ∧ v2 = .slice a2 n2 c2 ∧ v3 = .slice a3 n3 c3 := by
  obtain ⟨r1, r2, r3⟩ := h.rd
  obtain ⟨a1, c1, e1, _⟩ := r1.form
  obtain ⟨a2, c2, e2, _⟩ := r2.form
  obtain ⟨a3, c3, e3, _⟩ := r3.form
  exact ⟨a1, _, c1, a2, _, c2, a3, _, c3, e1, e2, e3⟩
end Go.Proofs.Ytiikoappknejgaa
namespace Go.Proofs.Ytiikoappknejgaa
set_option linter.unusedVariables false
set_option linter.unusedSimpArgs false
set_option maxRecDepth 100000
open Go.ChangeShapes Go.WideShapes Go.ChangeAt Go.RowKit

section
variable {H : Type} {enc : TypeId × Value → H} {w : World} {fuel : Nat} {v : Value}
theorem rdU_of {x : DataW H × List MemPlace} (h : DataW.trod enc Try.prog w 0 (fun _ => true) true fuel 22 [v] = some x) : ∃ n, RdU w v n := by
  rcases open_ints Try.underlying22 Try.underlying5 (by kernel_rfl) h with ⟨hcs, _⟩ | ⟨a, l, c, zs, hcs, _, hl, hm, hz, _, hcell, hwz⟩
  · obtain rfl : v = .slice none 0 0 := by simpa using hcs
    exact ⟨0, none, 0, rfl, by simp, by simp, .inl rfl⟩
  · obtain rfl : v = .slice (some a) l c := by simpa using hcs
    have hz' : zs.length = c := by simpa using hz
    refine ⟨l, some a, c, rfl, hl, by unfold maxLen at hm; omega, ?_⟩
    by_cases h0 : l = 0
    · exact .inl h0
    · have hc := hcell 0 (by omega)
      obtain ⟨b, off, rfl⟩ := rd_addr hc
      refine .inr ⟨b, off, rfl, fun j hj => ?_⟩
      have hj' := hcell j (by omega)
      rw [Addr.add_lit] at hj'
      have hw := hwz _ (getD_mem (xs := zs) (k := j) (by omega))
      have h1 : IntKind.u8.min = 0 := rfl
      have h2 : IntKind.u8.max = 255 := rfl
      simp only [Lit.wf, Bool.and_eq_true, decide_eq_true_eq] at hw
      refine ⟨(zs.getD j 0).toNat, by omega, ?_⟩
      rw [hj']
      congr 2
      omega
end
end Go.Proofs.Ytiikoappknejgaa
namespace Go.Proofs.Ytiikoappknejgaa.fnSteps
set_option linter.unusedVariables false
set_option linter.unusedSimpArgs false
set_option maxRecDepth 100000
open Go.RowKit

attribute [local go_sem ↓] Go.wp_at_zero Go.wp_at_succ
set_option maxHeartbeats 8000000 in
theorem core (v : Value) (n : Nat) (w : World) (h : RdU w v n) : Calls Try.prog 4 #[v] w (RetV w (.bool true)) := by
  by_cases hb : 4096 < n
  · have hd : decide (4096 < n) = true := decide_eq_true hb
    go_enter Try.func4, Try.ntmps4
    go_wp2_with fail
    refine (l_big v n w h).mono ?_
    rintro e w' ⟨rfl, rfl⟩
    rw [hd]
    go_wp2_with fail
    go_ret
    exact ⟨rfl, Below.refl _ _⟩
  · have hd : decide (4096 < n) = false := decide_eq_false hb
    have hn : n ≤ 1000000 := by omega
    clear hb
    go_enter Try.func4, Try.ntmps4
    go_wp2_with fail
    refine (l_big v n w h).mono ?_
    rintro e w' ⟨rfl, rfl⟩
    rw [hd]
    clear hd
    go_wp2_with fail
    refine (s_DrawCollectWord v n w h hn).mono ?_
    rintro e w1 ⟨p, v1, v2, v3, u, xs, l, rfl, hP, hR, l0, l1, hB1⟩
    obtain ⟨p1, q1, rfl, _, _⟩ := hP.1.form
    obtain ⟨p2, q2, rfl, _, _⟩ := hP.2.1.form
    obtain ⟨p3, q3, rfl, _, _⟩ := hP.2.2.form
    obtain ⟨ua, uc, rfl, _, _⟩ := hR.form
    have g1 := below_alloc w1 (Obj.cells #[Value.slice p1 p.orders.length q1, Value.slice p2 p.powers.length q2, Value.slice p3 p.conj.length q3] 28)
    have x1 := Bx.new w1 (Value.slice p1 p.orders.length q1) (Value.slice p2 p.powers.length q2) (Value.slice p3 p.conj.length q3)
    have hP1 : RdP (w1.alloc (Obj.cells #[Value.slice p1 p.orders.length q1, Value.slice p2 p.powers.length q2, Value.slice p3 p.conj.length q3] 28)) _ _ _ p := ⟨hP.1.below g1, hP.2.1.below g1, hP.2.2.below g1⟩
    have HW1 := Lib.hid (below_size hB1 g1)
    have HR := Lib.hid (hR.below g1)
    have n0 := x1.c0
    have n1 := x1.c1
    have n2 := x1.c2
    have HP := Lib.hid hP1
    have HX := Lib.hid x1
    clear hP hB1 g1 hP1 h x1 hR
    obtain ⟨xn, hxn⟩ : ∃ xn, xs.length = xn := ⟨_, rfl⟩
    rw [hxn] at HR ⊢
    have HXN := Lib.hid hxn
    clear hxn
    go_wp2_with fail
    generalize w1.alloc (Obj.cells #[Value.slice p1 p.orders.length q1, Value.slice p2 p.powers.length q2, Value.slice p3 p.conj.length q3] 28) = w2 at *
    generalize w1.heap.size = b3 at *
    have HPB : Hid (∀ wx, Below w2.heap.size w2 wx → RdP wx (Value.slice p1 p.orders.length q1) (Value.slice p2 p.powers.length q2) (Value.slice p3 p.conj.length q3) p ∧ Bx wx b3 (Value.slice p1 p.orders.length q1) (Value.slice p2 p.powers.length q2) (Value.slice p3 p.conj.length q3) ∧ Rd wx (.slice ua xn uc) xs) := fun wx hb => ⟨⟨HP.out.1.below hb, HP.out.2.1.below hb, HP.out.2.2.below hb⟩, HX.out.below hb HX.out.lt, HR.out.below hb⟩
    refine (i_CollectWord _ _ _ p _ xs l w2 HP.out HR.out (by omega)).mono ?_
    rintro e w3 ⟨va, rfl, hA, hB3⟩
    have HA := Lib.hid hA.rd
    obtain ⟨aa, ac, rfl, _, _⟩ := HA.out.form
    obtain ⟨y1, y2, y3⟩ := HPB.out w3 hB3
    have HY1 := Lib.hid y1
    have HY3 := Lib.hid y3
    have HB3 := Lib.hid hB3
    clear n0 n1 n2
    have n0 := y2.c0
    have n1 := y2.c1
    have n2 := y2.c2
    clear hA hB3 y1 y2 y3
    obtain ⟨K, hK⟩ : ∃ K, cwK p xs l = K := ⟨_, rfl⟩
    obtain ⟨N, hN⟩ : ∃ N, cwN p xs l = N := ⟨_, rfl⟩
    obtain ⟨X, hX⟩ : ∃ X, cwL p xs l = X := ⟨_, rfl⟩
    rw [hX] at HA
    rw [hK, hN, hX]
    go_wp2_with fail
    refine (s_CollectWord _ _ _ p _ xs l w3 HY1.out HY3.out (by omega)).mono ?_
    rintro e w4 ⟨vb, rfl, hB, hB4⟩
    rw [hX] at hB
    rw [hK, hN]
    have HK := Lib.hid hK
    have HN := Lib.hid hN
    have HXX := Lib.hid hX
    have HBR := Lib.hid hB.rd
    obtain ⟨ba, bc, rfl, _, _⟩ := HBR.out.form
    have HA4 := Lib.hid (HA.out.below hB4)
    have HB4 := Lib.hid (below_size HB3.out hB4)
    clear hB hB4 n0 n1 n2 hK hN hX HY1 HY3 HA
    go_wp2_with fail
    refine (l_like_same _ _ X w4 HA4.out HBR.out).mono ?_
    rintro e w5 ⟨rfl, hB5⟩
    have HB5 := Lib.hid (below_size HB4.out hB5)
    have HA5 := Lib.hid (HA4.out.below hB5)
    have hwb := below_size HW1.out HB5.out
    clear hB5 HA4 HBR
    by_cases hk0 : K = 0
    case neg =>
      go_wp2_with fail
      go_ret
      exact ⟨rfl, hwb⟩
    subst hk0
    have hpos : posV p xs = true := by
      apply Classical.byContradiction
      intro hc
      have := (cw_no (l := l) (show posV p xs = false by simpa using hc)).1
      rw [HK.out] at this; cases this
    have hin : inB l 0 2000 = true := by
      apply Classical.byContradiction
      intro hc
      have := (cw_lim hpos (show inB l 0 2000 = false by simpa using hc)).1
      rw [HK.out] at this; cases this
    obtain ⟨m, rfl⟩ : ∃ m : Nat, l = (m : Int) := ⟨l.toNat, by have := inB_true.1 hin; omega⟩
    obtain ⟨e1, e2, e3⟩ := cw_go hpos hin
    obtain ⟨u', f, hcol⟩ : ∃ u' f, colW p m xs = some (u', f) := by
      cases hc : colW p m xs with
      | none => rw [HK.out, (coll_none hc).1] at e1; cases e1
      | some z => exact ⟨z.1, z.2, rfl⟩
    obtain ⟨d1, d2, d3⟩ := coll_some hcol
    have hfm := colW_le hcol
    obtain ⟨NN, hNN⟩ : ∃ NN : Nat, m - f = NN := ⟨_, rfl⟩
    have hN2 : N = (NN : Int) := by rw [← HN.out, e2, d2]; omega
    subst hN2
    have HX2 : Hid (X = vecL p.n u') := by show _ = _; rw [← HXX.out, e3, d3]
    obtain ⟨hV, hpb, _⟩ := posV_true hpos
    have HV := Lib.hid hV
    have HCOL := Lib.hid hcol
    have HPW := Lib.hid (posB_true hpb)
    have hm2 := (inB_true.1 hin).2
    have HFM := Lib.hid (⟨hfm, hNN⟩ : f ≤ m ∧ m - f = NN)
    have hN2000 : NN ≤ 2000 := by omega
    clear e1 e2 e3 d1 d2 d3 hcol hpos hin hpb hV hfm hNN
    go_wp2_with fail
    go_loopw [12, 13] (fun u i wr => ∃ (k : Nat) (now : List Int), i = .int .i64 k ∧ k ≤ 200 ∧ Rd wr u now ∧ Below w5.heap.size w5 wr ∧ PosW p.n now ∧ ((k ≤ NN ∧ colW p (m - k) now = some (u', f)) ∨ (k = NN + 1 ∧ now = u' ∧ firstR p.orders now = -1))) (fun _ i _ => 200 - (intOf i).toNat)
    case atStart => exact ⟨0, xs, rfl, Nat.zero_le _, (HPB.out w5 HB5.out).2.2, Below.refl _ _, HPW.out, .inl ⟨Nat.zero_le _, by simpa using HCOL.out⟩⟩
    case round =>
      obtain ⟨k, now, rfl, hk200, hR, hB, hpw, hcase⟩ := hrel
      obtain ⟨na, nc, rfl, _, _⟩ := hR.form
      obtain ⟨nw, hnw⟩ : ∃ nw, now.length = nw := ⟨_, rfl⟩
      rw [hnw] at hR ⊢
      have HNW := Lib.hid hnw
      obtain ⟨y1, y2, y3⟩ := HPB.out wr (below_size HB5.out hB)
      have n0 := y2.c0
      have n1 := y2.c1
      have n2 := y2.c2
      have hwr := below_size HW1.out (below_size HB5.out hB)
      by_cases hgo : k ≤ NN ∧ k < 200
      · obtain ⟨hg1, hg2⟩ := hgo
        have hcw : colW p (m - k) now = some (u', f) := by
          rcases hcase with hc | hc
          · exact hc.2
          · omega
        clear hcase hnw
        have hk1 : (k : Int) ≤ (NN : Int) := by omega
        have hk2 : (k : Int) < 200 := by omega
        go_wp2_with fail
        refine (i_CollectStep _ _ _ p _ now wr y1 hR).mono ?_
        rintro e w6 ⟨u6, rfl, hI6, hB6⟩
        have R6 := hR.below hB6
        have hB06 := below_size hB hB6
        have hwr6 := below_size hwr hB6
        obtain ⟨y1', y2', _⟩ := HPB.out w6 (below_size HB5.out hB06)
        have HI6 := Lib.hid hI6.rd
        obtain ⟨a6, c6, rfl, _, _⟩ := HI6.out.form
        clear hI6 hB6 y1 y2 y3 n0 n1 n2 hR
        by_cases hbig : 64 < nw
        · have hpv : posV p now = false := by
            unfold posV posM
            rw [decide_eq_false (by rw [HNW.out]; omega), Bool.and_false, Bool.and_false]
          obtain ⟨c1, c2, c3⟩ := cs_no hpv
          rw [c1, c2]
          have hb1 : (64 : Int) < (nw : Int) := by omega
          go_wp2_with fail
          go_ret
          exact ⟨rfl, hwr6⟩
        · have hb1 : ¬ (64 : Int) < (nw : Int) := by omega
          have hpv : posV p now = true := by
            unfold posV
            rw [validB_true.2 HV.out, posM_in (by rw [HNW.out]; omega), Bool.true_and]
            exact List.all_eq_true.2 fun x hx => by
              have := hpw.m x hx
              exact inB_true.2 ⟨by omega, by omega⟩
          have n0 := y2'.c0
          have n1 := y2'.c1
          have n2 := y2'.c2
          have HNB := Lib.hid (i_IsNormalWord _ _ _ p _ now w6 y1' R6)
          rcases firstR_bd p.orders now with hf | ⟨t, hf, ht, hr⟩
          · obtain ⟨c1, c2, c3⟩ := cs_nf hpv hf
            obtain ⟨hu, hfm⟩ := colW_end hcw hf
            have hFM := HFM.out
            obtain rfl : k = NN := by omega
            have hnb : norB p now = true := by unfold norB; rw [hpv, hf]; rfl
            rw [hnb] at HNB
            rw [c1, c2, c3]
            rw [c3] at HI6
            have HF := Lib.hid hf
            have HU := Lib.hid hu
            clear hf hu hcw hnb hpv c1 c2 c3 hFM hfm
            go_wp2_with fail
            refine HNB.out.mono ?_
            rintro e w7 ⟨rfl, hB7⟩
            have hI7 := HI6.out.below hB7
            have hB07 := below_size hB06 hB7
            clear hB7
            go_wp2_with fail
            go_roundw
            case rel => exact ⟨k + 1, now, by go_num, by omega, hI7, hB07, hpw, .inr ⟨rfl, HU.out.symm, HF.out⟩⟩
            case measure => simp [intOf]; omega
          · obtain ⟨c1, c2, c3⟩ := cs_at hpv hf
            obtain ⟨k', hk', hl', hcw'⟩ := colW_next hcw hf
            have hle := colW_le hcw'
            have hFM := HFM.out
            have hkn : k + 1 ≤ NN := by omega
            have hkn2 : ¬ (k : Int) = (NN : Int) := by omega
            have hnb : norB p now = false := by unfold norB; rw [hpv, hf]; simp
            rw [hnb] at HNB
            rw [c1, c2, c3]
            rw [c3] at HI6
            have HCW := Lib.hid hcw'
            have HK' : Hid (m - (k + 1) = k') := by show _ = _; omega
            have hpw' := stepL_pos ht HV.out hpw
            have ht0 : ¬ (t : Int) < 0 := by omega
            have hd1 : decide ((t : Int) < 0) = false := decide_eq_false ht0
            have hd2 : ((k : Int) == (NN : Int)) = false := by simpa using hkn2
            clear hf hcw hcw' hnb hpv c1 c2 c3 hFM hle hr hl' hk'
            go_wp2_with fail
            refine HNB.out.mono ?_
            rintro e w7 ⟨rfl, hB7⟩
            have hI7 := HI6.out.below hB7
            have hB07 := below_size hB06 hB7
            clear hB7
            go_wp2_with fail
            go_roundw
            case rel => exact ⟨k + 1, stepL p now t, by go_num, by omega, hI7, hB07, hpw', .inl ⟨hkn, by rw [HK'.out]; exact HCW.out⟩⟩
            case measure => simp [intOf]; omega
      · by_cases h200 : 200 ≤ NN
        · have h201 : (200 : Int) ≤ (NN : Int) := by omega
          by_cases hkN : k ≤ NN
          · obtain rfl : k = 200 := by omega
            go_wp2_with fail
            go_ret
            exact ⟨rfl, hwr⟩
          · have hk1 : ¬ (k : Int) ≤ (NN : Int) := by omega
            go_wp2_with fail
            go_ret
            exact ⟨rfl, hwr⟩
        · have h201 : ¬ (200 : Int) ≤ (NN : Int) := by omega
          obtain ⟨hk, hu, hf⟩ : k = NN + 1 ∧ now = u' ∧ firstR p.orders now = -1 := by
            rcases hcase with hc | hc
            · omega
            · exact hc
          have hk1 : ¬ (k : Int) ≤ (NN : Int) := by omega
          have hX := HX2.out
          rw [← hu] at hX
          have hx1 : exvB p X = true := by rw [hX]; exact exv_nf HV.out hpw hf
          have hx2 : nwL X = now := by rw [hX]; exact nw_vec hpw hf
          have HNO := i_NormalWord _ _ _ p _ X wr y1 (HA5.out.below hB)
          rw [hx1, hx2] at HNO
          have HNO := Lib.hid HNO
          clear hX hx1 hx2 hu hf hcase hgo hk hnw
          go_wp2_with fail
          refine HNO.out.mono ?_
          rintro e w7 ⟨u7, rfl, hI7, hB7⟩
          have R7 := hR.below hB7
          have hI7' : Rd w7 u7 now := hI7.rd
          obtain ⟨a7, c7, rfl, _, _⟩ := hI7'.form
          have hw7 := below_size hwr hB7
          clear hI7 hB7
          go_wp2_with fail
          refine (l_like_same _ _ now w7 hI7' R7).mono ?_
          rintro e w8 ⟨rfl, hB8⟩
          have hw8 := below_size hw7 hB8
          go_wp2_with fail
          go_ret
          exact ⟨rfl, hw8⟩
end Go.Proofs.Ytiikoappknejgaa.fnSteps
