/-
  Collections: collect, l07Vector, l09Collect.
-/
import Derived.Test.YthnpndheaailjaaCst
namespace Go.Proofs.Ythnpndheaailjaa
set_option linter.unusedVariables false
set_option linter.unusedSimpArgs false
set_option maxRecDepth 100000
open Go.RowKit

--== plain
theorem vec_at {n : Nat} {xs : List Int} (hw : PosW n xs) {j : Nat} (hj : j < xs.length) : ∃ q : Nat, xs.getD j 0 = (q : Int) + 1 ∧ q < n ∧ vecL n (xs.take (j + 1)) = (vecL n (xs.take j)).set q ((vecL n (xs.take j)).getD q 0 + 1) := by
  obtain ⟨q, h1, h2⟩ := hw j hj
  refine ⟨q, h1, h2, ?_⟩
  rw [vecL_succ n xs j hj]
  unfold vecS
  rw [h1, show ((q : Int) + 1 - 1).toNat = q by omega]
theorem vec_bd {n : Nat} {xs : List Int} (j q : Nat) : 0 ≤ (vecL n (xs.take j)).getD q 0 ∧ (vecL n (xs.take j)).getD q 0 ≤ xs.length := by
  have := vecL_bd n (xs.take j) q
  rw [List.length_take] at this
  omega
/-- where a collection stands -/
def CollAt (p : Pres) (L : Nat) (w0 : List Int) (k : Nat) (xs : List Int) : Prop := k ≤ L ∧ xs.length ≤ 256 ∧ PosW p.n xs ∧ colW p L w0 = colW p (L - k) xs
theorem CollAt.done {p : Pres} {L : Nat} {w0 : List Int} {k : Nat} {xs : List Int} (h : CollAt p L w0 k xs) (hf : firstR p.orders xs = -1) : collC p L w0 = 0 ∧ collN p L w0 = k ∧ collL p L w0 = vecL p.n xs := by
  have h1 := h.2.2.2
  rw [colW_nf hf] at h1
  obtain ⟨e1, e2, e3⟩ := coll_some h1
  have := h.1
  exact ⟨e1, by rw [e2]; omega, e3⟩
theorem CollAt.stop {p : Pres} {L : Nat} {w0 : List Int} {xs : List Int} {t : Nat} (h : CollAt p L w0 L xs) (hf : firstR p.orders xs = (t : Int)) : collC p L w0 = 3 ∧ collN p L w0 = 0 ∧ collL p L w0 = [] := by
  have h1 := h.2.2.2
  rw [Nat.sub_self, colW_zero hf] at h1
  exact coll_none h1
theorem CollAt.big {p : Pres} {L : Nat} {w0 : List Int} {k : Nat} {xs : List Int} {t : Nat} (h : CollAt p L w0 k xs) (hf : firstR p.orders xs = (t : Int)) (hb : 256 < (stepL p xs t).length) : collC p L w0 = 3 ∧ collN p L w0 = 0 ∧ collL p L w0 = [] := by
  have h1 := h.2.2.2
  rw [colW_big hf hb] at h1
  exact coll_none h1
theorem CollAt.next {p : Pres} {L : Nat} {w0 : List Int} {k : Nat} {xs : List Int} {t : Nat} (hV : ValidP p) (h : CollAt p L w0 k xs) (hk : k < L) (ht : t < xs.length) (hf : firstR p.orders xs = (t : Int)) (hb : (stepL p xs t).length ≤ 256) : CollAt p L w0 (k + 1) (stepL p xs t) := by
  refine ⟨hk, hb, stepL_pos ht hV h.2.2.1, ?_⟩
  have h1 := h.2.2.2
  rw [show L - k = (L - (k + 1)) + 1 by omega, colW_step hf hb] at h1
  exact h1
--== impl.collect
set_option maxHeartbeats 8000000 in
theorem i_collect (vp v : Value) (p : Pres) (w0 : List Int) (L : Nat) (w : World) (hV : ValidP p) (hp : PtrP w vp p) (hv : Rd w v w0) (hw : PosW p.n w0) (hl : w0.length ≤ 256) (hL : L ≤ 2000) :
    Calls Try.prog 127 #[vp, v, .int .i64 L] w (RetInts3 w (collL p L w0) (collN p L w0) (collC p L w0)) := by
  obtain ⟨i0, hi0, hz0, hz1, hz2⟩ := info_parts Try.info2
  have hn6 := hV.n6
  have HPT := Lib.hid hp
  have HVd := Lib.hid hV
  obtain ⟨pb, v1, v2, v3, rfl, c1, c2, c3, R1, R2, R3⟩ := hp
  obtain ⟨p1, q1, rfl, _, _⟩ := R1.formN (n := p.n) rfl
  have C1 := Lib.hid c1
  have hC0 : Hid (CollAt p L w0 0 w0) := ⟨Nat.zero_le _, hl, hw, rfl⟩
  have HRV := Lib.hid hv
  clear hV c1 c2 c3 R1 R2 R3 hw hv
  go_enter Try.func127, Try.ntmps127
  go_wp2_with fail
  go_loopw [1, 9, 10] (fun u n _ wr => ∃ (k : Nat) (xs : List Int), n = .int .i64 k ∧ k ≤ L ∧ Rd wr u xs ∧ Hid (CollAt p L w0 k xs) ∧ Below w.heap.size w wr) (fun _ n _ _ => L - (intOf n).toNat)
  case atStart => exact ⟨0, w0, rfl, Nat.zero_le _, HRV.out, hC0, Below.refl _ _⟩
  case round =>
    clear hC0 HRV hl
    obtain ⟨k, xs, rfl, hk, hv, hC, hB⟩ := hrel
    have hlx := hC.out.2.1
    have HWp := Lib.hid hC.out.2.2.1
    obtain ⟨ao, cap, rfl, _, _⟩ := hv.form
    have HV := Lib.hid hv
    have PT := HPT.out.below hB
    clear hv
    rcases firstR_bd p.orders xs with hf | ⟨t, hf, ht, hred⟩
    · have HX := Lib.hid (hC.out.done hf)
      go_wp2_with fail
      refine (i_reducibleAt _ _ p xs _ PT HV.out HWp.out (ordB_true HVd.out.ord).1 (by omega)).mono ?_
      rintro e w2 ⟨rfl, nd, hnd⟩
      have hb2 : Below wr.heap.size wr w2 := by rw [hnd]; exact below_drewN (Below.refl _ _) _
      rw [hf]
      have hB2 := below_size hB hb2
      have e1 := below_cells hB2 _ _ C1.out
      have HV2 := Lib.hid (HV.out.below hb2)
      clear hnd hf hb2 PT
      go_wp2_with (at_make; refine wp_mkInts _ rfl _ _ rfl i0 Try.underlying22 hi0 hz0 hz1 hz2 _ _ _ _ p.n rfl rfl rfl rfl (by omega) ?_)
      intro w3 hI hB3 hlt3
      have hB4 := below_size hB2 hB3
      clear e1 HV
      go_wp2_with fail
      go_loopw [13, 29] (fun _ i wr2 => ∃ j : Nat, j ≤ xs.length ∧ i = .int .i64 j ∧ Ints wr2 w2.heap.size (.slice (some ⟨w2.heap.size, 0, none⟩) p.n p.n) (vecL p.n (xs.take j)) ∧ Below w2.heap.size w2 wr2) (fun _ i _ => xs.length - (intOf i).toNat)
      case atStart => exact ⟨0, Nat.zero_le _, rfl, hI, hB3⟩
      case round =>
        clear hI hB3 hlt3 hB4
        obtain ⟨j, hj, rfl, hI, hB5⟩ := hrel
        have hS5 := hB5.size
        have HV5 := Lib.hid (HV2.out.below hB5)
        by_cases hlt : j < xs.length
        · obtain ⟨q, hq1, hq2, hq3⟩ := vec_at HWp.out hlt
          obtain ⟨b, off, rfl, hcell⟩ := HV5.out.at hlt
          rw [hq1] at hcell
          have hlen : p.n = (vecL p.n (xs.take j)).length := (vecL_len _ _).symm
          obtain ⟨hcell2, hfz⟩ := hI.cell hlen q hq2
          have hbd := vec_bd (n := p.n) (xs := xs) j q
          obtain ⟨h1, h2⟩ := hI.set hlen q ((vecL p.n (xs.take j)).getD q 0 + 1)
          have hB6 := hB5.trans (h2.below (Nat.le_refl _) hS5)
          have HQ := Lib.hid hq3
          have HQ1 := Lib.hid hq1
          clear hq3 hq1 hlen h2 hI
          generalize vecL p.n (xs.take j) = R at *
          generalize R.getD q 0 = y at *
          go_wp2_with fail
          go_roundw
          case rel => exact ⟨j + 1, by omega, by go_num, by rw [HQ.out]; exact h1, hB6⟩
          case measure => simp [intOf]; omega
        · obtain rfl : j = xs.length := by omega
          rw [List.take_length] at hI
          have hI9 : Ints wr w.heap.size (.slice (some ⟨w2.heap.size, 0, none⟩) p.n p.n) (collL p L w0) := by rw [HX.out.2.2]; exact hI.mono hB2.size
          have hB9 := hB2.trans (hB5.mono hB2.size)
          clear hI
          go_wp2_with fail
          go_ret3
          exact ⟨_, ret_vii rfl HX.out.2.1.symm HX.out.1.symm, hI9, hB9⟩
    · have D0 : decide ((t : Int) < 0) = false := by simp
      by_cases hkl : k = L
      · obtain rfl : k = L := hkl
        have HX := Lib.hid (hC.out.stop hf)
        go_wp2_with fail
        refine (i_reducibleAt _ _ p xs _ PT HV.out HWp.out (ordB_true HVd.out.ord).1 (by omega)).mono ?_
        rintro e w2 ⟨rfl, nd, hnd⟩
        have hb2 : Below wr.heap.size wr w2 := by rw [hnd]; exact below_drewN (Below.refl _ _) _
        rw [hf]
        have hB2 := below_size hB hb2
        clear hnd hf hb2 PT
        go_wp2_with fail
        go_ret3
        exact ⟨_, ret_vii rfl HX.out.2.1.symm HX.out.1.symm, by rw [HX.out.2.2]; exact Ints.nil _ _, hB2⟩
      · have hkl2 : k < L := by omega
        have D1 : ((k : Int) == (L : Int)) = false := by simp; omega
        have hlen := stepL_len ht HVd.out HWp.out
        by_cases hbig : (stepL p xs t).length ≤ 256
        · have HN := Lib.hid (hC.out.next HVd.out hkl2 ht hf hbig)
          have HRd := Lib.hid hred
          go_wp2_with fail
          refine (i_reducibleAt _ _ p xs _ PT HV.out HWp.out (ordB_true HVd.out.ord).1 (by omega)).mono ?_
          rintro e w2 ⟨rfl, nd, hnd⟩
          have hb2 : Below wr.heap.size wr w2 := by rw [hnd]; exact below_drewN (Below.refl _ _) _
          rw [hf]
          have hB2 := below_size hB hb2
          clear hnd hf hred
          go_wp2_with fail
          refine (i_stepAt _ _ p xs t _ HVd.out (PT.below hb2) (HV.out.below hb2) ht HWp.out HRd.out (by omega)).mono ?_
          rintro e w3 ⟨u3, rfl, hI3, hb3⟩
          have hB3 := below_size hB2 hb3
          have hr3 := hI3.rd
          obtain ⟨a9, c9, rfl, _, _⟩ := hr3.form
          clear hI3 hb3 hB2 hb2 PT hB
          generalize stepL p xs t = ys at *
          go_wp2_with fail
          go_roundw
          case rel => exact ⟨k + 1, ys, by go_num, by omega, hr3, HN, hB3⟩
          case measure => simp [intOf]; omega
        · have HX := Lib.hid (hC.out.big hf (by omega))
          have HRd := Lib.hid hred
          go_wp2_with fail
          refine (i_reducibleAt _ _ p xs _ PT HV.out HWp.out (ordB_true HVd.out.ord).1 (by omega)).mono ?_
          rintro e w2 ⟨rfl, nd, hnd⟩
          have hb2 : Below wr.heap.size wr w2 := by rw [hnd]; exact below_drewN (Below.refl _ _) _
          rw [hf]
          have hB2 := below_size hB hb2
          clear hnd hf hred
          go_wp2_with fail
          refine (i_stepAt _ _ p xs t _ HVd.out (PT.below hb2) (HV.out.below hb2) ht HWp.out HRd.out (by omega)).mono ?_
          rintro e w3 ⟨u3, rfl, hI3, hb3⟩
          have hB3 := below_size hB2 hb3
          have hr3 := hI3.rd
          obtain ⟨a9, c9, rfl, _, _⟩ := hr3.form
          clear hI3 hb3 hB2 hb2 PT hB
          generalize stepL p xs t = ys at *
          have hbig2 : 256 < ys.length := by omega
          go_wp2_with fail
          go_ret3
          exact ⟨_, ret_vii rfl HX.out.2.1.symm HX.out.1.symm, by rw [HX.out.2.2]; exact Ints.nil _ _, hB3⟩
--== spec.l07Vector
def RetIBc (w : World) (xs : List Int) (b : Bool) (e : Ending) (w' : World) : Prop := ∃ v, e = .returned (.tuple #[v, .bool b]) ∧ Ints w' w.heap.size v xs ∧ Below w.heap.size w w'
set_option maxHeartbeats 4000000 in
theorem s_l07Vector (n : Nat) (v : Value) (xs : List Int) (w : World) (hv : Rd w v xs) (hw : PosW n xs) (hn : n ≤ 1000) (hx : xs.length ≤ 100000) :
    Calls Try.prog 164 #[.int .i64 n, v] w (RetIBc w (vecL n xs) true) := by
  obtain ⟨i0, hi0, hz0, hz1, hz2⟩ := info_parts Try.info2
  obtain ⟨ao, cap, rfl, _, _⟩ := hv.form
  have HV2 := Lib.hid hv
  have HWp := Lib.hid hw
  clear hv hw
  go_enter Try.func164, Try.ntmps164
  go_wp2_with (at_make; refine wp_mkInts _ rfl _ _ rfl i0 Try.underlying22 hi0 hz0 hz1 hz2 _ _ _ _ n rfl rfl rfl rfl (by omega) ?_)
  intro w3 hI hB3 hlt3
  go_wp2_with fail
  go_loopw [7] (fun i wr2 => ∃ j : Nat, j ≤ xs.length ∧ i = .int .i64 j ∧ Ints wr2 w.heap.size (.slice (some ⟨w.heap.size, 0, none⟩) n n) (vecL n (xs.take j)) ∧ Below w.heap.size w wr2) (fun i _ => xs.length - (intOf i).toNat)
  case atStart => exact ⟨0, Nat.zero_le _, rfl, hI, hB3⟩
  case round =>
    clear hI hB3 hlt3
    obtain ⟨j, hj, rfl, hI, hB5⟩ := hrel
    have hS5 := hB5.size
    have HV5 := Lib.hid (HV2.out.below hB5)
    by_cases hlt : j < xs.length
    · obtain ⟨q, hq1, hq2, hq3⟩ := vec_at HWp.out hlt
      obtain ⟨b, off, rfl, hcell⟩ := HV5.out.at hlt
      rw [hq1] at hcell
      have hlen : n = (vecL n (xs.take j)).length := (vecL_len _ _).symm
      obtain ⟨hcell2, hfz⟩ := hI.cell hlen q hq2
      have hbd := vec_bd (n := n) (xs := xs) j q
      obtain ⟨h1, h2⟩ := hI.set hlen q ((vecL n (xs.take j)).getD q 0 + 1)
      have hB6 := hB5.trans (h2.below (Nat.le_refl _) hS5)
      have HQ := Lib.hid hq3
      have HQ1 := Lib.hid hq1
      clear hq3 hq1 hlen h2 hI
      generalize vecL n (xs.take j) = R at *
      generalize R.getD q 0 = y at *
      have W1 : IntKind.i64.wrap ((q : Int) + 1 - 1) = (q : Int) := by rw [IntWalk.i64_in _ (by omega)]; omega
      have W3 : IntKind.i64.wrap (q : Int) = (q : Int) := IntWalk.i64_in _ (by omega)
      have W2 : IntKind.i64.wrap (y + 1) = y + 1 := IntWalk.i64_in _ (by omega)
      have L1 : (q : Int) < (n : Int) := by omega
      have L2 : (0 : Int) ≤ (q : Int) := by omega
      have L3 : (j : Int) < (xs.length : Int) := by omega
      go_wp2_with fail
      apply via
      case h =>
        go_region
        all_goals exact ⟨rfl, rfl⟩
      clear W1 W2 W3
      go_wp2_with fail
      go_roundw
      case rel => exact ⟨j + 1, by omega, by go_num, by rw [HQ.out]; first | exact h1 | exact h1.drew, by first | exact hB6 | exact hB6.drew⟩
      case measure => simp [intOf]; omega
    · obtain rfl : j = xs.length := by omega
      rw [List.take_length] at hI
      go_wp2_with fail
      go_ret2
      exact ⟨_, rfl, hI, hB5⟩
--== spec.l09Collect
/-- where the reference's collection stands: it goes on, or it has failed -/
def CollS (p : Pres) (L : Nat) (w0 : List Int) (k : Nat) (xs : List Int) : Prop := CollAt p L w0 k xs ∨ ((256 < xs.length ∨ L < k) ∧ xs.length ≤ 400 ∧ collC p L w0 = 3 ∧ collN p L w0 = 0 ∧ collL p L w0 = [])
def okc (c : Int) : Bool := decide (c = 0)
def RetCol (w : World) (xs : List Int) (a : Int) (b : Bool) (e : Ending) (w' : World) : Prop := ∃ v, e = .returned (.tuple #[v, .int .i64 a, .bool b]) ∧ Ints w' w.heap.size v xs ∧ Below w.heap.size w w'
theorem ret_vib {u v : Value} {a c : Int} {b d : Bool} (h : u = v) (h' : a = c) (h'' : b = d) : Ending.returned (.tuple #[u, .int .i64 a, .bool b]) = .returned (.tuple #[v, .int .i64 c, .bool d]) := by rw [h, h', h'']
set_option maxHeartbeats 8000000 in
theorem s_l09Collect (v1 v2 v3 v : Value) (p : Pres) (w0 : List Int) (L : Nat) (w : World) (hV : ValidP p) (hp : RdP w v1 v2 v3 p) (hv : Rd w v w0) (hw : PosW p.n w0) (hl : w0.length ≤ 256) (hL : L ≤ 2000) :
    Calls Try.prog 125 #[.agg #[v1, v2, v3], v, .int .i64 L] w (RetCol w (collL p L w0) (collN p L w0) (okc (collC p L w0))) := by
  have hn6 := hV.n6
  have HP := Lib.hid hp
  have HVd := Lib.hid hV
  obtain ⟨p1, q1, rfl, _, _⟩ := hp.1.formN (n := p.n) rfl
  obtain ⟨p2, q2, rfl, _, _⟩ := hp.2.1.formN hV.pl
  obtain ⟨p3, q3, rfl, _, _⟩ := hp.2.2.formN hV.cl
  have g0 := below_alloc w (Obj.cells #[Value.slice p1 p.n q1, Value.slice p2 p.n q2, Value.slice p3 p.n q3] 32)
  have x0 := Bx.new w (Value.slice p1 p.n q1) (Value.slice p2 p.n q2) (Value.slice p3 p.n q3)
  have hC0 : Hid (CollS p L w0 0 w0) := .inl ⟨Nat.zero_le _, hl, hw, rfl⟩
  have HRV := Lib.hid hv
  clear hV hp hw hv
  go_enter Try.func125, Try.ntmps125
  go_wp2_with fail
  refine (s_l01Own _ w0 _ (HRV.out.below g0) (by omega)).mono ?_
  rintro e w1 ⟨u1, rfl, hI1, hB1⟩
  have g1 := below_size g0 hB1
  have x1 := x0.below hB1 x0.lt
  have hr1 := hI1.rd
  obtain ⟨a6, c6, rfl, _, _⟩ := hr1.form
  clear hI1 hB1 g0 x0
  go_wp2_with fail
  go_loopw [9, 10, 11] (fun u n _ wr => ∃ (k : Nat) (xs : List Int), n = .int .i64 k ∧ k ≤ L + 1 ∧ Rd wr u xs ∧ Hid (CollS p L w0 k xs) ∧ Below w.heap.size w wr ∧ Bx wr w.heap.size (Value.slice p1 p.n q1) (Value.slice p2 p.n q2) (Value.slice p3 p.n q3)) (fun _ n _ _ => L + 1 - (intOf n).toNat)
  case atStart => exact ⟨0, w0, rfl, Nat.zero_le _, hr1, hC0, g1, x1⟩
  case round =>
    clear hC0 HRV hl hr1 g1 x1
    obtain ⟨k, xs, rfl, hk, hv, hC, hB, hX⟩ := hrel
    obtain ⟨ao, cap, rfl, _, _⟩ := hv.form
    have HV := Lib.hid hv
    have m0 := hX.c0
    have m1 := hX.c1
    have m2 := hX.c2
    clear hv
    rcases hC.out with hA | ⟨hb, hlx4, hF⟩
    case inr =>
      have HX := Lib.hid hF
      clear hF
      by_cases hkl : k ≤ L
      · have hb2 : 256 < xs.length := by omega
        go_wp2_with fail
        go_ret3
        exact ⟨_, ret_vib rfl HX.out.2.1.symm (by rw [HX.out.1]; rfl), by rw [HX.out.2.2]; exact Ints.nil _ _, hB⟩
      · go_wp2_with fail
        go_ret3
        exact ⟨_, ret_vib rfl HX.out.2.1.symm (by rw [HX.out.1]; rfl), by rw [HX.out.2.2]; exact Ints.nil _ _, hB⟩
    have hkl := hA.1
    have hlx := hA.2.1
    have HWp := Lib.hid hA.2.2.1
    have HA := Lib.hid hA
    clear hA
    rcases firstR_bd p.orders xs with hf | ⟨t, hf, ht, hred⟩
    · have HX := Lib.hid (HA.out.done hf)
      go_wp2_with fail
      refine (s_l09At _ _ _ _ p xs _ (HP.out.below hB) HV.out HWp.out (ordB_true HVd.out.ord).1 (by omega)).mono ?_
      rintro e w2 ⟨rfl, hb2⟩
      rw [hf]
      have hB2 := below_size hB hb2
      have hX2 := hX.below hb2 hX.lt
      have HV2 := Lib.hid (HV.out.below hb2)
      have n0 := hX2.c0
      clear hf hb2 m0 m1 m2 hX hB
      go_wp2_with fail
      refine (s_l07Vector p.n _ xs _ HV2.out HWp.out (by omega) (by omega)).mono ?_
      rintro e w3 ⟨u3, rfl, hI3, hb3⟩
      have hB3 := below_size hB2 hb3
      have hI4 : Ints w3 w.heap.size u3 (collL p L w0) := by rw [HX.out.2.2]; exact hI3.mono hB2.size
      obtain ⟨a9, c9, rfl, _, _⟩ := hI4.form
      clear hI3 hb3 hB2 hX2 n0
      go_wp2_with fail
      go_ret3
      exact ⟨_, ret_vib rfl HX.out.2.1.symm (by rw [HX.out.1]; rfl), hI4, hB3⟩
    · have hlen := stepL_len ht HVd.out HWp.out
      have HRd := Lib.hid hred
      have HN : Hid (CollS p L w0 (k + 1) (stepL p xs t)) := by
        by_cases hbig : (stepL p xs t).length ≤ 256
        · by_cases hkl2 : k < L
          · exact .inl (HA.out.next HVd.out hkl2 ht hf hbig)
          · obtain rfl : k = L := by omega
            exact .inr ⟨by omega, by omega, HA.out.stop hf⟩
        · exact .inr ⟨by omega, by omega, HA.out.big hf (by omega)⟩
      go_wp2_with fail
      refine (s_l09At _ _ _ _ p xs _ (HP.out.below hB) HV.out HWp.out (ordB_true HVd.out.ord).1 (by omega)).mono ?_
      rintro e w2 ⟨rfl, hb2⟩
      rw [hf]
      have hB2 := below_size hB hb2
      have hX2 := hX.below hb2 hX.lt
      have HV2 := Lib.hid (HV.out.below hb2)
      have n0 := hX2.c0
      have n1 := hX2.c1
      have n2 := hX2.c2
      clear hf hb2 m0 m1 m2 hX hB hred
      go_wp2_with fail
      refine (s_l09Step _ _ _ _ p xs t _ HVd.out (HP.out.below hB2) HV2.out ht HWp.out HRd.out (by omega)).mono ?_
      rintro e w3 ⟨u3, rfl, hI3, hb3⟩
      have hB3 := below_size hB2 hb3
      have hX3 := hX2.below hb3 hX2.lt
      have hr3 := hI3.rd
      obtain ⟨a9, c9, rfl, _, _⟩ := hr3.form
      clear hI3 hb3 hB2 hX2 n0 n1 n2
      generalize stepL p xs t = ys at *
      go_wp2_with fail
      go_roundw
      case rel => exact ⟨k + 1, ys, by go_num, by omega, hr3, HN, hB3, hX3⟩
      case measure => simp [intOf]; omega
end Go.Proofs.Ythnpndheaailjaa
