/-
  Elements by number: both sides.
-/
import Derived.Test.YtanjeebdondpaaaOrd
namespace Go.Proofs.Ytanjeebdondpaaa
set_option linter.unusedVariables false
set_option linter.unusedSimpArgs false
set_option maxRecDepth 100000
open Go.RowKit

--== spec.l10One
set_option maxHeartbeats 1000000 in
theorem s_l10One {p : Pres} (hV : ValidP p) (v1 v2 v3 : Value) (w : World) (hp : RdP w v1 v2 v3 p) :
    Calls Try.prog 118 #[.agg #[v1, v2, v3]] w (RetInts w p.zv) := by
  obtain ⟨i0, hi, hz0, hz1, hz2⟩ := info_parts Try.info2
  have hn6 := hV.n6
  obtain ⟨p1, q1, rfl, _, _⟩ := hp.1.formN (n := p.n) rfl
  obtain ⟨p2, q2, rfl, _, _⟩ := hp.2.1.formN hV.pl
  obtain ⟨p3, q3, rfl, _, _⟩ := hp.2.2.formN hV.cl
  have g0 := below_alloc w (Obj.cells #[Value.slice p1 p.n q1, Value.slice p2 p.n q2, Value.slice p3 p.n q3] 28)
  clear hp
  go_enter Try.func118, Try.ntmps118
  go_wp2_with (at_make; refine wp_mkInts _ rfl _ _ rfl i0 Try.underlying22 hi hz0 hz1 hz2 _ _ _ _ p.n rfl rfl rfl rfl (by omega) ?_)
  intro w1 hI hB hlt
  have hB1 := below_from g0 hB (by simp)
  have hI1 : Ints w1 w.heap.size _ p.zv := hI.mono (by simp)
  clear hI hB g0
  go_wp2_with fail
  go_ret
  exact ⟨_, rfl, hI1, hB1⟩
--== spec.l10At
set_option maxHeartbeats 4000000 in
theorem s_l10At {p : Pres} (hV : ValidP p) (M : Int) (v1 v2 v3 : Value) (w : World) (hp : RdP w v1 v2 v3 p) (hM : 0 ≤ M ∧ M ≤ 1000000) :
    Calls Try.prog 76 #[.agg #[v1, v2, v3], .int .i64 M] w (RetInts w (atF p M)) := by
  have hn6 := hV.n6
  have HP := Lib.hid hp
  obtain ⟨p1, q1, rfl, _, _⟩ := hp.1.formN (n := p.n) rfl
  obtain ⟨p2, q2, rfl, _, _⟩ := hp.2.1.formN hV.pl
  obtain ⟨p3, q3, rfl, _, _⟩ := hp.2.2.formN hV.cl
  have HR := Lib.hid hp.1
  have g0 := below_alloc w (Obj.cells #[Value.slice p1 p.n q1, Value.slice p2 p.n q2, Value.slice p3 p.n q3] 28)
  have x0 := Bx.new w (Value.slice p1 p.n q1) (Value.slice p2 p.n q2) (Value.slice p3 p.n q3)
  clear hp
  go_enter Try.func76, Try.ntmps76
  go_wp2_with fail
  refine (s_l10One hV _ _ _ _ (HP.out.below g0)).mono ?_
  rintro e w1 ⟨u, rfl, hI, hB⟩
  have g1 := below_size g0 hB
  have x1 := x0.below hB (by simp)
  have hI1 : Ints w1 (w.heap.size + 1) u p.zv := hI.mono (by simp)
  obtain ⟨au, cu, rfl, _, _⟩ := hI1.rd.formN p.zv_len
  clear hI hB x0 g0
  go_wp2_with fail
  go_loopw [1, 6] (fun m t wr => ∃ s : Nat, s ≤ p.n ∧ t = .int .i64 ((p.n : Int) - 1 - s) ∧ m = .int .i64 (atS p M s).2 ∧ Ints wr (w.heap.size + 1) (.slice au p.n cu) (atS p M s).1 ∧ Bx wr w.heap.size (Value.slice p1 p.n q1) (Value.slice p2 p.n q2) (Value.slice p3 p.n q3) ∧ Below w.heap.size w wr) (fun _ t _ => (intOf t + 1).toNat)
  case atStart => exact ⟨0, Nat.zero_le _, by go_num, rfl, hI1, x1, g1⟩
  case round =>
    clear hI1 x1 g1
    obtain ⟨s, hs, rfl, rfl, hI, hX, hB⟩ := hrel
    have hbd := atS_bd hV.rk hM.1 s hs
    by_cases hlt : s < p.n
    · obtain ⟨i, hi⟩ : ∃ i, p.n - 1 - s = i := ⟨_, rfl⟩
      have ei : (p.n : Int) - 1 - s = (i : Int) := by omega
      have hin : i < p.n := by omega
      rw [ei]
      have H1 : Hid ((atS p M (s + 1)).1 = (atS p M s).1.set i ((atS p M s).2 % p.r i)) := by show _ = _; rw [← hi]; rfl
      have H2 : Hid ((atS p M (s + 1)).2 = (atS p M s).2 / p.r i) := by show _ = _; rw [← hi]; rfl
      obtain ⟨b1, o1, rfl, k1⟩ := HR.out.at (j := i) hin
      have k1' : w.cell? ⟨b1, o1 + i, none⟩ = some (.int .i64 (p.r i)) := k1
      have e1 := below_cells hB _ _ k1'
      have hrk := hV.rk i hin
      have m0 := hX.c0
      obtain ⟨g, cap, he, hg1, hg2, _⟩ := hI.open (by rw [atS_len]; omega)
      rw [atS_len] at he
      simp only [Value.slice.injEq, true_and] at he
      obtain ⟨rfl, rfl⟩ := he
      have hro := hI.row (by rw [atS_len]; omega)
      have hff := hro.2.2.2.2.2.2 i
      have hcc := hro.2.2.2.2.2.1 i (by rw [atS_len]; exact hin)
      obtain ⟨m, Hm⟩ := nam (atS p M s).2
      obtain ⟨r, Hr⟩ := nam (p.r i)
      rw [Hm.out] at hbd H1 H2 ⊢
      rw [Hr.out] at hrk H1 H2 e1
      obtain ⟨hI2, hC2⟩ := hI.set (by rw [atS_len]) i (m % r)
      rw [← H1.out] at hI2
      have hne : w.heap.size ≠ g := by omega
      have hX2 := hX.other (c := g) hne i (.int .i64 (m % r))
      have hB2 := hB.setCell (p := ⟨g, i, none⟩) (by show w.heap.size ≤ g; omega) (.int .i64 (m % r))
      have hb1 : b1 < w.heap.size := World.block_lt_of_cell? w _ k1'
      have hne2 : b1 ≠ g := by omega
      have HEI := Lib.hid ei
      have hsi1 : (s : Int) + i + 1 ≤ p.n := by omega
      have hsi2 : (p.n : Int) ≤ s + i + 1 := by omega
      clear hi ei k1 k1' hro hI hX hB hC2
      go_wp2_with fail
      go_roundw
      case rel => exact ⟨s + 1, by omega, by go_num, by rw [H2.out], hI2, hX2, hB2⟩
      case measure => (simp [intOf]; try omega)
    · obtain rfl : s = p.n := by omega
      have hI' : Hid (Ints wr w.heap.size (.slice au p.n cu) (atF p M)) := hI.mono (by omega)
      clear hI
      go_wp2_with fail
      go_ret
      exact ⟨_, rfl, hI'.out, hB⟩
--== impl.elementAt
set_option maxHeartbeats 4000000 in
theorem i_elementAt {p : Pres} (hV : ValidP p) (M : Int) (vp : Value) (w : World) (hp : PtrP w vp p) (hM : 0 ≤ M ∧ M ≤ 1000000) :
    Calls Try.prog 79 #[vp, .int .i64 M] w (RetInts w (atF p M)) := by
  obtain ⟨i0, hi, hz0, hz1, hz2⟩ := info_parts Try.info2
  have hn6 := hV.n6
  obtain ⟨pb, v1, v2, v3, rfl, c1, c2, c3, R1, R2, R3⟩ := hp
  obtain ⟨p1, q1, rfl, _, _⟩ := R1.formN (n := p.n) rfl
  have HR := Lib.hid R1
  have C1 := Lib.hid c1
  have hpb := World.block_lt_of_cell? w _ c1
  clear R1 R2 R3 c2 c3
  go_enter Try.func79, Try.ntmps79
  go_wp2_with (at_make; refine wp_mkInts _ rfl _ _ rfl i0 Try.underlying22 hi hz0 hz1 hz2 _ _ _ _ p.n rfl rfl rfl rfl (by omega) ?_)
  intro w1 hI hB hlt0
  have hI1 : Ints w1 w.heap.size (.slice (some ⟨w.heap.size, 0, none⟩) p.n p.n) p.zv := hI
  clear hI c1 hi
  go_wp2_with fail
  go_loopw [1, 6] (fun m t wr => ∃ s : Nat, s ≤ p.n ∧ t = .int .i64 ((p.n : Int) - 1 - s) ∧ m = .int .i64 (atS p M s).2 ∧ Ints wr w.heap.size (.slice (some ⟨w.heap.size, 0, none⟩) p.n p.n) (atS p M s).1 ∧ Below w.heap.size w wr) (fun _ t _ => (intOf t + 1).toNat)
  case atStart => exact ⟨0, Nat.zero_le _, by go_num, rfl, hI1, hB⟩
  case round =>
    clear hI1 hB
    obtain ⟨s, hs, rfl, rfl, hI, hB⟩ := hrel
    have hbd := atS_bd hV.rk hM.1 s hs
    by_cases hlt : s < p.n
    · obtain ⟨i, hi⟩ : ∃ i, p.n - 1 - s = i := ⟨_, rfl⟩
      have ei : (p.n : Int) - 1 - s = (i : Int) := by omega
      have hin : i < p.n := by omega
      rw [ei]
      have H1 : Hid ((atS p M (s + 1)).1 = (atS p M s).1.set i ((atS p M s).2 % p.r i)) := by show _ = _; rw [← hi]; rfl
      have H2 : Hid ((atS p M (s + 1)).2 = (atS p M s).2 / p.r i) := by show _ = _; rw [← hi]; rfl
      obtain ⟨b1, o1, rfl, k1⟩ := HR.out.at (j := i) hin
      have k1' : w.cell? ⟨b1, o1 + i, none⟩ = some (.int .i64 (p.r i)) := k1
      have e1 := below_cells hB _ _ k1'
      have e0 := below_cells hB _ _ C1.out
      have hrk := hV.rk i hin
      have hro := hI.row (by rw [atS_len]; omega)
      have hff := hro.2.2.2.2.2.2 i
      have hcc := hro.2.2.2.2.2.1 i (by rw [atS_len]; exact hin)
      obtain ⟨m, Hm⟩ := nam (atS p M s).2
      obtain ⟨r, Hr⟩ := nam (p.r i)
      rw [Hm.out] at hbd H1 H2 ⊢
      rw [Hr.out] at hrk H1 H2 e1
      obtain ⟨hI2, hC2⟩ := hI.set (by rw [atS_len]) i (m % r)
      rw [← H1.out] at hI2
      have hB2 := hB.setCell (p := ⟨w.heap.size, i, none⟩) (Nat.le_refl _) (.int .i64 (m % r))
      have hb1 : b1 < w.heap.size := World.block_lt_of_cell? w _ k1'
      have hne2 : b1 ≠ w.heap.size := by omega
      have hne3 : pb ≠ w.heap.size := by omega
      have hsi1 : (s : Int) + i + 1 ≤ p.n := by omega
      have hsi2 : (p.n : Int) ≤ s + i + 1 := by omega
      clear hi ei k1 k1' hro hI hB hC2
      go_wp2_with fail
      go_roundw
      case rel => exact ⟨s + 1, by omega, by go_num, by rw [H2.out], hI2, hB2⟩
      case measure => (simp [intOf]; try omega)
    · obtain rfl : s = p.n := by omega
      have hI' : Hid (Ints wr w.heap.size (.slice (some ⟨w.heap.size, 0, none⟩) p.n p.n) (atF p M)) := hI
      clear hI
      go_wp2_with fail
      go_ret
      exact ⟨_, rfl, hI'.out, hB⟩
--== ElementAt
def eaC (p : Pres) (k : Int) : Int := if conB p = true then (if inB k 0 (prodO p.orders - 1) = true then 0 else 2) else 1
theorem eaC_1 {p : Pres} {k : Int} (h : conB p = false) : eaC p k = 1 := by unfold eaC; rw [h]; rfl
theorem eaC_2 {p : Pres} {k : Int} (h : conB p = true) (h2 : inB k 0 (prodO p.orders - 1) = false) : eaC p k = 2 := by unfold eaC; rw [h, h2]; rfl
theorem eaC_0 {p : Pres} {k : Int} (h : conB p = true) (h2 : inB k 0 (prodO p.orders - 1) = true) : eaC p k = 0 := by unfold eaC; rw [h, h2]; rfl
theorem ord_bd0 {p : Pres} (hV : ValidP p) : 1 ≤ prodO p.orders ∧ prodO p.orders ≤ 729 := by have := ord_bd hV p.n; rwa [ord_all] at this
--== impl.ElementAt
set_option maxHeartbeats 2000000 in
theorem i_ElementAt (v1 v2 v3 : Value) (p : Pres) (k : Int) (w : World) (hp : RdP w v1 v2 v3 p) :
    Calls Try.prog 33 #[.agg #[v1, v2, v3], .int .i64 k] w (RetInts2 w (okW (eaC p k) (atF p k)) (eaC p k)) := by
  have HP := Lib.hid hp
  obtain ⟨ao1, cap1, rfl, _, _⟩ := hp.1.form
  obtain ⟨ao2, cap2, rfl, _, _⟩ := hp.2.1.form
  obtain ⟨ao3, cap3, rfl, _, _⟩ := hp.2.2.form
  have g0 := below_alloc w (Obj.cells #[Value.slice ao1 p.orders.length cap1, Value.slice ao2 p.powers.length cap2, Value.slice ao3 p.conj.length cap3] 28)
  have PT := Lib.hid (PtrP.boxed hp)
  clear hp
  by_cases hc : conB p = true
  case neg =>
    have hc' : conB p = false := by simpa using hc
    rw [eaC_1 hc']
    clear hc
    go_enter Try.func33, Try.ntmps33
    go_wp2_with fail
    refine (i_IsConsistent _ _ _ p _ (HP.out.below g0)).mono ?_
    rintro e w2 ⟨rfl, hb⟩
    have g2 := below_size g0 hb
    have PT2 := PT.out.below hb
    have z1 : w.heap.size < w2.heap.size := by have := hb.size; simp at this; omega
    rw [hc']
    clear hb hc'
    go_wp2_with fail
    go_ret2
    exact ⟨_, rfl, Ints.nil _ _, g2⟩
  obtain ⟨hV, hG⟩ := conB_true hc
  have hb := ord_bd0 hV
  have HV := Lib.hid hV
  obtain ⟨Q, HQ⟩ := nam (prodO p.orders)
  rw [HQ.out] at hb
  by_cases hk : inB k 0 (Q - 1) = true
  case neg =>
    have hk' : inB k 0 (Q - 1) = false := by simpa using hk
    rw [eaC_2 hc (by rw [HQ.out]; exact hk')]
    clear hk hV hG
    go_enter Try.func33, Try.ntmps33
    go_wp2_with fail
    refine (i_IsConsistent _ _ _ p _ (HP.out.below g0)).mono ?_
    rintro e w2 ⟨rfl, hb⟩
    have g2 := below_size g0 hb
    have PT2 := PT.out.below hb
    have z1 : w.heap.size < w2.heap.size := by have := hb.size; simp at this; omega
    rw [hc]
    clear hb hc
    go_wp2_with fail
    refine (i_orderOf _ p _ PT2 HV.out.ord).mono ?_
    rintro e w' ⟨rfl, rfl⟩
    rw [HQ.out]
    go_wp2_with fail
    refine (i_inside _ _ _ _).mono ?_
    rintro e w' ⟨rfl, rfl⟩
    rw [hk']
    clear hk' PT2
    go_wp2_with fail
    go_ret2
    exact ⟨_, rfl, Ints.nil _ _, g2⟩
  rw [eaC_0 hc (by rw [HQ.out]; exact hk), okW_zero rfl]
  have hkb := inB_true.1 hk
  clear hV hG
  go_enter Try.func33, Try.ntmps33
  go_wp2_with fail
  refine (i_IsConsistent _ _ _ p _ (HP.out.below g0)).mono ?_
  rintro e w2 ⟨rfl, hb⟩
  have g2 := below_size g0 hb
  have PT2 := PT.out.below hb
  have z1 : w.heap.size < w2.heap.size := by have := hb.size; simp at this; omega
  rw [hc]
  clear hb hc
  go_wp2_with fail
  refine (i_orderOf _ p _ PT2 HV.out.ord).mono ?_
  rintro e w' ⟨rfl, rfl⟩
  rw [HQ.out]
  go_wp2_with fail
  refine (i_inside _ _ _ _).mono ?_
  rintro e w' ⟨rfl, rfl⟩
  rw [hk]
  clear hk
  go_wp2_with fail
  refine (i_elementAt HV.out k _ _ PT2 (by omega)).mono ?_
  rintro e w3 ⟨u, rfl, hI, hB⟩
  have g3 := below_size g2 hB
  have hI2 := hI.mono g2.size
  clear hI hB PT2
  go_wp2_with fail
  go_ret2
  exact ⟨_, rfl, hI2, g3⟩
--== spec.ElementAt
set_option maxHeartbeats 2000000 in
theorem s_ElementAt (v1 v2 v3 : Value) (p : Pres) (k : Int) (w : World) (hp : RdP w v1 v2 v3 p) :
    Calls Try.prog 32 #[.agg #[v1, v2, v3], .int .i64 k] w (RetInts2 w (okW (eaC p k) (atF p k)) (eaC p k)) := by
  have HP := Lib.hid hp
  obtain ⟨ao1, cap1, rfl, _, _⟩ := hp.1.form
  obtain ⟨ao2, cap2, rfl, _, _⟩ := hp.2.1.form
  obtain ⟨ao3, cap3, rfl, _, _⟩ := hp.2.2.form
  have g0 := below_alloc w (Obj.cells #[Value.slice ao1 p.orders.length cap1, Value.slice ao2 p.powers.length cap2, Value.slice ao3 p.conj.length cap3] 28)
  clear hp
  by_cases hc : conB p = true
  case neg =>
    have hc' : conB p = false := by simpa using hc
    rw [eaC_1 hc']
    clear hc
    go_enter Try.func32, Try.ntmps32
    go_wp2_with fail
    refine (s_l08Group p _ _ _ _ (HP.out.below g0)).mono ?_
    rintro e w2 ⟨rfl, hb⟩
    have g2 := below_size g0 hb
    obtain ⟨c1, f1⟩ := bcell hb
    have z1 : w.heap.size < w2.heap.size := by have := hb.size; simp at this; omega
    rw [hc']
    clear hb hc'
    go_wp2_with fail
    go_ret2
    exact ⟨_, rfl, Ints.nil _ _, g2⟩
  obtain ⟨hV, hG⟩ := conB_true hc
  have hb := ord_bd0 hV
  have HV := Lib.hid hV
  obtain ⟨Q, HQ⟩ := nam (prodO p.orders)
  rw [HQ.out] at hb
  by_cases hk : inB k 0 (Q - 1) = true
  case neg =>
    have hk' : inB k 0 (Q - 1) = false := by simpa using hk
    rw [eaC_2 hc (by rw [HQ.out]; exact hk')]
    clear hk hV hG
    go_enter Try.func32, Try.ntmps32
    go_wp2_with fail
    refine (s_l08Group p _ _ _ _ (HP.out.below g0)).mono ?_
    rintro e w2 ⟨rfl, hb⟩
    have g2 := below_size g0 hb
    obtain ⟨c1, f1⟩ := bcell hb
    have z1 : w.heap.size < w2.heap.size := by have := hb.size; simp at this; omega
    rw [hc]
    clear hb hc
    go_wp2_with fail
    refine (s_l10Order HV.out _ _ _ _ (HP.out.below g2)).mono ?_
    rintro e w3 ⟨rfl, hb3⟩
    have g3 := below_size g2 hb3
    rw [HQ.out]
    clear hb3
    go_wp2_with fail
    refine (s_l01In _ _ _ _).mono ?_
    rintro e w' ⟨rfl, rfl⟩
    rw [hk']
    clear hk'
    go_wp2_with fail
    go_ret2
    exact ⟨_, rfl, Ints.nil _ _, g3⟩
  rw [eaC_0 hc (by rw [HQ.out]; exact hk), okW_zero rfl]
  have hkb := inB_true.1 hk
  clear hV hG
  go_enter Try.func32, Try.ntmps32
  go_wp2_with fail
  refine (s_l08Group p _ _ _ _ (HP.out.below g0)).mono ?_
  rintro e w2 ⟨rfl, hb⟩
  have g2 := below_size g0 hb
  obtain ⟨c1, f1⟩ := bcell hb
  have z1 : w.heap.size < w2.heap.size := by have := hb.size; simp at this; omega
  rw [hc]
  clear hb hc
  go_wp2_with fail
  refine (s_l10Order HV.out _ _ _ _ (HP.out.below g2)).mono ?_
  rintro e w3 ⟨rfl, hb3⟩
  have g3 := below_size g2 hb3
  obtain ⟨c3, f3⟩ := bcell hb3
  have z3 : w.heap.size < w3.heap.size := by have := hb3.size; omega
  rw [HQ.out]
  clear hb3
  go_wp2_with fail
  refine (s_l01In _ _ _ _).mono ?_
  rintro e w' ⟨rfl, rfl⟩
  rw [hk]
  clear hk
  go_wp2_with fail
  refine (s_l10At HV.out k _ _ _ _ (HP.out.below g3) (by omega)).mono ?_
  rintro e w4 ⟨u, rfl, hI, hB⟩
  have g4 := below_size g3 hB
  have hI2 := hI.mono g3.size
  clear hI hB
  go_wp2_with fail
  go_ret2
  exact ⟨_, rfl, hI2, g4⟩
theorem len_ElementAt (p : Pres) (k : Int) : (okW (eaC p k) (atF p k)).length ≤ 1000000000 := by
  unfold okW; split
  · next h =>
    have hc : conB p = true := by
      unfold eaC at h
      split at h
      · assumption
      · omega
    have := (conB_true hc).1.n6
    show (atS p k p.n).1.length ≤ _
    rw [atS_len]; omega
  · simp
end Go.Proofs.Ytanjeebdondpaaa
