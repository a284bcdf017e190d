/-
  CollectStep.
-/
import Derived.Test.YtjefjhbnkcokhaaSte
import Derived.Test.YtjefjhbnkcokhaaStf
import Derived.Test.YtjefjhbnkcokhaaTriv
namespace Go.Proofs.Ytjefjhbnkcokhaa
set_option linter.unusedVariables false
set_option linter.unusedSimpArgs false
set_option maxRecDepth 100000
open Go.RowKit

--== three results
def RetInts3 (w : World) (xs : List Int) (a b : Int) (e : Ending) (w' : World) : Prop := ∃ v, e = .returned (.tuple #[v, .int .i64 a, .int .i64 b]) ∧ Ints w' w.heap.size v xs ∧ Below w.heap.size w w'
theorem ret_vii {u v : Value} {a b c d : Int} (h : u = v) (h' : a = c) (h'' : b = d) : Ending.returned (.tuple #[u, .int .i64 a, .int .i64 b]) = .returned (.tuple #[v, .int .i64 c, .int .i64 d]) := by rw [h, h', h'']
theorem len_CollectStep (p : Pres) (w : List Int) : (csL p w).length ≤ 1000000000 := by
  by_cases h : posV p w = true
  · obtain ⟨hV, hP, hl⟩ := posV_true h
    rcases firstR_bd p.orders w with hf | ⟨t, hf, ht, _⟩
    · rw [(cs_nf h hf).2.2]; omega
    · rw [(cs_at h hf).2.2]
      have := stepL_len ht hV (posB_true hP)
      omega
  · rw [(cs_no (by simpa using h)).2.2]; simp
--== impl.CollectStep
set_option maxHeartbeats 4000000 in
theorem i_CollectStep (v1 v2 v3 : Value) (p : Pres) (v : Value) (xs : List Int) (w : World) (hp : RdP w v1 v2 v3 p) (hv : Rd w v xs) :
    Calls Try.prog 34 #[.agg #[v1, v2, v3], v] w (RetInts3 w (csL p xs) (csT p xs) (csK p xs)) := by
  have HP := Lib.hid hp
  have HV := Lib.hid hv
  obtain ⟨ao1, cap1, rfl, _, _⟩ := hp.1.form
  obtain ⟨ao2, cap2, rfl, _, _⟩ := hp.2.1.form
  obtain ⟨ao3, cap3, rfl, _, _⟩ := hp.2.2.form
  obtain ⟨ao, cap, rfl, hc1, hc2⟩ := hv.form
  have g0 := below_alloc w (Obj.cells #[Value.slice ao1 p.orders.length cap1, Value.slice ao2 p.powers.length cap2, Value.slice ao3 p.conj.length cap3] 28)
  have B0 := Bx.new w (Value.slice ao1 p.orders.length cap1) (Value.slice ao2 p.powers.length cap2) (Value.slice ao3 p.conj.length cap3)
  clear hp hv
  by_cases hV : validB p = true
  case neg =>
    have hV' : validB p = false := by simpa using hV
    have HX := Lib.hid (cs_no (w := xs) (show posV p xs = false by simp [posV, hV']))
    clear hV
    go_enter Try.func34, Try.ntmps34
    go_wp2_with fail
    refine (i_IsPresentation _ _ _ p _ (HP.out.below g0)).mono ?_
    rintro e w1 ⟨rfl, hb⟩
    have g1 := below_size g0 hb
    have B1 := B0.below hb (by simp)
    have PT := B1.ptr (HP.out.below g1)
    have m0 := B1.c0
    have m1 := B1.c1
    have m2 := B1.c2
    rw [hV']
    clear hb hV' PT m0 m1 m2
    go_wp2_with fail
    go_ret3
    exact ⟨_, ret_vii rfl HX.out.2.1.symm HX.out.1.symm, by rw [HX.out.2.2]; exact Ints.nil _ _, g1⟩
  have HVd := Lib.hid (validB_true.1 hV)
  have hn6 : p.orders.length ≤ 6 := HVd.out.n6
  have HVt := Lib.hid hV
  by_cases hP : posB p.n xs = true
  case neg =>
    have hP' : posB p.n xs = false := by simpa using hP
    have HX := Lib.hid (cs_no (w := xs) (show posV p xs = false by simp [posV, posM, hP']))
    clear hP
    go_enter Try.func34, Try.ntmps34
    go_wp2_with fail
    refine (i_IsPresentation _ _ _ p _ (HP.out.below g0)).mono ?_
    rintro e w1 ⟨rfl, hb⟩
    have g1 := below_size g0 hb
    have B1 := B0.below hb (by simp)
    have PT := B1.ptr (HP.out.below g1)
    have m0 := B1.c0
    have m1 := B1.c1
    have m2 := B1.c2
    rw [hV]
    clear hb hV m0 m1 m2
    go_wp2_with fail
    refine (i_positiveWord _ _ p xs _ PT (Rd.below HV.out g1) (by unfold Pres.n; omega)).mono ?_
    rintro e w' ⟨rfl, rfl⟩
    rw [hP']
    clear hP' 
    go_wp2_with fail
    go_ret3
    exact ⟨_, ret_vii rfl HX.out.2.1.symm HX.out.1.symm, by rw [HX.out.2.2]; exact Ints.nil _ _, g1⟩
  have HPw := Lib.hid hP
  by_cases hl : xs.length ≤ 64
  case neg =>
    have HX := Lib.hid (cs_no (w := xs) (show posV p xs = false by simp [posV, posM, hl]))
    go_enter Try.func34, Try.ntmps34
    go_wp2_with fail
    refine (i_IsPresentation _ _ _ p _ (HP.out.below g0)).mono ?_
    rintro e w1 ⟨rfl, hb⟩
    have g1 := below_size g0 hb
    have B1 := B0.below hb (by simp)
    have PT := B1.ptr (HP.out.below g1)
    have m0 := B1.c0
    have m1 := B1.c1
    have m2 := B1.c2
    rw [hV]
    clear hb hV m0 m1 m2
    go_wp2_with fail
    refine (i_positiveWord _ _ p xs _ PT (Rd.below HV.out g1) (by unfold Pres.n; omega)).mono ?_
    rintro e w' ⟨rfl, rfl⟩
    rw [hP]
    clear hP
    go_wp2_with fail
    go_ret3
    exact ⟨_, ret_vii rfl HX.out.2.1.symm HX.out.1.symm, by rw [HX.out.2.2]; exact Ints.nil _ _, g1⟩
  have HY : Hid (posV p xs = true) := by show _ = _; simp [posV, posM, hl, HVt.out, HPw.out]
  have HWp := Lib.hid (posB_true HPw.out)
  rcases firstR_bd p.orders xs with hf | ⟨t, hf, ht, hred⟩
  · have HX := Lib.hid (cs_nf HY.out hf)
    go_enter Try.func34, Try.ntmps34
    go_wp2_with fail
    refine (i_IsPresentation _ _ _ p _ (HP.out.below g0)).mono ?_
    rintro e w1 ⟨rfl, hb⟩
    have g1 := below_size g0 hb
    have B1 := B0.below hb (by simp)
    have PT := B1.ptr (HP.out.below g1)
    have m0 := B1.c0
    have m1 := B1.c1
    have m2 := B1.c2
    rw [hV]
    clear hb hV m0 m1 m2
    go_wp2_with fail
    refine (i_positiveWord _ _ p xs _ PT (Rd.below HV.out g1) (by unfold Pres.n; omega)).mono ?_
    rintro e w' ⟨rfl, rfl⟩
    rw [hP]
    clear hP
    go_wp2_with fail
    refine (i_reducibleAt _ _ p xs _ PT (Rd.below HV.out g1) HWp.out (ordB_true HVd.out.ord).1 (by omega)).mono ?_
    rintro e w2 ⟨rfl, nd, hnd⟩
    have hb2 : Below w1.heap.size w1 w2 := by rw [hnd]; exact below_drewN (Below.refl _ _) _
    clear hnd
    rw [hf]
    clear hf
    have g2 := below_size g1 hb2
    clear hb2 g1 B1 PT
    go_wp2_with fail
    refine (f_Clone _ xs _ (Rd.below HV.out g2) (by omega)).mono ?_
    rintro e w3 ⟨u3, rfl, hI3, hb3⟩
    have g3 := below_size g2 hb3
    have hI4 : Ints w3 w.heap.size u3 (csL p xs) := by rw [HX.out.2.2]; exact hI3.mono g2.size
    obtain ⟨a9, c9, rfl, _, _⟩ := hI4.form
    clear hI3 hb3 g2
    go_wp2_with fail
    go_ret3
    exact ⟨_, ret_vii rfl HX.out.2.1.symm HX.out.1.symm, hI4, g3⟩
  · have HX := Lib.hid (cs_at HY.out hf)
    have HR := Lib.hid hred
    clear hred
    go_enter Try.func34, Try.ntmps34
    go_wp2_with fail
    refine (i_IsPresentation _ _ _ p _ (HP.out.below g0)).mono ?_
    rintro e w1 ⟨rfl, hb⟩
    have g1 := below_size g0 hb
    have B1 := B0.below hb (by simp)
    have PT := B1.ptr (HP.out.below g1)
    have m0 := B1.c0
    have m1 := B1.c1
    have m2 := B1.c2
    rw [hV]
    clear hb hV m0 m1 m2
    go_wp2_with fail
    refine (i_positiveWord _ _ p xs _ PT (Rd.below HV.out g1) (by unfold Pres.n; omega)).mono ?_
    rintro e w' ⟨rfl, rfl⟩
    rw [hP]
    clear hP
    go_wp2_with fail
    refine (i_reducibleAt _ _ p xs _ PT (Rd.below HV.out g1) HWp.out (ordB_true HVd.out.ord).1 (by omega)).mono ?_
    rintro e w2 ⟨rfl, nd, hnd⟩
    have hb2 : Below w1.heap.size w1 w2 := by rw [hnd]; exact below_drewN (Below.refl _ _) _
    clear hnd
    rw [hf]
    clear hf
    have g2 := below_size g1 hb2
    go_wp2_with fail
    refine (i_stepAt _ _ p xs t _ HVd.out (PT.below hb2) (Rd.below HV.out g2) ht HWp.out HR.out (by omega)).mono ?_
    rintro e w3 ⟨u3, rfl, hI3, hb3⟩
    have g3 := below_size g2 hb3
    have hI4 : Ints w3 w.heap.size u3 (csL p xs) := by rw [HX.out.2.2]; exact hI3.mono g2.size
    obtain ⟨a9, c9, rfl, _, _⟩ := hI4.form
    clear hI3 hb3 g2
    go_wp2_with fail
    go_ret3
    exact ⟨_, ret_vii rfl HX.out.2.1.symm HX.out.1.symm, hI4, g3⟩
