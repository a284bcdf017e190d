/-
  CollectWord.
-/
import Derived.Test.YtbhjbfgkohgiiaaCwp
namespace Go.Proofs.Ytbhjbfgkohgiiaa
set_option linter.unusedVariables false
set_option linter.unusedSimpArgs false
set_option maxRecDepth 100000
open Go.RowKit

--== both
theorem coll_cases (p : Pres) (m : Nat) (w : List Int) : collC p m w = 0 ∨ (collC p m w = 3 ∧ collN p m w = 0 ∧ collL p m w = []) := by
  cases h : colW p m w with
  | none => exact .inr (coll_none h)
  | some x => obtain ⟨u, f⟩ := x; exact .inl (coll_some h).1
--== impl.CollectWord
set_option maxHeartbeats 4000000 in
theorem i_CollectWord (v1 v2 v3 : Value) (p : Pres) (v : Value) (xs : List Int) (l : Int) (w : World) (hp : RdP w v1 v2 v3 p) (hv : Rd w v xs) (bl : -9223372036854775808 ≤ l ∧ l ≤ 9223372036854775807) :
    Calls Try.prog 35 #[.agg #[v1, v2, v3], v, .int .i64 l] w (RetInts3 w (cwL p xs l) (cwN p xs l) (cwK p xs l)) := by
  have HP := Lib.hid hp
  obtain ⟨ao1, cap1, rfl, _, _⟩ := hp.1.form
  obtain ⟨ao2, cap2, rfl, _, _⟩ := hp.2.1.form
  obtain ⟨ao3, cap3, rfl, _, _⟩ := hp.2.2.form
  have g0 := below_alloc w (Obj.cells #[Value.slice ao1 p.orders.length cap1, Value.slice ao2 p.powers.length cap2, Value.slice ao3 p.conj.length cap3] 28)
  have B0 := Bx.new w (Value.slice ao1 p.orders.length cap1) (Value.slice ao2 p.powers.length cap2) (Value.slice ao3 p.conj.length cap3)
  have HV := Lib.hid hv
  obtain ⟨ao, cap, rfl, hc1, hc2⟩ := hv.form
  clear hp hv
  by_cases hV : validB p = true
  case neg =>
    have hV' : validB p = false := by simpa using hV
    have HX := Lib.hid (cw_no (l := l) (show posV p xs = false by simp [posV, hV']))
    clear hV
    go_enter Try.func35, Try.ntmps35
    go_wp2_with fail
    refine (i_IsPresentation _ _ _ p _ (HP.out.below g0)).mono ?_
    rintro e w1 ⟨rfl, hb⟩
    have g1 := below_size g0 hb
    have B1 := B0.below hb (by simp)
    have PT := B1.ptr (HP.out.below g1)
    have m0 := B1.c0
    have m1 := B1.c1
    have m2 := B1.c2
    rw [hV']
    clear hb hV' PT m0 m1 m2
    go_wp2_with fail
    go_ret3
    exact ⟨_, ret_vii rfl HX.out.2.1.symm HX.out.1.symm, by rw [HX.out.2.2]; exact Ints.nil _ _, g1⟩
  have HVd := Lib.hid (validB_true.1 hV)
  have hn6 : p.orders.length ≤ 6 := HVd.out.n6
  have HVt := Lib.hid hV
  by_cases hP : posB p.n xs = true
  case neg =>
    have hP' : posB p.n xs = false := by simpa using hP
    have HX := Lib.hid (cw_no (l := l) (show posV p xs = false by simp [posV, posM, hP']))
    clear hP
    go_enter Try.func35, Try.ntmps35
    go_wp2_with fail
    refine (i_IsPresentation _ _ _ p _ (HP.out.below g0)).mono ?_
    rintro e w1 ⟨rfl, hb⟩
    have g1 := below_size g0 hb
    have B1 := B0.below hb (by simp)
    have PT := B1.ptr (HP.out.below g1)
    have m0 := B1.c0
    have m1 := B1.c1
    have m2 := B1.c2
    rw [hV]
    clear hb hV m0 m1 m2
    go_wp2_with fail
    refine (i_positiveWord _ _ p xs _ PT (Rd.below HV.out g1) (by unfold Pres.n; omega)).mono ?_
    rintro e w' ⟨rfl, rfl⟩
    rw [hP']
    clear hP' 
    go_wp2_with fail
    go_ret3
    exact ⟨_, ret_vii rfl HX.out.2.1.symm HX.out.1.symm, by rw [HX.out.2.2]; exact Ints.nil _ _, g1⟩
  have HPw := Lib.hid hP
  by_cases hl : xs.length ≤ 64
  case neg =>
    have HX := Lib.hid (cw_no (l := l) (show posV p xs = false by simp [posV, posM, hl]))
    go_enter Try.func35, Try.ntmps35
    go_wp2_with fail
    refine (i_IsPresentation _ _ _ p _ (HP.out.below g0)).mono ?_
    rintro e w1 ⟨rfl, hb⟩
    have g1 := below_size g0 hb
    have B1 := B0.below hb (by simp)
    have PT := B1.ptr (HP.out.below g1)
    have m0 := B1.c0
    have m1 := B1.c1
    have m2 := B1.c2
    rw [hV]
    clear hb hV m0 m1 m2
    go_wp2_with fail
    refine (i_positiveWord _ _ p xs _ PT (Rd.below HV.out g1) (by unfold Pres.n; omega)).mono ?_
    rintro e w' ⟨rfl, rfl⟩
    rw [hP]
    clear hP
    go_wp2_with fail
    go_ret3
    exact ⟨_, ret_vii rfl HX.out.2.1.symm HX.out.1.symm, by rw [HX.out.2.2]; exact Ints.nil _ _, g1⟩
  have HY : Hid (posV p xs = true) := by show _ = _; simp [posV, posM, hl, HVt.out, HPw.out]
  have HWp := Lib.hid (posB_true HPw.out)
  by_cases hi : inB l 0 2000 = true
  case neg =>
    have hi' : inB l 0 2000 = false := by simpa using hi
    have HX := Lib.hid (cw_lim HY.out hi')
    clear hi
    go_enter Try.func35, Try.ntmps35
    go_wp2_with fail
    refine (i_IsPresentation _ _ _ p _ (HP.out.below g0)).mono ?_
    rintro e w1 ⟨rfl, hb⟩
    have g1 := below_size g0 hb
    have B1 := B0.below hb (by simp)
    have PT := B1.ptr (HP.out.below g1)
    have m0 := B1.c0
    have m1 := B1.c1
    have m2 := B1.c2
    rw [hV]
    clear hb hV m0 m1 m2
    go_wp2_with fail
    refine (i_positiveWord _ _ p xs _ PT (Rd.below HV.out g1) (by unfold Pres.n; omega)).mono ?_
    rintro e w' ⟨rfl, rfl⟩
    rw [hP]
    clear hP
    clear PT
    have PT := B1.ptr (HP.out.below g1)
    go_wp2_with fail
    refine (i_inside l 0 2000 _).mono ?_
    rintro e w' ⟨rfl, rfl⟩
    rw [hi']
    clear hi'
    go_wp2_with fail
    go_ret3
    exact ⟨_, ret_vii rfl HX.out.2.1.symm HX.out.1.symm, by rw [HX.out.2.2]; exact Ints.nil _ _, g1⟩
  obtain ⟨hl0, hl1⟩ := inB_true.1 hi
  obtain ⟨m, rfl⟩ : ∃ m : Nat, l = (m : Int) := ⟨l.toNat, by omega⟩
  have hm : m ≤ 2000 := by omega
  have HX := Lib.hid (cw_go HY.out hi)
  clear hl0 hl1
  go_enter Try.func35, Try.ntmps35
  go_wp2_with fail
  refine (i_IsPresentation _ _ _ p _ (HP.out.below g0)).mono ?_
  rintro e w1 ⟨rfl, hb⟩
  have g1 := below_size g0 hb
  have B1 := B0.below hb (by simp)
  have PT := B1.ptr (HP.out.below g1)
  have m0 := B1.c0
  have m1 := B1.c1
  have m2 := B1.c2
  rw [hV]
  clear hb hV m0 m1 m2
  go_wp2_with fail
  refine (i_positiveWord _ _ p xs _ PT (Rd.below HV.out g1) (by unfold Pres.n; omega)).mono ?_
  rintro e w' ⟨rfl, rfl⟩
  rw [hP]
  clear hP
  clear PT
  have PT := B1.ptr (HP.out.below g1)
  go_wp2_with fail
  refine (i_inside (m : Int) 0 2000 _).mono ?_
  rintro e w' ⟨rfl, rfl⟩
  rw [hi]
  clear hi
  go_wp2_with fail
  refine (i_collect _ _ p xs m _ HVd.out PT (Rd.below HV.out g1) HWp.out (by omega) hm).mono ?_
  rintro e w3 ⟨u3, rfl, hI3, hb3⟩
  have g3 := below_size g1 hb3
  have hI4 : Ints w3 w.heap.size u3 (cwL p xs m) := by rw [HX.out.2.2]; exact hI3.mono g1.size
  obtain ⟨a9, c9, rfl, _, _⟩ := hI4.form
  clear hI3 hb3 g1
  go_wp2_with fail
  go_ret3
  exact ⟨_, ret_vii rfl HX.out.2.1.symm HX.out.1.symm, hI4, g3⟩
--== spec.CollectWord
set_option maxHeartbeats 4000000 in
theorem s_CollectWord (v1 v2 v3 : Value) (p : Pres) (v : Value) (xs : List Int) (l : Int) (w : World) (hp : RdP w v1 v2 v3 p) (hv : Rd w v xs) (bl : -9223372036854775808 ≤ l ∧ l ≤ 9223372036854775807) :
    Calls Try.prog 34 #[.agg #[v1, v2, v3], v, .int .i64 l] w (RetInts3 w (cwL p xs l) (cwN p xs l) (cwK p xs l)) := by
  have HP := Lib.hid hp
  obtain ⟨ao1, cap1, rfl, _, _⟩ := hp.1.form
  obtain ⟨ao2, cap2, rfl, _, _⟩ := hp.2.1.form
  obtain ⟨ao3, cap3, rfl, _, _⟩ := hp.2.2.form
  have g0 := below_alloc w (Obj.cells #[Value.slice ao1 p.orders.length cap1, Value.slice ao2 p.powers.length cap2, Value.slice ao3 p.conj.length cap3] 28)
  have B0 := Bx.new w (Value.slice ao1 p.orders.length cap1) (Value.slice ao2 p.powers.length cap2) (Value.slice ao3 p.conj.length cap3)
  have HV := Lib.hid hv
  obtain ⟨ao, cap, rfl, hc1, hc2⟩ := hv.form
  clear hp hv
  by_cases hV : validB p = true
  case neg =>
    have hV' : validB p = false := by simpa using hV
    have HX := Lib.hid (cw_no (l := l) (show posV p xs = false by simp [posV, hV']))
    clear hV
    go_enter Try.func34, Try.ntmps34
    go_wp2_with fail
    refine (s_IsPresentation _ _ _ p _ (HP.out.below g0)).mono ?_
    rintro e w1 ⟨rfl, hb⟩
    have g1 := below_size g0 hb
    have B1 := B0.below hb (by simp)
    have PT := B1.ptr (HP.out.below g1)
    have m0 := B1.c0
    have m1 := B1.c1
    have m2 := B1.c2
    rw [hV']
    clear hb hV' PT m0 m1 m2
    go_wp2_with fail
    go_ret3
    exact ⟨_, ret_vii rfl HX.out.2.1.symm HX.out.1.symm, by rw [HX.out.2.2]; exact Ints.nil _ _, g1⟩
  have HVd := Lib.hid (validB_true.1 hV)
  have hn6 : p.orders.length ≤ 6 := HVd.out.n6
  have HVt := Lib.hid hV
  by_cases hP : posM p.n xs 64 = true
  case neg =>
    have hP' : posM p.n xs 64 = false := by simpa using hP
    have HX := Lib.hid (cw_no (l := l) (show posV p xs = false by simp [posV, hP']))
    have HC : Hid (∀ w, Rd w (.slice ao xs.length cap) xs → Calls Try.prog 79 #[.int .i64 (p.orders.length : Nat), .slice ao xs.length cap, .int .i64 64] w fun e w' => e = .returned (.bool false) ∧ w = w') := fun w h => by rw [← hP']; exact s_l09Positive p.n _ xs 64 w h (by unfold Pres.n; omega) (by omega)
    clear hP hP'
    go_enter Try.func34, Try.ntmps34
    go_wp2_with fail
    refine (s_IsPresentation _ _ _ p _ (HP.out.below g0)).mono ?_
    rintro e w1 ⟨rfl, hb⟩
    have g1 := below_size g0 hb
    have B1 := B0.below hb (by simp)
    have PT := B1.ptr (HP.out.below g1)
    have m0 := B1.c0
    have m1 := B1.c1
    have m2 := B1.c2
    rw [hV]
    clear hb hV m1 m2
    go_wp2_with fail
    refine (HC.out _ (Rd.below HV.out g1)).mono ?_
    rintro e w' ⟨rfl, rfl⟩
    clear HC
    go_wp2_with fail
    go_ret3
    exact ⟨_, ret_vii rfl HX.out.2.1.symm HX.out.1.symm, by rw [HX.out.2.2]; exact Ints.nil _ _, g1⟩
  have HPw : Hid (posB p.n xs = true ∧ xs.length ≤ 64) := by simpa [posM, Hid] using hP
  have hl := HPw.out.2
  have HC : Hid (∀ w, Rd w (.slice ao xs.length cap) xs → Calls Try.prog 79 #[.int .i64 (p.orders.length : Nat), .slice ao xs.length cap, .int .i64 64] w fun e w' => e = .returned (.bool true) ∧ w = w') := fun w h => by rw [← hP]; exact s_l09Positive p.n _ xs 64 w h (by unfold Pres.n; omega) (by omega)
  have HY : Hid (posV p xs = true) := by show _ = _; simp [posV, HVt.out, hP]
  have HWp := Lib.hid (posB_true HPw.out.1)
  clear hP
  by_cases hi : inB l 0 2000 = true
  case neg =>
    have hi' : inB l 0 2000 = false := by simpa using hi
    have HX := Lib.hid (cw_lim HY.out hi')
    clear hi
    go_enter Try.func34, Try.ntmps34
    go_wp2_with fail
    refine (s_IsPresentation _ _ _ p _ (HP.out.below g0)).mono ?_
    rintro e w1 ⟨rfl, hb⟩
    have g1 := below_size g0 hb
    have B1 := B0.below hb (by simp)
    have PT := B1.ptr (HP.out.below g1)
    have m0 := B1.c0
    have m1 := B1.c1
    have m2 := B1.c2
    rw [hV]
    clear hb hV
    go_wp2_with fail
    refine (HC.out _ (Rd.below HV.out g1)).mono ?_
    rintro e w' ⟨rfl, rfl⟩
    clear HC
    go_wp2_with fail
    refine (s_l01In l 0 2000 _).mono ?_
    rintro e w' ⟨rfl, rfl⟩
    rw [hi']
    clear hi'
    go_wp2_with fail
    go_ret3
    exact ⟨_, ret_vii rfl HX.out.2.1.symm HX.out.1.symm, by rw [HX.out.2.2]; exact Ints.nil _ _, g1⟩
  obtain ⟨hl0, hl1⟩ := inB_true.1 hi
  obtain ⟨m, rfl⟩ : ∃ m : Nat, l = (m : Int) := ⟨l.toNat, by omega⟩
  have hm : m ≤ 2000 := by omega
  have HX := Lib.hid (cw_go HY.out hi)
  clear hl0 hl1
  go_enter Try.func34, Try.ntmps34
  go_wp2_with fail
  refine (s_IsPresentation _ _ _ p _ (HP.out.below g0)).mono ?_
  rintro e w1 ⟨rfl, hb⟩
  have g1 := below_size g0 hb
  have B1 := B0.below hb (by simp)
  have PT := B1.ptr (HP.out.below g1)
  have m0 := B1.c0
  have m1 := B1.c1
  have m2 := B1.c2
  rw [hV]
  clear hb hV
  go_wp2_with fail
  refine (HC.out _ (Rd.below HV.out g1)).mono ?_
  rintro e w' ⟨rfl, rfl⟩
  clear HC
  go_wp2_with fail
  refine (s_l01In (m : Int) 0 2000 _).mono ?_
  rintro e w' ⟨rfl, rfl⟩
  rw [hi]
  clear hi
  go_wp2_with fail
  refine (s_l09Collect _ _ _ _ p xs m _ HVd.out (HP.out.below g1) (Rd.below HV.out g1) HWp.out (by omega) hm).mono ?_
  rintro e w3 ⟨u3, rfl, hI3, hb3⟩
  have g3 := below_size g1 hb3
  have hI4 : Ints w3 w.heap.size u3 (cwL p xs m) := by rw [HX.out.2.2]; exact hI3.mono g1.size
  obtain ⟨a9, c9, rfl, _, _⟩ := hI4.form
  clear hI3 hb3 g1
  rcases coll_cases p m xs with hz | ⟨hz, hn0, hnl⟩
  · have HZ : Hid (okc (collC p m xs) = true) := by show _ = _; rw [hz]; rfl
    have HZ0 := Lib.hid hz
    rw [HZ.out]
    clear hz
    go_wp2_with fail
    go_ret3
    exact ⟨_, ret_vii rfl HX.out.2.1.symm (by rw [HX.out.1, HZ0.out]), hI4, g3⟩
  · have HZ : Hid (okc (collC p m xs) = false) := by show _ = _; rw [hz]; rfl
    have HZ0 := Lib.hid (And.intro hz (And.intro hn0 hnl))
    rw [HZ.out]
    clear hz hn0 hnl
    go_wp2_with fail
    go_ret3
    exact ⟨_, ret_vii rfl (by rw [HX.out.2.1, HZ0.out.2.1]) (by rw [HX.out.1, HZ0.out.1]), by rw [HX.out.2.2, HZ0.out.2.2]; exact Ints.nil _ _, g3⟩
end Go.Proofs.Ytbhjbfgkohgiiaa
