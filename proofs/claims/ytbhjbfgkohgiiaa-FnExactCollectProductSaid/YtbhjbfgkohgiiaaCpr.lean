/-
  CollectProduct.
-/
import Derived.Test.YtbhjbfgkohgiiaaCwd
namespace Go.Proofs.Ytbhjbfgkohgiiaa
set_option linter.unusedVariables false
set_option linter.unusedSimpArgs false
set_option maxRecDepth 100000
open Go.RowKit

--== both
theorem ret_tup2 {u v : Value} {a b : Int} (h : u = v) (h' : a = b) : Ending.returned (.tuple #[u, .int .i64 a]) = .returned (.tuple #[v, .int .i64 b]) := by rw [h, h']
theorem cpB_x {p : Pres} {xs ys : List Int} (h : exvB p xs = false) : cpB p xs ys = false := by
  unfold exvB at h
  unfold cpB
  cases h1 : validB p <;> cases h2 : tailB p.orders xs 0 <;> simp_all
theorem cpB_y {p : Pres} {xs ys : List Int} (h : exvB p ys = false) : cpB p xs ys = false := by
  unfold exvB at h
  unfold cpB
  cases h1 : validB p <;> cases h2 : tailB p.orders ys 0 <;> simp_all
theorem cpB_xy {p : Pres} {xs ys : List Int} (h : exvB p xs = true) (h' : exvB p ys = true) : cpB p xs ys = true := by
  unfold exvB at h h'
  unfold cpB
  rw [Bool.and_eq_true] at h h'
  rw [h.1, h.2, h'.2]; rfl
--== impl.CollectProduct
set_option maxHeartbeats 4000000 in
theorem i_CollectProduct (v1 v2 v3 : Value) (p : Pres) (vx : Value) (xs : List Int) (vy : Value) (ys : List Int) (l : Int) (w : World) (hp : RdP w v1 v2 v3 p) (hvx : Rd w vx xs) (hvy : Rd w vy ys) (bl : -9223372036854775808 ≤ l ∧ l ≤ 9223372036854775807) :
    Calls Try.prog 33 #[.agg #[v1, v2, v3], vx, vy, .int .i64 l] w (RetInts2 w (cpL p xs ys l) (cpK p xs ys l)) := by
  have HP := Lib.hid hp
  obtain ⟨ao1, cap1, rfl, _, _⟩ := hp.1.form
  obtain ⟨ao2, cap2, rfl, _, _⟩ := hp.2.1.form
  obtain ⟨ao3, cap3, rfl, _, _⟩ := hp.2.2.form
  have g0 := below_alloc w (Obj.cells #[Value.slice ao1 p.orders.length cap1, Value.slice ao2 p.powers.length cap2, Value.slice ao3 p.conj.length cap3] 28)
  have B0 := Bx.new w (Value.slice ao1 p.orders.length cap1) (Value.slice ao2 p.powers.length cap2) (Value.slice ao3 p.conj.length cap3)
  have HVx := Lib.hid hvx
  have HVy := Lib.hid hvy
  obtain ⟨aox, capx, rfl, _, _⟩ := hvx.form
  obtain ⟨aoy, capy, rfl, _, _⟩ := hvy.form
  clear hp hvx hvy
  by_cases hV : validB p = true
  case neg =>
    have hV' : validB p = false := by simpa using hV
    have HX := Lib.hid (cp_no (l := l) (show cpB p xs ys = false by simp [cpB, hV']))
    clear hV
    go_enter Try.func33, Try.ntmps33
    go_wp2_with fail
    refine (i_IsPresentation _ _ _ p _ (HP.out.below g0)).mono ?_
    rintro e w1 ⟨rfl, hb⟩
    have g1 := below_size g0 hb
    have B1 := B0.below hb (by simp)
    have PT := B1.ptr (HP.out.below g1)
    rw [hV']
    clear hb hV'
    clear PT
    go_wp2_with fail
    go_ret2
    exact ⟨_, ret_tup2 rfl HX.out.1.symm, by rw [HX.out.2]; exact Ints.nil _ _, g1⟩
  have HVd := Lib.hid (validB_true.1 hV)
  have HVt := Lib.hid hV
  have hn6 : p.orders.length ≤ 6 := HVd.out.n6
  by_cases hx : tailB p.orders xs 0 = true
  case neg =>
    have hx' : tailB p.orders xs 0 = false := by simpa using hx
    have HX := Lib.hid (cp_no (l := l) (show cpB p xs ys = false by simp [cpB, hx']))
    clear hx
    go_enter Try.func33, Try.ntmps33
    go_wp2_with fail
    refine (i_IsPresentation _ _ _ p _ (HP.out.below g0)).mono ?_
    rintro e w1 ⟨rfl, hb⟩
    have g1 := below_size g0 hb
    have B1 := B0.below hb (by simp)
    have PT := B1.ptr (HP.out.below g1)
    rw [hV]
    clear hb hV
    go_wp2_with fail
    refine (i_isExponents _ _ p xs _ PT (Rd.below HVx.out g1) (ordB_true HVd.out.ord).1).mono ?_
    rintro e w' ⟨rfl, rfl⟩
    rw [hx']
    clear hx'
    go_wp2_with fail
    go_ret2
    exact ⟨_, ret_tup2 rfl HX.out.1.symm, by rw [HX.out.2]; exact Ints.nil _ _, g1⟩
  have HXt := Lib.hid hx
  by_cases hy : tailB p.orders ys 0 = true
  case neg =>
    have hy' : tailB p.orders ys 0 = false := by simpa using hy
    have HX := Lib.hid (cp_no (l := l) (show cpB p xs ys = false by simp [cpB, hy']))
    clear hy
    go_enter Try.func33, Try.ntmps33
    go_wp2_with fail
    refine (i_IsPresentation _ _ _ p _ (HP.out.below g0)).mono ?_
    rintro e w1 ⟨rfl, hb⟩
    have g1 := below_size g0 hb
    have B1 := B0.below hb (by simp)
    have PT := B1.ptr (HP.out.below g1)
    rw [hV]
    clear hb hV
    go_wp2_with fail
    refine (i_isExponents _ _ p xs _ PT (Rd.below HVx.out g1) (ordB_true HVd.out.ord).1).mono ?_
    rintro e w' ⟨rfl, rfl⟩
    rw [hx]
    clear hx
    go_wp2_with fail
    refine (i_isExponents _ _ p ys _ PT (Rd.below HVy.out g1) (ordB_true HVd.out.ord).1).mono ?_
    rintro e w' ⟨rfl, rfl⟩
    rw [hy']
    clear hy'
    go_wp2_with fail
    go_ret2
    exact ⟨_, ret_tup2 rfl HX.out.1.symm, by rw [HX.out.2]; exact Ints.nil _ _, g1⟩
  have HC : Hid (cpB p xs ys = true) := by show _ = _; simp [cpB, hV, hx, hy]
  by_cases hi : inB l 0 2000 = true
  case neg =>
    have hi' : inB l 0 2000 = false := by simpa using hi
    have HX := Lib.hid (cp_lim HC.out hi')
    clear hi
    go_enter Try.func33, Try.ntmps33
    go_wp2_with fail
    refine (i_IsPresentation _ _ _ p _ (HP.out.below g0)).mono ?_
    rintro e w1 ⟨rfl, hb⟩
    have g1 := below_size g0 hb
    have B1 := B0.below hb (by simp)
    have PT := B1.ptr (HP.out.below g1)
    rw [hV]
    clear hb hV
    go_wp2_with fail
    refine (i_isExponents _ _ p xs _ PT (Rd.below HVx.out g1) (ordB_true HVd.out.ord).1).mono ?_
    rintro e w' ⟨rfl, rfl⟩
    rw [hx]
    clear hx
    go_wp2_with fail
    refine (i_isExponents _ _ p ys _ PT (Rd.below HVy.out g1) (ordB_true HVd.out.ord).1).mono ?_
    rintro e w' ⟨rfl, rfl⟩
    rw [hy]
    clear hy
    go_wp2_with fail
    refine (i_inside l 0 2000 _).mono ?_
    rintro e w' ⟨rfl, rfl⟩
    rw [hi']
    clear hi'
    go_wp2_with fail
    go_ret2
    exact ⟨_, ret_tup2 rfl HX.out.1.symm, by rw [HX.out.2]; exact Ints.nil _ _, g1⟩
  obtain ⟨hl0, hl1⟩ := inB_true.1 hi
  obtain ⟨m, rfl⟩ : ∃ m : Nat, l = (m : Int) := ⟨l.toNat, by omega⟩
  have hm : m ≤ 2000 := by omega
  have HX := Lib.hid (cp_go HC.out hi)
  obtain ⟨sx, sy, hpw, hlw, hlx, hly⟩ := cp_word HC.out
  have SX := Lib.hid sx
  have SY := Lib.hid sy
  have HPW := Lib.hid hpw
  clear hl0 hl1 sx sy hpw
  go_enter Try.func33, Try.ntmps33
  go_wp2_with fail
  refine (i_IsPresentation _ _ _ p _ (HP.out.below g0)).mono ?_
  rintro e w1 ⟨rfl, hb⟩
  have g1 := below_size g0 hb
  have B1 := B0.below hb (by simp)
  have PT := B1.ptr (HP.out.below g1)
  rw [hV]
  clear hb hV
  go_wp2_with fail
  refine (i_isExponents _ _ p xs _ PT (Rd.below HVx.out g1) (ordB_true HVd.out.ord).1).mono ?_
  rintro e w' ⟨rfl, rfl⟩
  rw [hx]
  clear hx
  go_wp2_with fail
  refine (i_isExponents _ _ p ys _ PT (Rd.below HVy.out g1) (ordB_true HVd.out.ord).1).mono ?_
  rintro e w' ⟨rfl, rfl⟩
  rw [hy]
  clear hy
  go_wp2_with fail
  refine (i_inside (m : Int) 0 2000 _).mono ?_
  rintro e w' ⟨rfl, rfl⟩
  rw [hi]
  clear hi
  go_wp2_with fail
  refine (i_normalWord _ xs _ (Rd.below HVx.out g1) SX.out).mono ?_
  rintro e w2 ⟨u2, rfl, hI2, hb2⟩
  have g2 := below_size g1 hb2
  have B2 := B1.below hb2 B1.lt
  have hI3 : Ints w2 (w.heap.size + 1) u2 (nwL xs) := hI2.mono B1.lt
  obtain ⟨a6, c6, rfl, _, _⟩ := hI3.form
  clear hI2 hb2 g1 PT B1
  go_wp2_with fail
  refine (i_normalWord _ ys _ (Rd.below HVy.out g2) SY.out).mono ?_
  rintro e w3 ⟨u3, rfl, hI4, hb3⟩
  have g3 := below_size g2 hb3
  have B3 := B2.below hb3 B2.lt
  have hI5 := hI3.below hb3
  have hr4 := hI4.rd
  obtain ⟨a7, c7, rfl, _, _⟩ := hr4.form
  clear hI3 hb3 g2 B2 hI4
  obtain ⟨u8, w4, hr, hI6, hB4⟩ := run_appK w3 22 _ _ _ hI5 _ _ hr4 (by omega) (by omega) B3.lt
  have g4 : Below w.heap.size w w4 := g3.trans (hB4.mono (Nat.le_succ _))
  have B4 := B3.below hB4 (Nat.lt_succ_self _)
  obtain ⟨W, HW⟩ : ∃ W, Hid (nwL xs ++ nwL ys = W) := ⟨_, rfl⟩
  rw [HW.out] at hI6 hlw
  have HX2 := HX.out
  rw [HW.out] at HX2
  have HX3 := Lib.hid HX2
  have HPW2 := HPW.out
  rw [HW.out] at HPW2
  have HPW3 := Lib.hid HPW2
  have hr6 := hI6.rd
  obtain ⟨a8, c8, rfl, _, _⟩ := hr6.form
  have PT4 := B4.ptr (HP.out.below g4)
  clear hI5 hr4 hB4 g3 B3 hI6 HX2 HPW2
  go_wp2_with (at_builtin; refine wp_of_run _ rfl _ _ _ rfl _ _ rfl rfl _ _ hr ?_)
  refine (i_collect _ _ p W m _ HVd.out PT4 hr6 HPW3.out (by omega) hm).mono ?_
  rintro e w5 ⟨u5, rfl, hI7, hb5⟩
  have g5 := below_size g4 hb5
  have hI8 : Ints w5 w.heap.size u5 (cpL p xs ys m) := by rw [HX3.out.2]; exact hI7.mono g4.size
  obtain ⟨a9, c9, rfl, _, _⟩ := hI8.form
  clear hI7 hb5 g4 PT4 hr6 B4
  go_wp2_with fail
  go_ret2
  exact ⟨_, ret_tup2 rfl HX3.out.1.symm, hI8, g5⟩
--== spec.CollectProduct
set_option maxHeartbeats 4000000 in
theorem s_CollectProduct (v1 v2 v3 : Value) (p : Pres) (vx : Value) (xs : List Int) (vy : Value) (ys : List Int) (l : Int) (w : World) (hp : RdP w v1 v2 v3 p) (hvx : Rd w vx xs) (hvy : Rd w vy ys) (bl : -9223372036854775808 ≤ l ∧ l ≤ 9223372036854775807) :
    Calls Try.prog 32 #[.agg #[v1, v2, v3], vx, vy, .int .i64 l] w (RetInts2 w (cpL p xs ys l) (cpK p xs ys l)) := by
  have HP := Lib.hid hp
  obtain ⟨ao1, cap1, rfl, _, _⟩ := hp.1.form
  obtain ⟨ao2, cap2, rfl, _, _⟩ := hp.2.1.form
  obtain ⟨ao3, cap3, rfl, _, _⟩ := hp.2.2.form
  have g0 := below_alloc w (Obj.cells #[Value.slice ao1 p.orders.length cap1, Value.slice ao2 p.powers.length cap2, Value.slice ao3 p.conj.length cap3] 28)
  have B0 := Bx.new w (Value.slice ao1 p.orders.length cap1) (Value.slice ao2 p.powers.length cap2) (Value.slice ao3 p.conj.length cap3)
  have HVx := Lib.hid hvx
  have HVy := Lib.hid hvy
  obtain ⟨aox, capx, rfl, _, _⟩ := hvx.form
  obtain ⟨aoy, capy, rfl, _, _⟩ := hvy.form
  clear hp hvx hvy
  by_cases hx : exvB p xs = true
  case neg =>
    have hx' : exvB p xs = false := by simpa using hx
    have HX := Lib.hid (cp_no (l := l) (cpB_x (ys := ys) hx'))
    clear hx
    go_enter Try.func32, Try.ntmps32
    go_wp2_with fail
    refine (s_IsExponentVector _ _ _ p _ xs _ (HP.out.below g0) (Rd.below HVx.out g0)).mono ?_
    rintro e w1 ⟨rfl, hb⟩
    have g1 := below_size g0 hb
    have B1 := B0.below hb (by simp)
    have m0 := B1.c0
    have m1 := B1.c1
    have m2 := B1.c2
    rw [hx']
    clear hb hx'
    go_wp2_with fail
    go_ret2
    exact ⟨_, ret_tup2 rfl HX.out.1.symm, by rw [HX.out.2]; exact Ints.nil _ _, g1⟩
  have HXt := Lib.hid hx
  have HVd := Lib.hid (exvB_true hx).1
  have hn6 : p.orders.length ≤ 6 := HVd.out.n6
  by_cases hy : exvB p ys = true
  case neg =>
    have hy' : exvB p ys = false := by simpa using hy
    have HX := Lib.hid (cp_no (l := l) (cpB_y (xs := xs) hy'))
    clear hy
    go_enter Try.func32, Try.ntmps32
    go_wp2_with fail
    refine (s_IsExponentVector _ _ _ p _ xs _ (HP.out.below g0) (Rd.below HVx.out g0)).mono ?_
    rintro e w1 ⟨rfl, hb⟩
    have g1 := below_size g0 hb
    have B1 := B0.below hb (by simp)
    have m0 := B1.c0
    have m1 := B1.c1
    have m2 := B1.c2
    rw [hx]
    clear hb hx
    go_wp2_with fail
    refine (s_IsExponentVector _ _ _ p _ ys _ (HP.out.below g1) (Rd.below HVy.out g1)).mono ?_
    rintro e w2 ⟨rfl, hb⟩
    have g1' := below_size g1 hb
    have B2 := B1.below hb B1.lt
    rw [hy']
    clear hb hy' g1 B1 m0 m1 m2
    have g1 := g1'
    have B1 := B2
    have m0 := B1.c0
    have m1 := B1.c1
    have m2 := B1.c2
    clear g1' B2
    go_wp2_with fail
    go_ret2
    exact ⟨_, ret_tup2 rfl HX.out.1.symm, by rw [HX.out.2]; exact Ints.nil _ _, g1⟩
  have HC := Lib.hid (cpB_xy hx hy)
  by_cases hi : inB l 0 2000 = true
  case neg =>
    have hi' : inB l 0 2000 = false := by simpa using hi
    have HX := Lib.hid (cp_lim HC.out hi')
    clear hi
    go_enter Try.func32, Try.ntmps32
    go_wp2_with fail
    refine (s_IsExponentVector _ _ _ p _ xs _ (HP.out.below g0) (Rd.below HVx.out g0)).mono ?_
    rintro e w1 ⟨rfl, hb⟩
    have g1 := below_size g0 hb
    have B1 := B0.below hb (by simp)
    have m0 := B1.c0
    have m1 := B1.c1
    have m2 := B1.c2
    rw [hx]
    clear hb hx
    go_wp2_with fail
    refine (s_IsExponentVector _ _ _ p _ ys _ (HP.out.below g1) (Rd.below HVy.out g1)).mono ?_
    rintro e w2 ⟨rfl, hb⟩
    have g1' := below_size g1 hb
    have B2 := B1.below hb B1.lt
    rw [hy]
    clear hb hy g1 B1 m0 m1 m2
    have g1 := g1'
    have B1 := B2
    have m0 := B1.c0
    have m1 := B1.c1
    have m2 := B1.c2
    clear g1' B2
    go_wp2_with fail
    refine (s_l01In l 0 2000 _).mono ?_
    rintro e w' ⟨rfl, rfl⟩
    rw [hi']
    clear hi'
    go_wp2_with fail
    go_ret2
    exact ⟨_, ret_tup2 rfl HX.out.1.symm, by rw [HX.out.2]; exact Ints.nil _ _, g1⟩
  obtain ⟨hl0, hl1⟩ := inB_true.1 hi
  obtain ⟨m, rfl⟩ : ∃ m : Nat, l = (m : Int) := ⟨l.toNat, by omega⟩
  have hm : m ≤ 2000 := by omega
  have HX := Lib.hid (cp_go HC.out hi)
  obtain ⟨sx, sy, hpw, hlw, hlx, hly⟩ := cp_word HC.out
  have SX := Lib.hid sx
  have SY := Lib.hid sy
  have HPW := Lib.hid hpw
  clear hl0 hl1 sx sy hpw
  go_enter Try.func32, Try.ntmps32
  go_wp2_with fail
  refine (s_IsExponentVector _ _ _ p _ xs _ (HP.out.below g0) (Rd.below HVx.out g0)).mono ?_
  rintro e w1 ⟨rfl, hb⟩
  have g1 := below_size g0 hb
  have B1 := B0.below hb (by simp)
  have m0 := B1.c0
  have m1 := B1.c1
  have m2 := B1.c2
  rw [hx]
  clear hb hx
  go_wp2_with fail
  refine (s_IsExponentVector _ _ _ p _ ys _ (HP.out.below g1) (Rd.below HVy.out g1)).mono ?_
  rintro e w2 ⟨rfl, hb⟩
  have g1' := below_size g1 hb
  have B2 := B1.below hb B1.lt
  rw [hy]
  clear hb hy g1 B1 m0 m1 m2
  have g1 := g1'
  have B1 := B2
  have m0 := B1.c0
  have m1 := B1.c1
  have m2 := B1.c2
  clear g1' B2
  go_wp2_with fail
  refine (s_l01In (m : Int) 0 2000 _).mono ?_
  rintro e w' ⟨rfl, rfl⟩
  rw [hi]
  clear hi
  have KEEP : Hid (∀ wx, Below (w.heap.size + 1) w2 wx → Below (w.heap.size + 1) w2 wx ∧ wx.cell? ⟨w.heap.size, 0, none⟩ = some (Value.slice ao1 p.orders.length cap1) ∧ wx.cell? ⟨w.heap.size, 1, none⟩ = some (Value.slice ao2 p.powers.length cap2) ∧ wx.cell? ⟨w.heap.size, 2, none⟩ = some (Value.slice ao3 p.conj.length cap3)) := fun wx hb => ⟨hb, (B1.below hb (Nat.lt_succ_self _)).c0, (B1.below hb (Nat.lt_succ_self _)).c1, (B1.below hb (Nat.lt_succ_self _)).c2⟩
  have hl1 : w.heap.size + 1 ≤ w2.heap.size := B1.lt
  obtain ⟨W, HW⟩ : ∃ W, Hid (nwL xs ++ nwL ys = W) := ⟨_, rfl⟩
  have HX2 := HX.out
  rw [HW.out] at HX2 hlw
  have HX3 := Lib.hid HX2
  have HPW2 := HPW.out
  rw [HW.out] at HPW2
  have HPW3 := Lib.hid HPW2
  have G1 := Lib.hid g1
  clear HX2 HPW2 g1
  go_wp2_with fail
  go_region_held3 (fun wx => Below (w.heap.size + 1) w2 wx ∧ wx.cell? ⟨w.heap.size, 0, none⟩ = some (Value.slice ao1 p.orders.length cap1) ∧ wx.cell? ⟨w.heap.size, 1, none⟩ = some (Value.slice ao2 p.powers.length cap2) ∧ wx.cell? ⟨w.heap.size, 2, none⟩ = some (Value.slice ao3 p.conj.length cap3))
    (first | exact KEEP.out _ (Below.refl _ _).drew | exact KEEP.out _ hK5 | exact KEEP.out _ hK4 | exact KEEP.out _ hK3 | exact KEEP.out _ hK2)
    (first
      | ((go_at_call 88); (with_reducible refine (s_l07Word _ xs _ (Rd.below HVx.out (below_size G1.out (Below.refl _ _).drew)) SX.out).mono ?_); (rintro e w3 ⟨u2, rfl, hI2', hB2⟩); (have hK2 : Below (w.heap.size + 1) w2 w3 := (below_size (Below.refl _ _).drew hB2).mono hl1); (have hI2 : Ints w3 (w.heap.size + 1) u2 (nwL xs) := hI2'.mono hl1); (obtain ⟨a6, c6, rfl, _, _⟩ := hI2.form); (clear hI2' hB2))
      | ((go_at_call 88); (with_reducible refine (s_l07Word _ ys _ (Rd.below HVy.out (G1.out.trans (hK2.mono (Nat.le_succ _)))) SY.out).mono ?_); (rintro e w4 ⟨u3, rfl, hI3', hB3⟩); (have hK3 : Below (w.heap.size + 1) w2 w4 := hK2.trans (hB3.mono (Nat.le_trans hl1 hK2.size))); (have hI3 := hI2.below hB3); (have hr3 := hI3'.rd); (obtain ⟨a7, c7, rfl, _, _⟩ := hr3.form); (clear hI3' hB3))
      | (obtain ⟨u8, w5, hr, hI4', hB4⟩ := run_appK w4 22 _ _ _ hI3 _ _ hr3 (by omega) (by omega) (Nat.le_trans hl1 hK3.size)
         have hK4 : Below (w.heap.size + 1) w2 w5 := hK3.trans hB4
         rw [HW.out] at hI4'
         have hr4 := hI4'.rd
         obtain ⟨a8, c8, rfl, _, _⟩ := hr4.form
         clear hI4' hB4
         refine step_of_run rfl (.tmp 29) (.tmp 31) 22 rfl _ _ (by simp [Act.eval, Act.put]) (by simp [Act.eval, Act.put]) _ _ hr ?_)
      | ((go_at_call 87); (with_reducible refine (s_l09Collect _ _ _ _ p W m _ HVd.out (HP.out.below (G1.out.trans (hK4.mono (Nat.le_succ _)))) hr4 HPW3.out (by omega) hm).mono ?_); (rintro e w6 ⟨u5, rfl, hI5', hB5⟩); (have hK5 : Below (w.heap.size + 1) w2 w6 := hK4.trans (hB5.mono (Nat.le_trans hl1 hK4.size))); (have hI8 : Ints w6 w.heap.size u5 (cpL p xs ys m) := (by rw [HX3.out.2]; exact hI5'.mono (Nat.le_trans (Nat.le_succ _) (Nat.le_trans hl1 hK4.size)))); (obtain ⟨a9, c9, rfl, _, _⟩ := hI8.form); (clear hI5' hB5)))
  have g3 : Below w.heap.size w w6 := G1.out.trans (hK5.mono (Nat.le_succ _))
  clear KEEP
  rcases coll_cases p m W with hz | ⟨hz, hn0, hnl⟩
  · have HZ : Hid (okc (collC p m W) = true) := by show _ = _; rw [hz]; rfl
    have HZ0 := Lib.hid hz
    rw [HZ.out]
    clear hz
    go_wp2_with fail
    go_ret2
    exact ⟨_, ret_tup2 rfl (by rw [HX3.out.1, HZ0.out]), hI8, g3⟩
  · have HZ : Hid (okc (collC p m W) = false) := by show _ = _; rw [hz]; rfl
    have HZ0 := Lib.hid (And.intro hz (And.intro hn0 hnl))
    rw [HZ.out]
    clear hz hn0 hnl
    go_wp2_with fail
    go_ret2
    exact ⟨_, ret_tup2 rfl (by rw [HX3.out.1, HZ0.out.1]), by rw [HX3.out.2, HZ0.out.2.2]; exact Ints.nil _ _, g3⟩
end Go.Proofs.Ytbhjbfgkohgiiaa
