/-
  TrivialModule: the reference's side; what the laws do with modules.
-/
import Derived.Test.YtjnnjnhmecidmaaMoe
namespace Go.Proofs.Ytjnnjnhmecidmaa
set_option linter.unusedVariables false
set_option linter.unusedSimpArgs false
set_option maxRecDepth 100000
open Go.RowKit

--== spec.l21Trivial
set_option maxHeartbeats 8000000 in
theorem s_l21Trivial (v1 v2 v3 : Value) (p : Pres) (x : Int) (m : Nat) (w : World) (hp : RdP w v1 v2 v3 p) (hn6 : p.n ≤ 6) (hm : m ≤ 3) :
    Calls Try.prog 90 #[.agg #[v1, v2, v3], .int .i64 x, .int .i64 m] w fun e w' => ∃ v, e = .returned (.agg #[.int .i64 x, .int .i64 m, v]) ∧ O3 w' (win w.heap.size w'.heap.size) v (List.replicate p.n (unitR m m)) ∧ Below w.heap.size w w' := by
  obtain ⟨ir, hri, hrz0, hrz1, hrz2⟩ := info_parts Try.infoRow2
  obtain ⟨ao1, cap1, rfl, _, _⟩ := hp.1.formN (n := p.n) rfl
  obtain ⟨ao2, cap2, rfl, _, _⟩ := hp.2.1.form
  obtain ⟨ao3, cap3, rfl, _, _⟩ := hp.2.2.form
  obtain ⟨wa, hwa⟩ : ∃ wa, wa = w.alloc (Obj.cells #[Value.slice ao1 p.n cap1, Value.slice ao2 p.powers.length cap2, Value.slice ao3 p.conj.length cap3] 28) := ⟨_, rfl⟩
  have ga : Below w.heap.size w wa := hwa ▸ below_alloc _ _
  have ba : Bx wa w.heap.size (Value.slice ao1 p.n cap1) (Value.slice ao2 p.powers.length cap2) (Value.slice ao3 p.conj.length cap3) := hwa ▸ Bx.new _ _ _ _
  have sa : wa.heap.size = w.heap.size + 1 := by rw [hwa]; simp
  obtain ⟨wb, hwb⟩ : ∃ wb, wb = wa.alloc (Obj.cells #[.int .i64 0, .int .i64 0, .slice none 0 0] 42) := ⟨_, rfl⟩
  have gb : Below w.heap.size w wb := hwb ▸ ga.alloc ga.size _
  have bb : Bx wb w.heap.size (Value.slice ao1 p.n cap1) (Value.slice ao2 p.powers.length cap2) (Value.slice ao3 p.conj.length cap3) := hwb ▸ ba.old _
  have xb : Bt 42 wb (w.heap.size + 1) (.int .i64 0) (.int .i64 0) (.slice none 0 0) := by rw [hwb, ← sa]; exact Bt.new _ _ _ _ _
  have sb : wb.heap.size = w.heap.size + 1 + 1 := by rw [hwb]; simp [sa]
  obtain ⟨wc, hwc⟩ : ∃ wc, wc = wb.alloc (Obj.cells #[] 23) := ⟨_, rfl⟩
  have gc : Below w.heap.size w wc := hwc ▸ gb.alloc gb.size _
  have bc : Bx wc w.heap.size (Value.slice ao1 p.n cap1) (Value.slice ao2 p.powers.length cap2) (Value.slice ao3 p.conj.length cap3) := hwc ▸ bb.old _
  have xc : Bt 42 wc (w.heap.size + 1) (.int .i64 0) (.int .i64 0) (.slice none 0 0) := hwc ▸ xb.old _
  have oc : O3 wc (fun k => w.heap.size + 2 ≤ k ∧ k ≠ w.heap.size + 1 ∧ k ≠ w.heap.size + 1 + 1 + 1) (.slice (some ⟨w.heap.size + 1 + 1, 0, none⟩) 0 0) [] := by
    rw [hwc, ← sb]; exact local_O3.mono (ON.empty wb) (fun k _ hk => by subst hk; exact ⟨by omega, by omega, by omega⟩)
  have sc : wc.heap.size = w.heap.size + 1 + 1 + 1 := by rw [hwc]; simp [sb]
  obtain ⟨wd, hwd⟩ : ∃ wd, wd = wc.alloc (Obj.cells #[.int .i64 x, .int .i64 m, .slice (some ⟨w.heap.size + 1 + 1, 0, none⟩) 0 0] 42) := ⟨_, rfl⟩
  have gd : Hid (Below w.heap.size w wd) := hwd ▸ gc.alloc gc.size _
  have bd : Hid (Bx wd w.heap.size (Value.slice ao1 p.n cap1) (Value.slice ao2 p.powers.length cap2) (Value.slice ao3 p.conj.length cap3)) := hwd ▸ bc.old _
  have xd : Bt 42 wd (w.heap.size + 1) (.int .i64 0) (.int .i64 0) (.slice none 0 0) := hwd ▸ xc.old _
  have yd : Bt 42 wd (w.heap.size + 1 + 1 + 1) (.int .i64 x) (.int .i64 m) (.slice (some ⟨w.heap.size + 1 + 1, 0, none⟩) 0 0) := by rw [hwd, ← sc]; exact Bt.new _ _ _ _ _
  have od : Hid (MInv 42 O3 (w.heap.size + 2) (w.heap.size + 1) (w.heap.size + 1 + 1 + 1) (.int .i64 x) (.int .i64 m) (List.replicate 0 (unitR m m)) wd) := ⟨_, xd, yd, hwd ▸ local_O3.below oc (below_alloc _ _)⟩
  have HWD : Hid (wd = (((w.alloc (Obj.cells #[Value.slice ao1 p.n cap1, Value.slice ao2 p.powers.length cap2, Value.slice ao3 p.conj.length cap3] 28)).alloc (Obj.cells #[.int .i64 0, .int .i64 0, .slice none 0 0] 42)).alloc (Obj.cells #[] 23)).alloc (Obj.cells #[.int .i64 x, .int .i64 m, .slice (some ⟨w.heap.size + 1 + 1, 0, none⟩) 0 0] 42)) := by
    show _ = _; rw [hwd, hwc, hwb, hwa]
  clear hp ga ba sa gb bb xb sb gc bc xc oc sc xd yd hwa hwb hwc hwd wa wb wc
  go_enter Try.func90, Try.ntmps90
  go_wp2_with fail
  rw [← HWD.out]
  go_loopw [8] (fun i wr => ∃ j : Nat, j ≤ p.n ∧ i = .int .i64 j ∧ MInv 42 O3 (w.heap.size + 2) (w.heap.size + 1) (w.heap.size + 1 + 1 + 1) (.int .i64 x) (.int .i64 m) (List.replicate j (unitR m m)) wr ∧ Bx wr w.heap.size (Value.slice ao1 p.n cap1) (Value.slice ao2 p.powers.length cap2) (Value.slice ao3 p.conj.length cap3) ∧ Below w.heap.size w wr) (fun i _ => p.n - (intOf i).toNat)
  case atStart => exact ⟨0, Nat.zero_le _, rfl, od.out, bd.out, gd.out⟩
  case round =>
    clear od bd gd HWD
    obtain ⟨j, hj, rfl, ⟨v, x2, x4, hO⟩, hX, hB⟩ := hrel
    obtain ⟨a6, c6, rfl, _, _⟩ := (O3.rd hO).formN (n := j) (by simp)
    have l4 := x4.lt
    have n0 := hX.c0
    have m0 := x4.c0
    have m1 := x4.c1
    have m2 := x4.c2
    by_cases hlt : j < p.n
    · have HO := Lib.hid hO
      have HX2 := Lib.hid x2
      have HX4 := Lib.hid x4
      have HXB := Lib.hid hX
      have HBW := Lib.hid hB
      have HLR : Hid ((List.replicate j (unitR m m)).length ≤ 1000000) := by show _ ≤ _; simp; omega
      have HLE : Hid ((List.replicate j (unitR m m)).length = j) := by show _ = _; simp
      clear hO x2 x4 hB hX
      go_wp2_with fail
      go_region_law (first
        | (go_simp; go_at_call 152; go_must (refine (s_l02Unit m _ (by omega)).mono ?_); rintro e w3 ⟨u3, rfl, hI3, hB3⟩; obtain ⟨a9, c9, rfl, _, _⟩ := hI3.formN (unitR_len m m); have hB4 := below_size (Below.refl _ _).drew hB3; have hI4 := local_O2.mono (S' := fun k => wr.heap.size ≤ k) hI3 (fun k _ hk => hk.1); obtain ⟨a', c', w4, hr, z1, z2, z3, z4, hM, hBM⟩ := MInv.grow local_O2 24 Try.underlying24 hri hrz0 hrz1 hrz2 HX2.out HX4.out HO.out (by omega) (by omega) (by omega) hB4 hI4 rfl HLR.out; rw [← List.replicate_succ'] at hM; rw [HLE.out] at hr hM hBM; have hB5 := HBW.out.trans (hBM.mono (by omega)); have hX5 := HXB.out.below hBM (by omega); clear hB4 hI3 hI4 hB3 hBM)
        | (refine step_of_run rfl (.tmp 21) (.tmp 24) 24 rfl _ _ (by simp [Act.eval, Act.put]) (by simp [Act.eval, Act.put]) _ _ hr ?_))
      all_goals
        clear m0 m1 m2 n0
        go_wp2_with fail
        go_roundw
        case rel => exact ⟨j + 1, by omega, by go_num, hM, hX5, hB5⟩
        case measure => simp [intOf]; omega
    · obtain rfl : j = p.n := by omega
      have p0 := x2.c0
      have p1 := x2.c1
      have p2 := x2.c2
      have q0 := x2.fr 0
      have q1 := x2.fr 1
      have q2 := x2.fr 2
      obtain ⟨hOf, hBf⟩ := set_out hB (x := .int .i64 x) (y := .int .i64 (m : Int)) (b2 := w.heap.size + 1) (by omega) (by omega) hO
      have HOf := Lib.hid hOf
      have HBf := Lib.hid hBf
      clear hOf hBf hO hB x2 x4 hX
      go_wp2_with fail
      refine bodyPost_ret (v := .agg #[.int .i64 x, .int .i64 (m : Int), .slice a6 p.n c6]) (by simp [results, Try.results90, go_sem, p0, p1, p2]) rfl ⟨_, rfl, HOf.out, HBf.out⟩
--== spec.TrivialModule
set_option maxHeartbeats 8000000 in
theorem s_TrivialModule (v1 v2 v3 : Value) (p : Pres) (x y : Int) (w : World) (hp : RdP w v1 v2 v3 p) :
    Calls Try.prog 26 #[.agg #[v1, v2, v3], .int .i64 x, .int .i64 y] w (RetMod w (tmX p x y) (tmY p x y) (tmD p x y) (tmC p x y)) := by
  have HP := Lib.hid hp
  obtain ⟨ao1, cap1, rfl, _, _⟩ := hp.1.formN (n := p.n) rfl
  obtain ⟨ao2, cap2, rfl, _, _⟩ := hp.2.1.form
  obtain ⟨ao3, cap3, rfl, _, _⟩ := hp.2.2.form
  have G0 := Lib.hid (below_allocs2 w (Obj.cells #[Value.slice ao1 p.n cap1, Value.slice ao2 p.powers.length cap2, Value.slice ao3 p.conj.length cap3] 28) (Obj.cells #[.int .i64 0, .int .i64 0, .slice none 0 0] 42))
  have b0 := (Bx.new w (Value.slice ao1 p.n cap1) (Value.slice ao2 p.powers.length cap2) (Value.slice ao3 p.conj.length cap3)).old (Obj.cells #[.int .i64 0, .int .i64 0, .slice none 0 0] 42)
  have x0 := Bt.new 42 (w.alloc (Obj.cells #[Value.slice ao1 p.n cap1, Value.slice ao2 p.powers.length cap2, Value.slice ao3 p.conj.length cap3] 28)) (.int .i64 0) (.int .i64 0) (.slice none 0 0)
  rw [show (w.alloc (Obj.cells #[Value.slice ao1 p.n cap1, Value.slice ao2 p.powers.length cap2, Value.slice ao3 p.conj.length cap3] 28)).heap.size = w.heap.size + 1 by simp] at x0
  have HB0 := Lib.hid b0
  have HX0 := Lib.hid x0
  clear hp b0 x0
  by_cases hc : conB p = true
  case neg =>
    have hc' : conB p = false := by simpa using hc
    have HT := Lib.hid (tm_1 x y hc')
    obtain ⟨e1, e2, e3⟩ := tm_ne (x := x) (y := y) (p := p) (by rw [HT.out]; omega)
    rw [e1, e2, e3, HT.out]
    clear hc e1 e2 e3
    go_enter Try.func26, Try.ntmps26
    go_wp2_with fail
    refine (s_l08Group p _ _ _ _ (HP.out.below G0.out)).mono ?_
    rintro e w1 ⟨rfl, hb⟩
    have g1 := below_size G0.out hb
    have x1 := HX0.out.below hb HX0.out.lt
    have p0 := x1.c0
    have p1 := x1.c1
    have p2 := x1.c2
    have q0 := x1.fr 0
    have q1 := x1.fr 1
    have q2 := x1.fr 2
    have l1 := x1.lt
    rw [hc']
    clear hb hc'
    go_wp2_with fail
    refine bodyPost_ret (v := .tuple #[.agg #[.int .i64 0, .int .i64 0, .slice none 0 0], .int .i64 1]) (by simp [results, Try.results26, go_sem, p0, p1, p2]) rfl ⟨_, rfl, local_O3.nil _ _, ?_⟩
    exact ((g1.setCell (p := ⟨w.heap.size + 1, 0, none⟩) (by simp) _).setCell (p := ⟨w.heap.size + 1, 1, none⟩) (by simp) _).setCell (p := ⟨w.heap.size + 1, 2, none⟩) (by simp) _
  have hn6 := (conB_true hc).1.n6
  by_cases hx : primeB x = true
  case neg =>
    have hx' : primeB x = false := by simpa using hx
    have HT := Lib.hid (tm_2 y hc hx')
    obtain ⟨e1, e2, e3⟩ := tm_ne (x := x) (y := y) (p := p) (by rw [HT.out]; omega)
    rw [e1, e2, e3, HT.out]
    clear hx e1 e2 e3
    go_enter Try.func26, Try.ntmps26
    go_wp2_with fail
    refine (s_l08Group p _ _ _ _ (HP.out.below G0.out)).mono ?_
    rintro e w1 ⟨rfl, hb⟩
    have g1 := below_size G0.out hb
    have x1 := HX0.out.below hb HX0.out.lt
    have p0 := x1.c0
    have p1 := x1.c1
    have p2 := x1.c2
    have q0 := x1.fr 0
    have q1 := x1.fr 1
    have q2 := x1.fr 2
    have l1 := x1.lt
    rw [hc]
    clear hb hc
    go_wp2_with fail
    refine (s_l01Prime x w1).mono ?_
    rintro e w' ⟨rfl, rfl⟩
    rw [hx']
    clear hx'
    go_wp2_with fail
    refine bodyPost_ret (v := .tuple #[.agg #[.int .i64 0, .int .i64 0, .slice none 0 0], .int .i64 2]) (by simp [results, Try.results26, go_sem, p0, p1, p2]) rfl ⟨_, rfl, local_O3.nil _ _, ?_⟩
    exact ((g1.setCell (p := ⟨w.heap.size + 1, 0, none⟩) (by simp) _).setCell (p := ⟨w.heap.size + 1, 1, none⟩) (by simp) _).setCell (p := ⟨w.heap.size + 1, 2, none⟩) (by simp) _
  by_cases hy : inB y 1 3 = true
  case neg =>
    have hy' : inB y 1 3 = false := by simpa using hy
    have HT := Lib.hid (tm_3 hc hx hy')
    obtain ⟨e1, e2, e3⟩ := tm_ne (x := x) (y := y) (p := p) (by rw [HT.out]; omega)
    rw [e1, e2, e3, HT.out]
    clear hy e1 e2 e3
    go_enter Try.func26, Try.ntmps26
    go_wp2_with fail
    refine (s_l08Group p _ _ _ _ (HP.out.below G0.out)).mono ?_
    rintro e w1 ⟨rfl, hb⟩
    have g1 := below_size G0.out hb
    have x1 := HX0.out.below hb HX0.out.lt
    have p0 := x1.c0
    have p1 := x1.c1
    have p2 := x1.c2
    have q0 := x1.fr 0
    have q1 := x1.fr 1
    have q2 := x1.fr 2
    have l1 := x1.lt
    rw [hc]
    clear hb hc
    go_wp2_with fail
    refine (s_l01Prime x w1).mono ?_
    rintro e w' ⟨rfl, rfl⟩
    rw [hx]
    clear hx
    go_wp2_with fail
    refine (s_l01In y 1 3 w1).mono ?_
    rintro e w' ⟨rfl, rfl⟩
    rw [hy']
    clear hy'
    go_wp2_with fail
    refine bodyPost_ret (v := .tuple #[.agg #[.int .i64 0, .int .i64 0, .slice none 0 0], .int .i64 2]) (by simp [results, Try.results26, go_sem, p0, p1, p2]) rfl ⟨_, rfl, local_O3.nil _ _, ?_⟩
    exact ((g1.setCell (p := ⟨w.heap.size + 1, 0, none⟩) (by simp) _).setCell (p := ⟨w.heap.size + 1, 1, none⟩) (by simp) _).setCell (p := ⟨w.heap.size + 1, 2, none⟩) (by simp) _
  have HT := Lib.hid (tm_0 hc hx hy)
  obtain ⟨e1, e2, e3⟩ := tm_z HT.out
  rw [e1, e2, e3, HT.out]
  obtain ⟨y1, y3⟩ := inB_true.1 hy
  obtain ⟨m, rfl⟩ : ∃ m : Nat, y = (m : Int) := ⟨y.toNat, by omega⟩
  have hm3 : m ≤ 3 := by omega
  rw [Int.toNat_natCast]
  clear e1 e2 e3
  go_enter Try.func26, Try.ntmps26
  go_wp2_with fail
  refine (s_l08Group p _ _ _ _ (HP.out.below G0.out)).mono ?_
  rintro e w1 ⟨rfl, hb⟩
  have g1 := below_size G0.out hb
  have x1 := HX0.out.below hb HX0.out.lt
  have b1 := HB0.out.below hb HB0.out.lt
  rw [hc]
  clear hb hc
  go_wp2_with fail
  refine (s_l01Prime x w1).mono ?_
  rintro e w' ⟨rfl, rfl⟩
  rw [hx]
  clear hx
  go_wp2_with fail
  refine (s_l01In (m : Int) 1 3 w1).mono ?_
  rintro e w' ⟨rfl, rfl⟩
  rw [hy]
  clear hy
  have m0 := b1.c0
  have m1 := b1.c1
  have m2 := b1.c2
  go_wp2_with fail
  refine (s_l21Trivial _ _ _ p x m w1 (HP.out.below g1) hn6 hm3).mono ?_
  rintro e w2 ⟨v, rfl, hO, hb⟩
  have g2 := below_size g1 hb
  have x2 := x1.below hb x1.lt
  have p0 := x2.c0
  have p1 := x2.c1
  have p2 := x2.c2
  have q0 := x2.fr 0
  have q1 := x2.fr 1
  have q2 := x2.fr 2
  have l2 := x2.lt
  have l1 := x1.lt
  obtain ⟨a6, c6, rfl, _, _⟩ := (O3.rd hO).formN (n := p.n) (by simp)
  obtain ⟨hOf, hBf⟩ := set_out g2 (x := .int .i64 x) (y := .int .i64 (m : Int)) (b2 := w.heap.size + 1) (b4 := w.heap.size + 1) (Nat.le_refl _) (by omega) (local_O3.mono (S' := fun k => w.heap.size ≤ k ∧ k ≠ w.heap.size + 1 ∧ k ≠ w.heap.size + 1) hO (fun k _ hk => ⟨by have := hk.1; omega, by have := hk.1; omega, by have := hk.1; omega⟩))
  have HOf := Lib.hid hOf
  have HBf := Lib.hid hBf
  clear hOf hBf hO hb m0 m1 m2 x1 b1
  go_wp2_with fail
  refine bodyPost_ret (v := .tuple #[.agg #[.int .i64 x, .int .i64 (m : Int), .slice a6 p.n c6], .int .i64 0]) (by simp [results, Try.results26, go_sem, p0, p1, p2]) rfl ⟨_, rfl, HOf.out, HBf.out⟩
--== laws.eqModule
set_option maxHeartbeats 2000000 in
theorem l_eqModule (x y : Int) (v u : Value) (d : List (List (List Int))) (w : World) (hv : Rd3 w v d) (hu : Rd3 w u d) :
    Calls Try.prog 28 #[.agg #[.int .i64 x, .int .i64 y, v], .agg #[.int .i64 x, .int .i64 y, u]] w (RetV w (.bool true)) := by
  have HV := Lib.hid hv
  have HU := Lib.hid hu
  obtain ⟨a1, c1, rfl, _, _⟩ := hv.form
  obtain ⟨a2, c2, rfl, _, _⟩ := hu.form
  clear hv hu
  have G0 := Lib.hid (below_allocs2 w (Obj.cells #[.int .i64 x, .int .i64 y, .slice a1 d.length c1] 42) (Obj.cells #[.int .i64 x, .int .i64 y, .slice a2 d.length c2] 42))
  go_enter Try.func28, Try.ntmps28
  go_wp2_with fail
  refine (l_eqInt64SSS_same _ _ d _ (HV.out.below G0.out) (HU.out.below G0.out)).mono ?_
  rintro e w1 ⟨rfl, hb⟩
  have g1 := below_size G0.out hb
  clear hb
  go_wp2_with fail
  go_ret
  exact ⟨rfl, g1⟩
def msize (d : List (List (List Int))) : Nat := d.length + tot3 d + tots d
--== laws.markModule
set_option maxHeartbeats 2000000 in
theorem l_markModule (S : Nat → Prop) (x y : Int) (v : Value) (d : List (List (List Int))) (k : Int) (w : World) (hv : O3 w S v d) (hk0 : 0 ≤ k) (hk1 : k ≤ 10000000000) (hs : msize d ≤ 1000000000) :
    Calls Try.prog 29 #[.agg #[.int .i64 x, .int .i64 y, v], .int .i64 k] w fun e w' => e = .returned (.int .i64 (k + tot3 d)) ∧ O3 w' S v (M3 k d d.length) ∧ ChgS S w w' := by
  have HV := Lib.hid hv
  obtain ⟨a1, c1, rfl, _, _⟩ := (O3.rd hv).form
  obtain ⟨s1, s2, s3⟩ : d.length ≤ 1000000000 ∧ tot3 d ≤ 1000000000 ∧ tots d ≤ 1000000000 := by unfold msize at hs; omega
  clear hv hs
  go_enter Try.func29, Try.ntmps29
  go_wp2_with fail
  refine (l_markInt64SSS _ _ d k _ (local_O3.below (local_O3.cut HV.out) (below_alloc _ _)) hk0 hk1 s1 s2 s3).mono ?_
  rintro e w1 ⟨rfl, hO, hC, hz⟩
  have hO2 := local_O3.mono hO (S' := S) fun _ _ hk => hk.1
  have hC2 : ChgS S w w1 := (ChgS.of_below S (below_alloc w (Obj.cells #[.int .i64 x, .int .i64 y, .slice a1 d.length c1] 42))).trans hC (fun _ h => h) (fun _ h => h.1)
  clear hO hC hz
  go_wp2_with fail
  go_ret
  exact ⟨rfl, hO2, hC2⟩
--== laws.heldModule
set_option maxHeartbeats 2000000 in
theorem l_heldModule (x y : Int) (v : Value) (d : List (List (List Int))) (k : Int) (w : World) (hv : Rd3 w v (M3 k d d.length)) (hk0 : 0 ≤ k) (hk1 : k ≤ 10000000000) (hs : msize d ≤ 1000000000) :
    Calls Try.prog 30 #[.agg #[.int .i64 x, .int .i64 y, v], .int .i64 k] w (RetV w (.int .i64 (k + tot3 d))) := by
  have HV := Lib.hid hv
  obtain ⟨a1, c1, rfl, _, _⟩ := hv.form
  have s2 : tot3 d ≤ 1000000000 := by unfold msize at hs; omega
  clear hv hs
  have G0 := Lib.hid (below_alloc w (Obj.cells #[.int .i64 x, .int .i64 y, .slice a1 (M3 k d d.length).length c1] 42))
  go_enter Try.func30, Try.ntmps30
  go_wp2_with fail
  refine (l_heldInt64SSS _ d k _ (HV.out.below G0.out) hk0 hk1 s2).mono ?_
  rintro e w1 ⟨rfl, hw⟩
  have g1 : Below w.heap.size w w1 := hw ▸ G0.out
  clear hw
  go_wp2_with fail
  go_ret
  exact ⟨rfl, g1⟩
theorem msize_units : ∀ n ≤ 6, ∀ m ≤ 3, msize (List.replicate n (unitR m m)) ≤ 1000000000 := by decide +kernel
theorem len_TrivialModule (p : Pres) (x y : Int) : msize (tmD p x y) ≤ 1000000000 := by
  unfold tmD tmC
  by_cases hc : conB p = true
  · have hn6 := (conB_true hc).1.n6
    by_cases hx : primeB x = true
    · by_cases hy : inB y 1 3 = true
      · obtain ⟨y1, y3⟩ := inB_true.1 hy
        rw [if_pos hc, if_pos hx, if_pos hy, if_pos rfl]
        exact msize_units _ hn6 _ (by omega)
      · rw [if_pos hc, if_pos hx, if_neg hy, if_neg (by omega)]; decide
    · rw [if_pos hc, if_neg hx, if_neg (by omega)]; decide
  · rw [if_neg hc, if_neg (by omega)]; decide
end Go.Proofs.Ytjnnjnhmecidmaa
