/-
  Products, inverses of elements, as they are asked for.
-/
import Derived.Test.YtflchdggonokdaaElm
namespace Go.Proofs.Ytflchdggonokdaa
set_option linter.unusedVariables false
set_option linter.unusedSimpArgs false
set_option maxRecDepth 100000
open Go.RowKit

--== impl.Multiply
set_option maxHeartbeats 2000000 in
theorem i_Multiply (v1 v2 v3 : Value) (p : Pres) (vx : Value) (x : List Int) (vy : Value) (y : List Int) (w : World) (hp : RdP w v1 v2 v3 p) (hx : Rd w vx x) (hy : Rd w vy y) :
    Calls Try.prog 43 #[.agg #[v1, v2, v3], vx, vy] w (RetInts2 w (okX (elsB p [x, y]) (p.at 0 x y)) (cod1 (elsB p [x, y]))) := by
  have HP := Lib.hid hp
  obtain ⟨ao1, cap1, rfl, _, _⟩ := hp.1.form
  obtain ⟨ao2, cap2, rfl, _, _⟩ := hp.2.1.form
  obtain ⟨ao3, cap3, rfl, _, _⟩ := hp.2.2.form
  have g0 := below_alloc w (Obj.cells #[Value.slice ao1 p.orders.length cap1, Value.slice ao2 p.powers.length cap2, Value.slice ao3 p.conj.length cap3] 30)
  obtain ⟨ax, cx, rfl, _, _⟩ := hx.form
  obtain ⟨ay, cy, rfl, _, _⟩ := hy.form
  have PT := Lib.hid (PtrP.boxed hp)
  have hl := Rd2.lit2 22 _ _ x y (hx.below g0) (hy.below g0)
  have hsz : (w.alloc (Obj.cells #[Value.slice ao1 p.orders.length cap1, Value.slice ao2 p.powers.length cap2, Value.slice ao3 p.conj.length cap3] 30)).heap.size = w.heap.size + 1 := by simp
  rw [hsz] at hl
  have HL := Lib.hid hl
  have g1 := ball g0 (Obj.cells #[.slice ax x.length cx, .slice ay y.length cy] 22)
  have PT1 := Lib.hid (PT.out.below (below_alloc _ (Obj.cells #[.slice ax x.length cx, .slice ay y.length cy] 22)))
  have Hx := Lib.hid hx
  have Hy := Lib.hid hy
  clear hp hl hsz hx hy
  by_cases hE : elsB p [x, y] = true
  case neg =>
    have hE' : elsB p [x, y] = false := by simpa using hE
    rw [hE']
    clear hE
    go_enter Try.func43, Try.ntmps43
    go_wp2_with fail
    refine (i_areElements _ _ p [x, y] _ PT1.out HL.out (by simp)).mono ?_
    rintro e w2 ⟨rfl, hb⟩
    have g2 := below_size g1 hb
    have PT2 := PT1.out.below hb
    rw [hE']
    clear hb hE'
    go_wp2_with fail
    go_ret2
    exact ⟨_, rfl, Ints.nil _ _, g2⟩
  obtain ⟨hc, hall⟩ := elsB_true hE
  obtain ⟨hV, hG⟩ := conB_true hc
  have kx := tail_VI (hall x (by simp))
  have ky := tail_VI (hall y (by simp))
  have HV := Lib.hid hV
  have HG := Lib.hid hG
  have Kx := Lib.hid kx
  have Ky := Lib.hid ky
  clear hc hall hV hG kx ky
  rw [hE]
  go_enter Try.func43, Try.ntmps43
  go_wp2_with fail
  refine (i_areElements _ _ p [x, y] _ PT1.out HL.out (by simp)).mono ?_
  rintro e w2 ⟨rfl, hb⟩
  have g2 := below_size g1 hb
  have PT2 := PT1.out.below hb
  rw [hE]
  clear hb hE
  go_wp2_with fail
  refine (i_multiply _ _ _ p 0 x y _ PT2 HV.out HG.out (Hx.out.below g2) (Hy.out.below g2) Kx.out Ky.out).mono ?_
  rintro e w3 ⟨u, rfl, hI, hB⟩
  have g3 := below_size g2 hB
  have hI2 := hI.mono g2.size
  clear hI hB PT2
  go_wp2_with fail
  go_ret2
  exact ⟨_, rfl, hI2, g3⟩
--== spec.Multiply
set_option maxHeartbeats 4000000 in
theorem s_Multiply (v1 v2 v3 : Value) (p : Pres) (vx : Value) (x : List Int) (vy : Value) (y : List Int) (w : World) (hp : RdP w v1 v2 v3 p) (hx : Rd w vx x) (hy : Rd w vy y) :
    Calls Try.prog 42 #[.agg #[v1, v2, v3], vx, vy] w (RetInts2 w (okX (elsB p [x, y]) (p.at 0 x y)) (cod1 (elsB p [x, y]))) := by
  have HP := Lib.hid hp
  obtain ⟨ao1, cap1, rfl, _, _⟩ := hp.1.form
  obtain ⟨ao2, cap2, rfl, _, _⟩ := hp.2.1.form
  obtain ⟨ao3, cap3, rfl, _, _⟩ := hp.2.2.form
  have g0 := below_alloc w (Obj.cells #[Value.slice ao1 p.orders.length cap1, Value.slice ao2 p.powers.length cap2, Value.slice ao3 p.conj.length cap3] 30)
  have Hx := Lib.hid hx
  have Hy := Lib.hid hy
  clear hp hx hy
  rw [elsB_two]
  by_cases hc : conB p = true
  case neg =>
    have hc' : conB p = false := by simpa using hc
    rw [hc']
    clear hc
    go_enter Try.func42, Try.ntmps42
    go_wp2_with fail
    refine (s_l08Group p _ _ _ _ (HP.out.below g0)).mono ?_
    rintro e w1 ⟨rfl, hb⟩
    have g1 := below_size g0 hb
    obtain ⟨c1, f1⟩ := bcell hb
    have z1 : w.heap.size < w1.heap.size := by have := hb.size; simp at this; omega
    rw [hc']
    clear hb hc'
    go_wp2_with fail
    go_ret2
    exact ⟨_, rfl, Ints.nil _ _, g1⟩
  have HO := Lib.hid (conB_ord hc)
  obtain ⟨hV, hG⟩ := conB_true hc
  have HV := Lib.hid hV
  have HG := Lib.hid hG
  clear hV hG
  rw [hc]
  by_cases tx : tailB p.orders x 0 = true
  case neg =>
    have tx' : tailB p.orders x 0 = false := by simpa using tx
    rw [tx']
    clear tx
    go_enter Try.func42, Try.ntmps42
    go_wp2_with fail
    refine (s_l08Group p _ _ _ _ (HP.out.below g0)).mono ?_
    rintro e w1 ⟨rfl, hb⟩
    have g1 := below_size g0 hb
    obtain ⟨c1, f1⟩ := bcell hb
    have z1 : w.heap.size < w1.heap.size := by have := hb.size; simp at this; omega
    rw [hc]
    clear hb hc
    go_wp2_with fail
    refine (s_l10Element _ _ _ _ p x _ (HP.out.below g1) (Hx.out.below g1) HO.out).mono ?_
    rintro e w2 ⟨rfl, hb⟩
    have g2 := below_size g1 hb
    obtain ⟨c2, f2⟩ := bcell hb
    have z2 : w.heap.size < w2.heap.size := by have := hb.size; omega
    rw [tx']
    clear hb tx'
    go_wp2_with fail
    go_ret2
    exact ⟨_, rfl, Ints.nil _ _, g2⟩
  have Kx := Lib.hid (tail_VI tx)
  rw [tx]
  by_cases ty : tailB p.orders y 0 = true
  case neg =>
    have ty' : tailB p.orders y 0 = false := by simpa using ty
    rw [ty']
    clear ty
    go_enter Try.func42, Try.ntmps42
    go_wp2_with fail
    refine (s_l08Group p _ _ _ _ (HP.out.below g0)).mono ?_
    rintro e w1 ⟨rfl, hb⟩
    have g1 := below_size g0 hb
    obtain ⟨c1, f1⟩ := bcell hb
    have z1 : w.heap.size < w1.heap.size := by have := hb.size; simp at this; omega
    rw [hc]
    clear hb hc
    go_wp2_with fail
    refine (s_l10Element _ _ _ _ p x _ (HP.out.below g1) (Hx.out.below g1) HO.out).mono ?_
    rintro e w2 ⟨rfl, hb⟩
    have g2 := below_size g1 hb
    obtain ⟨c2, f2⟩ := bcell hb
    have z2 : w.heap.size < w2.heap.size := by have := hb.size; omega
    rw [tx]
    clear hb tx
    go_wp2_with fail
    refine (s_l10Element _ _ _ _ p y _ (HP.out.below g2) (Hy.out.below g2) HO.out).mono ?_
    rintro e w3 ⟨rfl, hb⟩
    have g3 := below_size g2 hb
    obtain ⟨c3, f3⟩ := bcell hb
    have z3 : w.heap.size < w3.heap.size := by have := hb.size; omega
    rw [ty']
    clear hb ty'
    go_wp2_with fail
    go_ret2
    exact ⟨_, rfl, Ints.nil _ _, g3⟩
  have Ky := Lib.hid (tail_VI ty)
  rw [ty]
  go_enter Try.func42, Try.ntmps42
  go_wp2_with fail
  refine (s_l08Group p _ _ _ _ (HP.out.below g0)).mono ?_
  rintro e w1 ⟨rfl, hb⟩
  have g1 := below_size g0 hb
  obtain ⟨c1, f1⟩ := bcell hb
  have z1 : w.heap.size < w1.heap.size := by have := hb.size; simp at this; omega
  rw [hc]
  clear hb hc
  go_wp2_with fail
  refine (s_l10Element _ _ _ _ p x _ (HP.out.below g1) (Hx.out.below g1) HO.out).mono ?_
  rintro e w2 ⟨rfl, hb⟩
  have g2 := below_size g1 hb
  obtain ⟨c2, f2⟩ := bcell hb
  have z2 : w.heap.size < w2.heap.size := by have := hb.size; omega
  rw [tx]
  clear hb tx
  go_wp2_with fail
  refine (s_l10Element _ _ _ _ p y _ (HP.out.below g2) (Hy.out.below g2) HO.out).mono ?_
  rintro e w3 ⟨rfl, hb⟩
  have g3 := below_size g2 hb
  obtain ⟨c3, f3⟩ := bcell hb
  have z3 : w.heap.size < w3.heap.size := by have := hb.size; omega
  rw [ty]
  clear hb ty
  go_wp2_with fail
  refine (s_l08Mul HV.out x y _ _ _ _ _ _ (HP.out.below g3) (Hx.out.below g3) (Hy.out.below g3) Kx.out Ky.out).mono ?_
  rintro e w4 ⟨u, rfl, hI, hB⟩
  have g4 := below_size g3 hB
  have hI2 := hI.mono g3.size
  clear hI hB
  go_wp2_with fail
  go_ret2
  exact ⟨_, rfl, hI2, g4⟩
--== impl.Inverse
set_option maxHeartbeats 2000000 in
theorem i_Inverse (v1 v2 v3 : Value) (p : Pres) (vx : Value) (x : List Int) (w : World) (hp : RdP w v1 v2 v3 p) (hx : Rd w vx x) :
    Calls Try.prog 45 #[.agg #[v1, v2, v3], vx] w (RetInts2 w (okX (elsB p [x]) (p.inv 0 x)) (cod1 (elsB p [x]))) := by
  have HP := Lib.hid hp
  obtain ⟨ao1, cap1, rfl, _, _⟩ := hp.1.form
  obtain ⟨ao2, cap2, rfl, _, _⟩ := hp.2.1.form
  obtain ⟨ao3, cap3, rfl, _, _⟩ := hp.2.2.form
  have g0 := below_alloc w (Obj.cells #[Value.slice ao1 p.orders.length cap1, Value.slice ao2 p.powers.length cap2, Value.slice ao3 p.conj.length cap3] 30)
  obtain ⟨ax, cx, rfl, _, _⟩ := hx.form
  have PT := Lib.hid (PtrP.boxed hp)
  have hl := Rd2.lit1 22 _ x (hx.below g0)
  have hsz : (w.alloc (Obj.cells #[Value.slice ao1 p.orders.length cap1, Value.slice ao2 p.powers.length cap2, Value.slice ao3 p.conj.length cap3] 30)).heap.size = w.heap.size + 1 := by simp
  rw [hsz] at hl
  have HL := Lib.hid hl
  have g1 := ball g0 (Obj.cells #[.slice ax x.length cx] 22)
  have PT1 := Lib.hid (PT.out.below (below_alloc _ (Obj.cells #[.slice ax x.length cx] 22)))
  have Hx := Lib.hid hx
  clear hp hl hsz hx
  by_cases hE : elsB p [x] = true
  case neg =>
    have hE' : elsB p [x] = false := by simpa using hE
    rw [hE']
    clear hE
    go_enter Try.func45, Try.ntmps45
    go_wp2_with fail
    refine (i_areElements _ _ p [x] _ PT1.out HL.out (by simp)).mono ?_
    rintro e w2 ⟨rfl, hb⟩
    have g2 := below_size g1 hb
    have PT2 := PT1.out.below hb
    rw [hE']
    clear hb hE'
    go_wp2_with fail
    go_ret2
    exact ⟨_, rfl, Ints.nil _ _, g2⟩
  obtain ⟨hc, hall⟩ := elsB_true hE
  obtain ⟨hV, hG⟩ := conB_true hc
  have kx := tail_VI (hall x (by simp))
  have HV := Lib.hid hV
  have HG := Lib.hid hG
  have Kx := Lib.hid kx
  clear hc hall hV hG kx
  rw [hE]
  go_enter Try.func45, Try.ntmps45
  go_wp2_with fail
  refine (i_areElements _ _ p [x] _ PT1.out HL.out (by simp)).mono ?_
  rintro e w2 ⟨rfl, hb⟩
  have g2 := below_size g1 hb
  have PT2 := PT1.out.below hb
  rw [hE]
  clear hb hE
  go_wp2_with fail
  refine (i_invert _ _ p 0 x _ PT2 HV.out HG.out (Hx.out.below g2) Kx.out).mono ?_
  rintro e w3 ⟨u, rfl, hI, hB⟩
  have g3 := below_size g2 hB
  have hI2 := hI.mono g2.size
  clear hI hB PT2
  go_wp2_with fail
  go_ret2
  exact ⟨_, rfl, hI2, g3⟩
--== spec.Inverse
set_option maxHeartbeats 2000000 in
theorem s_Inverse (v1 v2 v3 : Value) (p : Pres) (vx : Value) (x : List Int) (w : World) (hp : RdP w v1 v2 v3 p) (hx : Rd w vx x) :
    Calls Try.prog 44 #[.agg #[v1, v2, v3], vx] w (RetInts2 w (okX (elsB p [x]) (p.inv 0 x)) (cod1 (elsB p [x]))) := by
  have HP := Lib.hid hp
  obtain ⟨ao1, cap1, rfl, _, _⟩ := hp.1.form
  obtain ⟨ao2, cap2, rfl, _, _⟩ := hp.2.1.form
  obtain ⟨ao3, cap3, rfl, _, _⟩ := hp.2.2.form
  have g0 := below_alloc w (Obj.cells #[Value.slice ao1 p.orders.length cap1, Value.slice ao2 p.powers.length cap2, Value.slice ao3 p.conj.length cap3] 30)
  have Hx := Lib.hid hx
  clear hp hx
  by_cases hE : elsB p [x] = true
  case neg =>
    have hE' : elsB p [x] = false := by simpa using hE
    rw [hE']
    clear hE
    go_enter Try.func44, Try.ntmps44
    go_wp2_with fail
    refine (s_IsElement _ _ _ p _ x _ (HP.out.below g0) (Hx.out.below g0)).mono ?_
    rintro e w2 ⟨rfl, hb⟩
    have g2 := below_size g0 hb
    obtain ⟨c1, f1⟩ := bcell hb
    have z1 : w.heap.size < w2.heap.size := by have := hb.size; simp at this; omega
    rw [hE']
    clear hb hE'
    go_wp2_with fail
    go_ret2
    exact ⟨_, rfl, Ints.nil _ _, g2⟩
  obtain ⟨hc, hall⟩ := elsB_true hE
  obtain ⟨hV, hG⟩ := conB_true hc
  have kx := tail_VI (hall x (by simp))
  have HV := Lib.hid hV
  have HG := Lib.hid hG
  have Kx := Lib.hid kx
  clear hc hall hV hG kx
  rw [hE]
  go_enter Try.func44, Try.ntmps44
  go_wp2_with fail
  refine (s_IsElement _ _ _ p _ x _ (HP.out.below g0) (Hx.out.below g0)).mono ?_
  rintro e w2 ⟨rfl, hb⟩
  have g2 := below_size g0 hb
  obtain ⟨c1, f1⟩ := bcell hb
  have z1 : w.heap.size < w2.heap.size := by have := hb.size; simp at this; omega
  rw [hE]
  clear hb hE
  go_wp2_with fail
  refine (s_l10Inv HV.out HG.out x _ _ _ _ _ (HP.out.below g2) (Hx.out.below g2) Kx.out).mono ?_
  rintro e w3 ⟨u, rfl, hI, hB⟩
  have g3 := below_size g2 hB
  have hI2 := hI.mono g2.size
  clear hI hB
  go_wp2_with fail
  go_ret2
  exact ⟨_, rfl, hI2, g3⟩
--== lengths
theorem len_els {p : Pres} {xss : List (List Int)} {R : List Int} (h : elsB p xss = true → R.length = p.n) : (okX (elsB p xss) R).length ≤ 1000000000 := by
  unfold okX
  by_cases hE : elsB p xss = true
  · rw [hE, if_pos rfl, h hE]
    have := (conB_true (elsB_true hE).1).1.n6
    omega
  · rw [if_neg hE]; simp
theorem len_Multiply (p : Pres) (x y : List Int) : (okX (elsB p [x, y]) (p.at 0 x y)).length ≤ 1000000000 := len_els fun h => by
  obtain ⟨hc, ha⟩ := elsB_true h
  exact ((conB_true hc).2.at (tail_VI (ha x (by simp))) (tail_VI (ha y (by simp)))).len
theorem len_Inverse (p : Pres) (x : List Int) : (okX (elsB p [x]) (p.inv 0 x)).length ≤ 1000000000 := len_els fun h => by
  obtain ⟨hc, ha⟩ := elsB_true h
  exact ((conB_true hc).2.inv (tail_VI (ha x (by simp)))).len
end Go.Proofs.Ytflchdggonokdaa
