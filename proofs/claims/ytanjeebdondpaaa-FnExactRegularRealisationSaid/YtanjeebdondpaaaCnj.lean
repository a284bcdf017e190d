/-
  Conjugates and commutators of elements, as they are asked for.
-/
import Derived.Test.YtanjeebdondpaaaMul
import Derived.Test.YtanjeebdondpaaaPer
namespace Go.Proofs.Ytanjeebdondpaaa
set_option linter.unusedVariables false
set_option linter.unusedSimpArgs false
set_option maxRecDepth 100000
open Go.RowKit

--== impl.commutator
set_option maxHeartbeats 1000000 in
theorem i_commutator (vp va vb : Value) (p : Pres) (a b : List Int) (w : World) (hp : PtrP w vp p) (hV : ValidP p) (hG : GT p 0) (ha : Rd w va a) (hb : Rd w vb b) (ka : VI p 0 a) (kb : VI p 0 b) :
    Calls Try.prog 74 #[vp, va, vb] w (RetInts w (p.at 0 (p.inv 0 (p.at 0 b a)) (p.at 0 a b))) := by
  have HE := Lib.hid (comm_eq hG ka kb)
  go_enter Try.func74, Try.ntmps74
  go_wp2_with fail
  refine (i_invert _ _ p 0 a _ hp hV hG ha ka).mono ?_
  rintro e w1 ⟨u, rfl, hI, hB⟩
  go_wp2_with fail
  refine (i_conjugate _ _ _ p 0 a b _ (hp.below hB) hV hG (ha.below hB) (hb.below hB) ka kb).mono ?_
  rintro e w2 ⟨u2, rfl, hI2, hB2⟩
  have hB3 := below_size hB hB2
  go_wp2_with fail
  refine (i_multiply _ _ _ p 0 _ _ _ (hp.below hB3) hV hG (hI.below hB2).rd hI2.rd (hG.inv ka) (hG.at (hG.inv kb) (hG.at ka kb))).mono ?_
  rintro e w4 ⟨u4, rfl, hI4, hB4⟩
  have hB5 := below_size hB3 hB4
  have hI5 := hI4.mono hB3.size
  rw [HE.out] at hI5
  clear hI hI2 hB hB2 hB3 hB4 hI4
  go_wp2_with fail
  go_ret
  exact ⟨_, rfl, hI5, hB5⟩
--== spec.l10Conj
set_option maxHeartbeats 4000000 in
theorem s_l10Conj {p : Pres} (hV : ValidP p) (hG : GT p 0) (x y : List Int) (v1 v2 v3 vx vy : Value) (w : World) (hp : RdP w v1 v2 v3 p) (hx : Rd w vx x) (hy : Rd w vy y) (kx : VI p 0 x) (ky : VI p 0 y) :
    Calls Try.prog 71 #[.agg #[v1, v2, v3], vx, vy] w (RetInts w (p.at 0 (p.inv 0 y) (p.at 0 x y))) := by
  have HP := Lib.hid hp
  obtain ⟨p1, q1, rfl, _, _⟩ := hp.1.formN (n := p.n) rfl
  obtain ⟨p2, q2, rfl, _, _⟩ := hp.2.1.formN hV.pl
  obtain ⟨p3, q3, rfl, _, _⟩ := hp.2.2.formN hV.cl
  have g0 := below_alloc w (Obj.cells #[Value.slice p1 p.n q1, Value.slice p2 p.n q2, Value.slice p3 p.n q3] 28)
  have x0 := Bx.new w (Value.slice p1 p.n q1) (Value.slice p2 p.n q2) (Value.slice p3 p.n q3)
  obtain ⟨ax, cx, rfl, _, _⟩ := hx.formN kx.len
  obtain ⟨ay, cy, rfl, _, _⟩ := hy.formN ky.len
  have HX := Lib.hid hx
  have HY := Lib.hid hy
  have KX := Lib.hid kx
  have KY := Lib.hid ky
  have HG := Lib.hid hG
  have hs0 : w.heap.size < (w.alloc (Obj.cells #[Value.slice p1 p.n q1, Value.slice p2 p.n q2, Value.slice p3 p.n q3] 28)).heap.size := by simp
  clear hp hx kx hG hy ky
  have m0 := x0.c0
  have m1 := x0.c1
  have m2 := x0.c2
  go_enter Try.func71, Try.ntmps71
  go_wp2_with fail
  generalize w.alloc (Obj.cells #[Value.slice p1 p.n q1, Value.slice p2 p.n q2, Value.slice p3 p.n q3] 28) = w1 at *
  have KEEP : Hid (∀ wx, Below w1.heap.size w1 wx → Below w1.heap.size w1 wx ∧ wx.cell? ⟨w.heap.size, 0, none⟩ = some (Value.slice p1 p.n q1) ∧ wx.cell? ⟨w.heap.size, 1, none⟩ = some (Value.slice p2 p.n q2) ∧ wx.cell? ⟨w.heap.size, 2, none⟩ = some (Value.slice p3 p.n q3)) := fun wx hb =>
    ⟨hb, below_cells hb _ _ m0, below_cells hb _ _ m1, below_cells hb _ _ m2⟩
  have HINV : Hid (∀ wx, Below w1.heap.size w1 wx → Calls Try.prog 116 #[.agg #[Value.slice p1 p.n q1, Value.slice p2 p.n q2, Value.slice p3 p.n q3], .slice ay p.n cy] wx (RetInts wx (p.inv 0 y))) := fun wx hb =>
    s_l10Inv hV HG.out y _ _ _ _ wx (HP.out.below (below_size g0 hb)) (HY.out.below (below_size g0 hb)) KY.out
  have HMUL : Hid (∀ wx, Below w1.heap.size w1 wx → Calls Try.prog 111 #[.agg #[Value.slice p1 p.n q1, Value.slice p2 p.n q2, Value.slice p3 p.n q3], .slice ax p.n cx, .slice ay p.n cy] wx (RetInts wx (p.at 0 x y))) := fun wx hb =>
    s_l08Mul hV x y _ _ _ _ _ wx (HP.out.below (below_size g0 hb)) (HX.out.below (below_size g0 hb)) (HY.out.below (below_size g0 hb)) KX.out KY.out
  have HGEN : Hid (∀ wx u v, Below w1.heap.size w1 wx → Rd wx u (p.inv 0 y) → Rd wx v (p.at 0 x y) → Calls Try.prog 111 #[.agg #[Value.slice p1 p.n q1, Value.slice p2 p.n q2, Value.slice p3 p.n q3], u, v] wx (RetInts wx (p.at 0 (p.inv 0 y) (p.at 0 x y)))) := fun wx u v hb hu hv =>
    s_l08Mul hV _ _ _ _ _ _ _ wx (HP.out.below (below_size g0 hb)) hu hv (HG.out.inv KY.out) (HG.out.at KX.out KY.out)
  have G0 := Lib.hid g0
  clear m0 m1 m2
  go_region_held3 (fun wx => Below w1.heap.size w1 wx ∧ wx.cell? ⟨w.heap.size, 0, none⟩ = some (Value.slice p1 p.n q1) ∧ wx.cell? ⟨w.heap.size, 1, none⟩ = some (Value.slice p2 p.n q2) ∧ wx.cell? ⟨w.heap.size, 2, none⟩ = some (Value.slice p3 p.n q3))
    (first | exact KEEP.out _ (Below.refl _ _).drew | exact KEEP.out _ (below_size (And.left (by assumption)) (by assumption)))
    (first
      | ((go_at_call 116); (with_reducible refine (HINV.out _ (And.left (by assumption))).mono ?_); (rintro e w2 ⟨u2, rfl, hI2, hB2⟩))
      | ((go_at_call 111); (with_reducible refine (HMUL.out _ (And.left (by assumption))).mono ?_); (rintro e w3 ⟨u3, rfl, hI3, hB3⟩))
      | ((go_at_call 111); (with_reducible refine (HGEN.out _ _ _ (And.left (by assumption)) (hI2.rd.below hB3) hI3.rd).mono ?_); (rintro e w9 ⟨u9, rfl, hI9, hB19⟩)))
  have hB9 : Below w1.heap.size w1 w9 := And.left (by assumption)
  have hB10 := below_size G0.out hB9
  have hI10 : Ints w9 w.heap.size u9 _ := hI9.mono (by have h1 := G0.out.size; have h2 := hB2.size; have h3 := hB3.size; simp at h2; omega)
  clear g0 KEEP hB9
  go_wp2_with fail
  go_ret
  exact ⟨_, rfl, hI10, hB10⟩
--== spec.l10Comm
set_option maxHeartbeats 4000000 in
theorem s_l10Comm {p : Pres} (hV : ValidP p) (hG : GT p 0) (x y : List Int) (v1 v2 v3 vx vy : Value) (w : World) (hp : RdP w v1 v2 v3 p) (hx : Rd w vx x) (hy : Rd w vy y) (kx : VI p 0 x) (ky : VI p 0 y) :
    Calls Try.prog 73 #[.agg #[v1, v2, v3], vx, vy] w (RetInts w (p.at 0 (p.inv 0 (p.at 0 y x)) (p.at 0 x y))) := by
  have HP := Lib.hid hp
  obtain ⟨p1, q1, rfl, _, _⟩ := hp.1.formN (n := p.n) rfl
  obtain ⟨p2, q2, rfl, _, _⟩ := hp.2.1.formN hV.pl
  obtain ⟨p3, q3, rfl, _, _⟩ := hp.2.2.formN hV.cl
  have g0 := below_alloc w (Obj.cells #[Value.slice p1 p.n q1, Value.slice p2 p.n q2, Value.slice p3 p.n q3] 28)
  have x0 := Bx.new w (Value.slice p1 p.n q1) (Value.slice p2 p.n q2) (Value.slice p3 p.n q3)
  obtain ⟨ax, cx, rfl, _, _⟩ := hx.formN kx.len
  obtain ⟨ay, cy, rfl, _, _⟩ := hy.formN ky.len
  have HX := Lib.hid hx
  have HY := Lib.hid hy
  have KX := Lib.hid kx
  have KY := Lib.hid ky
  have HG := Lib.hid hG
  have hs0 : w.heap.size < (w.alloc (Obj.cells #[Value.slice p1 p.n q1, Value.slice p2 p.n q2, Value.slice p3 p.n q3] 28)).heap.size := by simp
  clear hp hx kx hG hy ky
  have m0 := x0.c0
  have m1 := x0.c1
  have m2 := x0.c2
  go_enter Try.func73, Try.ntmps73
  go_wp2_with fail
  generalize w.alloc (Obj.cells #[Value.slice p1 p.n q1, Value.slice p2 p.n q2, Value.slice p3 p.n q3] 28) = w1 at *
  have KEEP : Hid (∀ wx, Below w1.heap.size w1 wx → Below w1.heap.size w1 wx ∧ wx.cell? ⟨w.heap.size, 0, none⟩ = some (Value.slice p1 p.n q1) ∧ wx.cell? ⟨w.heap.size, 1, none⟩ = some (Value.slice p2 p.n q2) ∧ wx.cell? ⟨w.heap.size, 2, none⟩ = some (Value.slice p3 p.n q3)) := fun wx hb =>
    ⟨hb, below_cells hb _ _ m0, below_cells hb _ _ m1, below_cells hb _ _ m2⟩
  have HINV : Hid (∀ wx u, Below w1.heap.size w1 wx → Rd wx u (p.at 0 y x) → Calls Try.prog 116 #[.agg #[Value.slice p1 p.n q1, Value.slice p2 p.n q2, Value.slice p3 p.n q3], u] wx (RetInts wx (p.inv 0 (p.at 0 y x)))) := fun wx u hb hu =>
    s_l10Inv hV HG.out _ _ _ _ _ wx (HP.out.below (below_size g0 hb)) hu (HG.out.at KY.out KX.out)
  have HMYX : Hid (∀ wx, Below w1.heap.size w1 wx → Calls Try.prog 111 #[.agg #[Value.slice p1 p.n q1, Value.slice p2 p.n q2, Value.slice p3 p.n q3], .slice ay p.n cy, .slice ax p.n cx] wx (RetInts wx (p.at 0 y x))) := fun wx hb =>
    s_l08Mul hV y x _ _ _ _ _ wx (HP.out.below (below_size g0 hb)) (HY.out.below (below_size g0 hb)) (HX.out.below (below_size g0 hb)) KY.out KX.out
  have HMUL : Hid (∀ wx, Below w1.heap.size w1 wx → Calls Try.prog 111 #[.agg #[Value.slice p1 p.n q1, Value.slice p2 p.n q2, Value.slice p3 p.n q3], .slice ax p.n cx, .slice ay p.n cy] wx (RetInts wx (p.at 0 x y))) := fun wx hb =>
    s_l08Mul hV x y _ _ _ _ _ wx (HP.out.below (below_size g0 hb)) (HX.out.below (below_size g0 hb)) (HY.out.below (below_size g0 hb)) KX.out KY.out
  have HGEN : Hid (∀ wx u v, Below w1.heap.size w1 wx → Rd wx u (p.inv 0 (p.at 0 y x)) → Rd wx v (p.at 0 x y) → Calls Try.prog 111 #[.agg #[Value.slice p1 p.n q1, Value.slice p2 p.n q2, Value.slice p3 p.n q3], u, v] wx (RetInts wx (p.at 0 (p.inv 0 (p.at 0 y x)) (p.at 0 x y)))) := fun wx u v hb hu hv =>
    s_l08Mul hV _ _ _ _ _ _ _ wx (HP.out.below (below_size g0 hb)) hu hv (HG.out.inv (HG.out.at KY.out KX.out)) (HG.out.at KX.out KY.out)
  have G0 := Lib.hid g0
  clear m0 m1 m2
  go_region_held3 (fun wx => Below w1.heap.size w1 wx ∧ wx.cell? ⟨w.heap.size, 0, none⟩ = some (Value.slice p1 p.n q1) ∧ wx.cell? ⟨w.heap.size, 1, none⟩ = some (Value.slice p2 p.n q2) ∧ wx.cell? ⟨w.heap.size, 2, none⟩ = some (Value.slice p3 p.n q3))
    (first | exact KEEP.out _ (Below.refl _ _).drew | exact KEEP.out _ (below_size (And.left (by assumption)) (by assumption)))
    (first
      | ((go_at_call 111); (with_reducible refine (HMYX.out _ (And.left (by assumption))).mono ?_); (rintro e w2 ⟨u2, rfl, hI2, hB2⟩))
      | ((go_at_call 116); (with_reducible refine (HINV.out _ _ (And.left (by assumption)) hI2.rd).mono ?_); (rintro e w3 ⟨u3, rfl, hI3, hB3⟩))
      | ((go_at_call 111); (with_reducible refine (HMUL.out _ (And.left (by assumption))).mono ?_); (rintro e w4 ⟨u4, rfl, hI4, hB4⟩))
      | ((go_at_call 111); (with_reducible refine (HGEN.out _ _ _ (And.left (by assumption)) (hI3.rd.below hB4) hI4.rd).mono ?_); (rintro e w9 ⟨u9, rfl, hI9, hB19⟩)))
  have hB9 : Below w1.heap.size w1 w9 := And.left (by assumption)
  have hB10 := below_size G0.out hB9
  have hI10 : Ints w9 w.heap.size u9 _ := hI9.mono (by have h1 := G0.out.size; have h2 := hB2.size; have h3 := hB3.size; have h4 := hB4.size; simp at h2; omega)
  clear g0 KEEP hB9
  go_wp2_with fail
  go_ret
  exact ⟨_, rfl, hI10, hB10⟩
--== impl.Conjugate
set_option maxHeartbeats 2000000 in
theorem i_Conjugate (v1 v2 v3 : Value) (p : Pres) (vx : Value) (x : List Int) (vy : Value) (y : List Int) (w : World) (hp : RdP w v1 v2 v3 p) (hx : Rd w vx x) (hy : Rd w vy y) :
    Calls Try.prog 27 #[.agg #[v1, v2, v3], vx, vy] w (RetInts2 w (okX (elsB p [x, y]) (p.at 0 (p.inv 0 y) (p.at 0 x y))) (cod1 (elsB p [x, y]))) := by
  have HP := Lib.hid hp
  obtain ⟨ao1, cap1, rfl, _, _⟩ := hp.1.form
  obtain ⟨ao2, cap2, rfl, _, _⟩ := hp.2.1.form
  obtain ⟨ao3, cap3, rfl, _, _⟩ := hp.2.2.form
  have g0 := below_alloc w (Obj.cells #[Value.slice ao1 p.orders.length cap1, Value.slice ao2 p.powers.length cap2, Value.slice ao3 p.conj.length cap3] 28)
  obtain ⟨ax, cx, rfl, _, _⟩ := hx.form
  obtain ⟨ay, cy, rfl, _, _⟩ := hy.form
  have PT := Lib.hid (PtrP.boxed hp)
  have hl := Rd2.lit2 22 _ _ x y (hx.below g0) (hy.below g0)
  have hsz : (w.alloc (Obj.cells #[Value.slice ao1 p.orders.length cap1, Value.slice ao2 p.powers.length cap2, Value.slice ao3 p.conj.length cap3] 28)).heap.size = w.heap.size + 1 := by simp
  rw [hsz] at hl
  have HL := Lib.hid hl
  have g1 := ball g0 (Obj.cells #[.slice ax x.length cx, .slice ay y.length cy] 22)
  have PT1 := Lib.hid (PT.out.below (below_alloc _ (Obj.cells #[.slice ax x.length cx, .slice ay y.length cy] 22)))
  have Hx := Lib.hid hx
  have Hy := Lib.hid hy
  clear hp hl hsz hx hy
  by_cases hE : elsB p [x, y] = true
  case neg =>
    have hE' : elsB p [x, y] = false := by simpa using hE
    rw [hE']
    clear hE
    go_enter Try.func27, Try.ntmps27
    go_wp2_with fail
    refine (i_areElements _ _ p [x, y] _ PT1.out HL.out (by simp)).mono ?_
    rintro e w2 ⟨rfl, hb⟩
    have g2 := below_size g1 hb
    have PT2 := PT1.out.below hb
    rw [hE']
    clear hb hE'
    go_wp2_with fail
    go_ret2
    exact ⟨_, rfl, Ints.nil _ _, g2⟩
  obtain ⟨hc, hall⟩ := elsB_true hE
  obtain ⟨hV, hG⟩ := conB_true hc
  have kx := tail_VI (hall x (by simp))
  have ky := tail_VI (hall y (by simp))
  have HV := Lib.hid hV
  have HG := Lib.hid hG
  have Kx := Lib.hid kx
  have Ky := Lib.hid ky
  clear hc hall hV hG kx ky
  rw [hE]
  go_enter Try.func27, Try.ntmps27
  go_wp2_with fail
  refine (i_areElements _ _ p [x, y] _ PT1.out HL.out (by simp)).mono ?_
  rintro e w2 ⟨rfl, hb⟩
  have g2 := below_size g1 hb
  have PT2 := PT1.out.below hb
  rw [hE]
  clear hb hE
  go_wp2_with fail
  refine (i_conjugate _ _ _ p 0 x y _ PT2 HV.out HG.out (Hx.out.below g2) (Hy.out.below g2) Kx.out Ky.out).mono ?_
  rintro e w3 ⟨u, rfl, hI, hB⟩
  have g3 := below_size g2 hB
  have hI2 := hI.mono g2.size
  clear hI hB PT2
  go_wp2_with fail
  go_ret2
  exact ⟨_, rfl, hI2, g3⟩
--== spec.Conjugate
set_option maxHeartbeats 4000000 in
theorem s_Conjugate (v1 v2 v3 : Value) (p : Pres) (vx : Value) (x : List Int) (vy : Value) (y : List Int) (w : World) (hp : RdP w v1 v2 v3 p) (hx : Rd w vx x) (hy : Rd w vy y) :
    Calls Try.prog 26 #[.agg #[v1, v2, v3], vx, vy] w (RetInts2 w (okX (elsB p [x, y]) (p.at 0 (p.inv 0 y) (p.at 0 x y))) (cod1 (elsB p [x, y]))) := by
  have HP := Lib.hid hp
  obtain ⟨ao1, cap1, rfl, _, _⟩ := hp.1.form
  obtain ⟨ao2, cap2, rfl, _, _⟩ := hp.2.1.form
  obtain ⟨ao3, cap3, rfl, _, _⟩ := hp.2.2.form
  have g0 := below_alloc w (Obj.cells #[Value.slice ao1 p.orders.length cap1, Value.slice ao2 p.powers.length cap2, Value.slice ao3 p.conj.length cap3] 28)
  have Hx := Lib.hid hx
  have Hy := Lib.hid hy
  clear hp hx hy
  rw [elsB_two]
  by_cases hc : conB p = true
  case neg =>
    have hc' : conB p = false := by simpa using hc
    rw [hc']
    clear hc
    go_enter Try.func26, Try.ntmps26
    go_wp2_with fail
    refine (s_l08Group p _ _ _ _ (HP.out.below g0)).mono ?_
    rintro e w1 ⟨rfl, hb⟩
    have g1 := below_size g0 hb
    obtain ⟨c1, f1⟩ := bcell hb
    have z1 : w.heap.size < w1.heap.size := by have := hb.size; simp at this; omega
    rw [hc']
    clear hb hc'
    go_wp2_with fail
    go_ret2
    exact ⟨_, rfl, Ints.nil _ _, g1⟩
  have HO := Lib.hid (conB_ord hc)
  obtain ⟨hV, hG⟩ := conB_true hc
  have HV := Lib.hid hV
  have HG := Lib.hid hG
  clear hV hG
  rw [hc]
  by_cases tx : tailB p.orders x 0 = true
  case neg =>
    have tx' : tailB p.orders x 0 = false := by simpa using tx
    rw [tx']
    clear tx
    go_enter Try.func26, Try.ntmps26
    go_wp2_with fail
    refine (s_l08Group p _ _ _ _ (HP.out.below g0)).mono ?_
    rintro e w1 ⟨rfl, hb⟩
    have g1 := below_size g0 hb
    obtain ⟨c1, f1⟩ := bcell hb
    have z1 : w.heap.size < w1.heap.size := by have := hb.size; simp at this; omega
    rw [hc]
    clear hb hc
    go_wp2_with fail
    refine (s_l10Element _ _ _ _ p x _ (HP.out.below g1) (Hx.out.below g1) HO.out).mono ?_
    rintro e w2 ⟨rfl, hb⟩
    have g2 := below_size g1 hb
    obtain ⟨c2, f2⟩ := bcell hb
    have z2 : w.heap.size < w2.heap.size := by have := hb.size; omega
    rw [tx']
    clear hb tx'
    go_wp2_with fail
    go_ret2
    exact ⟨_, rfl, Ints.nil _ _, g2⟩
  have Kx := Lib.hid (tail_VI tx)
  rw [tx]
  by_cases ty : tailB p.orders y 0 = true
  case neg =>
    have ty' : tailB p.orders y 0 = false := by simpa using ty
    rw [ty']
    clear ty
    go_enter Try.func26, Try.ntmps26
    go_wp2_with fail
    refine (s_l08Group p _ _ _ _ (HP.out.below g0)).mono ?_
    rintro e w1 ⟨rfl, hb⟩
    have g1 := below_size g0 hb
    obtain ⟨c1, f1⟩ := bcell hb
    have z1 : w.heap.size < w1.heap.size := by have := hb.size; simp at this; omega
    rw [hc]
    clear hb hc
    go_wp2_with fail
    refine (s_l10Element _ _ _ _ p x _ (HP.out.below g1) (Hx.out.below g1) HO.out).mono ?_
    rintro e w2 ⟨rfl, hb⟩
    have g2 := below_size g1 hb
    obtain ⟨c2, f2⟩ := bcell hb
    have z2 : w.heap.size < w2.heap.size := by have := hb.size; omega
    rw [tx]
    clear hb tx
    go_wp2_with fail
    refine (s_l10Element _ _ _ _ p y _ (HP.out.below g2) (Hy.out.below g2) HO.out).mono ?_
    rintro e w3 ⟨rfl, hb⟩
    have g3 := below_size g2 hb
    obtain ⟨c3, f3⟩ := bcell hb
    have z3 : w.heap.size < w3.heap.size := by have := hb.size; omega
    rw [ty']
    clear hb ty'
    go_wp2_with fail
    go_ret2
    exact ⟨_, rfl, Ints.nil _ _, g3⟩
  have Ky := Lib.hid (tail_VI ty)
  rw [ty]
  go_enter Try.func26, Try.ntmps26
  go_wp2_with fail
  refine (s_l08Group p _ _ _ _ (HP.out.below g0)).mono ?_
  rintro e w1 ⟨rfl, hb⟩
  have g1 := below_size g0 hb
  obtain ⟨c1, f1⟩ := bcell hb
  have z1 : w.heap.size < w1.heap.size := by have := hb.size; simp at this; omega
  rw [hc]
  clear hb hc
  go_wp2_with fail
  refine (s_l10Element _ _ _ _ p x _ (HP.out.below g1) (Hx.out.below g1) HO.out).mono ?_
  rintro e w2 ⟨rfl, hb⟩
  have g2 := below_size g1 hb
  obtain ⟨c2, f2⟩ := bcell hb
  have z2 : w.heap.size < w2.heap.size := by have := hb.size; omega
  rw [tx]
  clear hb tx
  go_wp2_with fail
  refine (s_l10Element _ _ _ _ p y _ (HP.out.below g2) (Hy.out.below g2) HO.out).mono ?_
  rintro e w3 ⟨rfl, hb⟩
  have g3 := below_size g2 hb
  obtain ⟨c3, f3⟩ := bcell hb
  have z3 : w.heap.size < w3.heap.size := by have := hb.size; omega
  rw [ty]
  clear hb ty
  go_wp2_with fail
  refine (s_l10Conj HV.out HG.out x y _ _ _ _ _ _ (HP.out.below g3) (Hx.out.below g3) (Hy.out.below g3) Kx.out Ky.out).mono ?_
  rintro e w4 ⟨u, rfl, hI, hB⟩
  have g4 := below_size g3 hB
  have hI2 := hI.mono g3.size
  clear hI hB
  go_wp2_with fail
  go_ret2
  exact ⟨_, rfl, hI2, g4⟩
--== impl.Commutator
set_option maxHeartbeats 2000000 in
theorem i_Commutator (v1 v2 v3 : Value) (p : Pres) (vx : Value) (x : List Int) (vy : Value) (y : List Int) (w : World) (hp : RdP w v1 v2 v3 p) (hx : Rd w vx x) (hy : Rd w vy y) :
    Calls Try.prog 31 #[.agg #[v1, v2, v3], vx, vy] w (RetInts2 w (okX (elsB p [x, y]) (p.at 0 (p.inv 0 (p.at 0 y x)) (p.at 0 x y))) (cod1 (elsB p [x, y]))) := by
  have HP := Lib.hid hp
  obtain ⟨ao1, cap1, rfl, _, _⟩ := hp.1.form
  obtain ⟨ao2, cap2, rfl, _, _⟩ := hp.2.1.form
  obtain ⟨ao3, cap3, rfl, _, _⟩ := hp.2.2.form
  have g0 := below_alloc w (Obj.cells #[Value.slice ao1 p.orders.length cap1, Value.slice ao2 p.powers.length cap2, Value.slice ao3 p.conj.length cap3] 28)
  obtain ⟨ax, cx, rfl, _, _⟩ := hx.form
  obtain ⟨ay, cy, rfl, _, _⟩ := hy.form
  have PT := Lib.hid (PtrP.boxed hp)
  have hl := Rd2.lit2 22 _ _ x y (hx.below g0) (hy.below g0)
  have hsz : (w.alloc (Obj.cells #[Value.slice ao1 p.orders.length cap1, Value.slice ao2 p.powers.length cap2, Value.slice ao3 p.conj.length cap3] 28)).heap.size = w.heap.size + 1 := by simp
  rw [hsz] at hl
  have HL := Lib.hid hl
  have g1 := ball g0 (Obj.cells #[.slice ax x.length cx, .slice ay y.length cy] 22)
  have PT1 := Lib.hid (PT.out.below (below_alloc _ (Obj.cells #[.slice ax x.length cx, .slice ay y.length cy] 22)))
  have Hx := Lib.hid hx
  have Hy := Lib.hid hy
  clear hp hl hsz hx hy
  by_cases hE : elsB p [x, y] = true
  case neg =>
    have hE' : elsB p [x, y] = false := by simpa using hE
    rw [hE']
    clear hE
    go_enter Try.func31, Try.ntmps31
    go_wp2_with fail
    refine (i_areElements _ _ p [x, y] _ PT1.out HL.out (by simp)).mono ?_
    rintro e w2 ⟨rfl, hb⟩
    have g2 := below_size g1 hb
    have PT2 := PT1.out.below hb
    rw [hE']
    clear hb hE'
    go_wp2_with fail
    go_ret2
    exact ⟨_, rfl, Ints.nil _ _, g2⟩
  obtain ⟨hc, hall⟩ := elsB_true hE
  obtain ⟨hV, hG⟩ := conB_true hc
  have kx := tail_VI (hall x (by simp))
  have ky := tail_VI (hall y (by simp))
  have HV := Lib.hid hV
  have HG := Lib.hid hG
  have Kx := Lib.hid kx
  have Ky := Lib.hid ky
  clear hc hall hV hG kx ky
  rw [hE]
  go_enter Try.func31, Try.ntmps31
  go_wp2_with fail
  refine (i_areElements _ _ p [x, y] _ PT1.out HL.out (by simp)).mono ?_
  rintro e w2 ⟨rfl, hb⟩
  have g2 := below_size g1 hb
  have PT2 := PT1.out.below hb
  rw [hE]
  clear hb hE
  go_wp2_with fail
  refine (i_commutator _ _ _ p x y _ PT2 HV.out HG.out (Hx.out.below g2) (Hy.out.below g2) Kx.out Ky.out).mono ?_
  rintro e w3 ⟨u, rfl, hI, hB⟩
  have g3 := below_size g2 hB
  have hI2 := hI.mono g2.size
  clear hI hB PT2
  go_wp2_with fail
  go_ret2
  exact ⟨_, rfl, hI2, g3⟩
--== spec.Commutator
set_option maxHeartbeats 4000000 in
theorem s_Commutator (v1 v2 v3 : Value) (p : Pres) (vx : Value) (x : List Int) (vy : Value) (y : List Int) (w : World) (hp : RdP w v1 v2 v3 p) (hx : Rd w vx x) (hy : Rd w vy y) :
    Calls Try.prog 30 #[.agg #[v1, v2, v3], vx, vy] w (RetInts2 w (okX (elsB p [x, y]) (p.at 0 (p.inv 0 (p.at 0 y x)) (p.at 0 x y))) (cod1 (elsB p [x, y]))) := by
  have HP := Lib.hid hp
  obtain ⟨ao1, cap1, rfl, _, _⟩ := hp.1.form
  obtain ⟨ao2, cap2, rfl, _, _⟩ := hp.2.1.form
  obtain ⟨ao3, cap3, rfl, _, _⟩ := hp.2.2.form
  have g0 := below_alloc w (Obj.cells #[Value.slice ao1 p.orders.length cap1, Value.slice ao2 p.powers.length cap2, Value.slice ao3 p.conj.length cap3] 28)
  have Hx := Lib.hid hx
  have Hy := Lib.hid hy
  clear hp hx hy
  rw [elsB_two]
  by_cases hc : conB p = true
  case neg =>
    have hc' : conB p = false := by simpa using hc
    rw [hc']
    clear hc
    go_enter Try.func30, Try.ntmps30
    go_wp2_with fail
    refine (s_l08Group p _ _ _ _ (HP.out.below g0)).mono ?_
    rintro e w1 ⟨rfl, hb⟩
    have g1 := below_size g0 hb
    obtain ⟨c1, f1⟩ := bcell hb
    have z1 : w.heap.size < w1.heap.size := by have := hb.size; simp at this; omega
    rw [hc']
    clear hb hc'
    go_wp2_with fail
    go_ret2
    exact ⟨_, rfl, Ints.nil _ _, g1⟩
  have HO := Lib.hid (conB_ord hc)
  obtain ⟨hV, hG⟩ := conB_true hc
  have HV := Lib.hid hV
  have HG := Lib.hid hG
  clear hV hG
  rw [hc]
  by_cases tx : tailB p.orders x 0 = true
  case neg =>
    have tx' : tailB p.orders x 0 = false := by simpa using tx
    rw [tx']
    clear tx
    go_enter Try.func30, Try.ntmps30
    go_wp2_with fail
    refine (s_l08Group p _ _ _ _ (HP.out.below g0)).mono ?_
    rintro e w1 ⟨rfl, hb⟩
    have g1 := below_size g0 hb
    obtain ⟨c1, f1⟩ := bcell hb
    have z1 : w.heap.size < w1.heap.size := by have := hb.size; simp at this; omega
    rw [hc]
    clear hb hc
    go_wp2_with fail
    refine (s_l10Element _ _ _ _ p x _ (HP.out.below g1) (Hx.out.below g1) HO.out).mono ?_
    rintro e w2 ⟨rfl, hb⟩
    have g2 := below_size g1 hb
    obtain ⟨c2, f2⟩ := bcell hb
    have z2 : w.heap.size < w2.heap.size := by have := hb.size; omega
    rw [tx']
    clear hb tx'
    go_wp2_with fail
    go_ret2
    exact ⟨_, rfl, Ints.nil _ _, g2⟩
  have Kx := Lib.hid (tail_VI tx)
  rw [tx]
  by_cases ty : tailB p.orders y 0 = true
  case neg =>
    have ty' : tailB p.orders y 0 = false := by simpa using ty
    rw [ty']
    clear ty
    go_enter Try.func30, Try.ntmps30
    go_wp2_with fail
    refine (s_l08Group p _ _ _ _ (HP.out.below g0)).mono ?_
    rintro e w1 ⟨rfl, hb⟩
    have g1 := below_size g0 hb
    obtain ⟨c1, f1⟩ := bcell hb
    have z1 : w.heap.size < w1.heap.size := by have := hb.size; simp at this; omega
    rw [hc]
    clear hb hc
    go_wp2_with fail
    refine (s_l10Element _ _ _ _ p x _ (HP.out.below g1) (Hx.out.below g1) HO.out).mono ?_
    rintro e w2 ⟨rfl, hb⟩
    have g2 := below_size g1 hb
    obtain ⟨c2, f2⟩ := bcell hb
    have z2 : w.heap.size < w2.heap.size := by have := hb.size; omega
    rw [tx]
    clear hb tx
    go_wp2_with fail
    refine (s_l10Element _ _ _ _ p y _ (HP.out.below g2) (Hy.out.below g2) HO.out).mono ?_
    rintro e w3 ⟨rfl, hb⟩
    have g3 := below_size g2 hb
    obtain ⟨c3, f3⟩ := bcell hb
    have z3 : w.heap.size < w3.heap.size := by have := hb.size; omega
    rw [ty']
    clear hb ty'
    go_wp2_with fail
    go_ret2
    exact ⟨_, rfl, Ints.nil _ _, g3⟩
  have Ky := Lib.hid (tail_VI ty)
  rw [ty]
  go_enter Try.func30, Try.ntmps30
  go_wp2_with fail
  refine (s_l08Group p _ _ _ _ (HP.out.below g0)).mono ?_
  rintro e w1 ⟨rfl, hb⟩
  have g1 := below_size g0 hb
  obtain ⟨c1, f1⟩ := bcell hb
  have z1 : w.heap.size < w1.heap.size := by have := hb.size; simp at this; omega
  rw [hc]
  clear hb hc
  go_wp2_with fail
  refine (s_l10Element _ _ _ _ p x _ (HP.out.below g1) (Hx.out.below g1) HO.out).mono ?_
  rintro e w2 ⟨rfl, hb⟩
  have g2 := below_size g1 hb
  obtain ⟨c2, f2⟩ := bcell hb
  have z2 : w.heap.size < w2.heap.size := by have := hb.size; omega
  rw [tx]
  clear hb tx
  go_wp2_with fail
  refine (s_l10Element _ _ _ _ p y _ (HP.out.below g2) (Hy.out.below g2) HO.out).mono ?_
  rintro e w3 ⟨rfl, hb⟩
  have g3 := below_size g2 hb
  obtain ⟨c3, f3⟩ := bcell hb
  have z3 : w.heap.size < w3.heap.size := by have := hb.size; omega
  rw [ty]
  clear hb ty
  go_wp2_with fail
  refine (s_l10Comm HV.out HG.out x y _ _ _ _ _ _ (HP.out.below g3) (Hx.out.below g3) (Hy.out.below g3) Kx.out Ky.out).mono ?_
  rintro e w4 ⟨u, rfl, hI, hB⟩
  have g4 := below_size g3 hB
  have hI2 := hI.mono g3.size
  clear hI hB
  go_wp2_with fail
  go_ret2
  exact ⟨_, rfl, hI2, g4⟩
--== lengths
theorem len_Conjugate (p : Pres) (x y : List Int) : (okX (elsB p [x, y]) (p.at 0 (p.inv 0 y) (p.at 0 x y))).length ≤ 1000000000 := len_els fun h => by
  obtain ⟨hc, ha⟩ := elsB_true h
  have hG := (conB_true hc).2
  have kx := tail_VI (ha x (by simp))
  have ky := tail_VI (ha y (by simp))
  exact (hG.at (hG.inv ky) (hG.at kx ky)).len
theorem len_Commutator (p : Pres) (x y : List Int) : (okX (elsB p [x, y]) (p.at 0 (p.inv 0 (p.at 0 y x)) (p.at 0 x y))).length ≤ 1000000000 := len_els fun h => by
  obtain ⟨hc, ha⟩ := elsB_true h
  have hG := (conB_true hc).2
  have kx := tail_VI (ha x (by simp))
  have ky := tail_VI (ha y (by simp))
  exact (hG.at (hG.inv (hG.at ky kx)) (hG.at kx ky)).len
end Go.Proofs.Ytanjeebdondpaaa
