/-
  Conjugates and commutators of elements, as they are asked for.
-/
import Derived.Test.YtjefjhbnkcokhaaMul
import Derived.Test.YtjefjhbnkcokhaaPer
namespace Go.Proofs.Ytjefjhbnkcokhaa
set_option linter.unusedVariables false
set_option linter.unusedSimpArgs false
set_option maxRecDepth 100000
open Go.RowKit

--== spec.l10Conj
set_option maxHeartbeats 4000000 in
theorem s_l10Conj {p : Pres} (hV : ValidP p) (hG : GT p 0) (x y : List Int) (v1 v2 v3 vx vy : Value) (w : World) (hp : RdP w v1 v2 v3 p) (hx : Rd w vx x) (hy : Rd w vy y) (kx : VI p 0 x) (ky : VI p 0 y) :
    Calls Try.prog 124 #[.agg #[v1, v2, v3], vx, vy] w (RetInts w (p.at 0 (p.inv 0 y) (p.at 0 x y))) := by
  have HP := Lib.hid hp
  obtain ⟨p1, q1, rfl, _, _⟩ := hp.1.formN (n := p.n) rfl
  obtain ⟨p2, q2, rfl, _, _⟩ := hp.2.1.formN hV.pl
  obtain ⟨p3, q3, rfl, _, _⟩ := hp.2.2.formN hV.cl
  have g0 := below_alloc w (Obj.cells #[Value.slice p1 p.n q1, Value.slice p2 p.n q2, Value.slice p3 p.n q3] 28)
  have x0 := Bx.new w (Value.slice p1 p.n q1) (Value.slice p2 p.n q2) (Value.slice p3 p.n q3)
  obtain ⟨ax, cx, rfl, _, _⟩ := hx.formN kx.len
  obtain ⟨ay, cy, rfl, _, _⟩ := hy.formN ky.len
  have HX := Lib.hid hx
  have HY := Lib.hid hy
  have KX := Lib.hid kx
  have KY := Lib.hid ky
  have HG := Lib.hid hG
  have hs0 : w.heap.size < (w.alloc (Obj.cells #[Value.slice p1 p.n q1, Value.slice p2 p.n q2, Value.slice p3 p.n q3] 28)).heap.size := by simp
  clear hp hx kx hG hy ky
  have m0 := x0.c0
  have m1 := x0.c1
  have m2 := x0.c2
  go_enter Try.func124, Try.ntmps124
  go_wp2_with fail
  generalize w.alloc (Obj.cells #[Value.slice p1 p.n q1, Value.slice p2 p.n q2, Value.slice p3 p.n q3] 28) = w1 at *
  have KEEP : Hid (∀ wx, Below w1.heap.size w1 wx → Below w1.heap.size w1 wx ∧ wx.cell? ⟨w.heap.size, 0, none⟩ = some (Value.slice p1 p.n q1) ∧ wx.cell? ⟨w.heap.size, 1, none⟩ = some (Value.slice p2 p.n q2) ∧ wx.cell? ⟨w.heap.size, 2, none⟩ = some (Value.slice p3 p.n q3)) := fun wx hb =>
    ⟨hb, below_cells hb _ _ m0, below_cells hb _ _ m1, below_cells hb _ _ m2⟩
  have HINV : Hid (∀ wx, Below w1.heap.size w1 wx → Calls Try.prog 123 #[.agg #[Value.slice p1 p.n q1, Value.slice p2 p.n q2, Value.slice p3 p.n q3], .slice ay p.n cy] wx (RetInts wx (p.inv 0 y))) := fun wx hb =>
    s_l10Inv hV HG.out y _ _ _ _ wx (HP.out.below (below_size g0 hb)) (HY.out.below (below_size g0 hb)) KY.out
  have HMUL : Hid (∀ wx, Below w1.heap.size w1 wx → Calls Try.prog 122 #[.agg #[Value.slice p1 p.n q1, Value.slice p2 p.n q2, Value.slice p3 p.n q3], .slice ax p.n cx, .slice ay p.n cy] wx (RetInts wx (p.at 0 x y))) := fun wx hb =>
    s_l08Mul hV x y _ _ _ _ _ wx (HP.out.below (below_size g0 hb)) (HX.out.below (below_size g0 hb)) (HY.out.below (below_size g0 hb)) KX.out KY.out
  have HGEN : Hid (∀ wx u v, Below w1.heap.size w1 wx → Rd wx u (p.inv 0 y) → Rd wx v (p.at 0 x y) → Calls Try.prog 122 #[.agg #[Value.slice p1 p.n q1, Value.slice p2 p.n q2, Value.slice p3 p.n q3], u, v] wx (RetInts wx (p.at 0 (p.inv 0 y) (p.at 0 x y)))) := fun wx u v hb hu hv =>
    s_l08Mul hV _ _ _ _ _ _ _ wx (HP.out.below (below_size g0 hb)) hu hv (HG.out.inv KY.out) (HG.out.at KX.out KY.out)
  have G0 := Lib.hid g0
  clear m0 m1 m2
  go_region_held3 (fun wx => Below w1.heap.size w1 wx ∧ wx.cell? ⟨w.heap.size, 0, none⟩ = some (Value.slice p1 p.n q1) ∧ wx.cell? ⟨w.heap.size, 1, none⟩ = some (Value.slice p2 p.n q2) ∧ wx.cell? ⟨w.heap.size, 2, none⟩ = some (Value.slice p3 p.n q3))
    (first | exact KEEP.out _ (Below.refl _ _).drew | exact KEEP.out _ (below_size (And.left (by assumption)) (by assumption)))
    (first
      | ((go_at_call 123); (with_reducible refine (HINV.out _ (And.left (by assumption))).mono ?_); (rintro e w2 ⟨u2, rfl, hI2, hB2⟩))
      | ((go_at_call 122); (with_reducible refine (HMUL.out _ (And.left (by assumption))).mono ?_); (rintro e w3 ⟨u3, rfl, hI3, hB3⟩))
      | ((go_at_call 122); (with_reducible refine (HGEN.out _ _ _ (And.left (by assumption)) (hI2.rd.below hB3) hI3.rd).mono ?_); (rintro e w9 ⟨u9, rfl, hI9, hB19⟩)))
  have hB9 : Below w1.heap.size w1 w9 := And.left (by assumption)
  have hB10 := below_size G0.out hB9
  have hI10 : Ints w9 w.heap.size u9 _ := hI9.mono (by have h1 := G0.out.size; have h2 := hB2.size; have h3 := hB3.size; simp at h2; omega)
  clear g0 KEEP hB9
  go_wp2_with fail
  go_ret
  exact ⟨_, rfl, hI10, hB10⟩
--== spec.l10Comm
set_option maxHeartbeats 4000000 in
theorem s_l10Comm {p : Pres} (hV : ValidP p) (hG : GT p 0) (x y : List Int) (v1 v2 v3 vx vy : Value) (w : World) (hp : RdP w v1 v2 v3 p) (hx : Rd w vx x) (hy : Rd w vy y) (kx : VI p 0 x) (ky : VI p 0 y) :
    Calls Try.prog 95 #[.agg #[v1, v2, v3], vx, vy] w (RetInts w (p.at 0 (p.inv 0 (p.at 0 y x)) (p.at 0 x y))) := by
  have HP := Lib.hid hp
  obtain ⟨p1, q1, rfl, _, _⟩ := hp.1.formN (n := p.n) rfl
  obtain ⟨p2, q2, rfl, _, _⟩ := hp.2.1.formN hV.pl
  obtain ⟨p3, q3, rfl, _, _⟩ := hp.2.2.formN hV.cl
  have g0 := below_alloc w (Obj.cells #[Value.slice p1 p.n q1, Value.slice p2 p.n q2, Value.slice p3 p.n q3] 28)
  have x0 := Bx.new w (Value.slice p1 p.n q1) (Value.slice p2 p.n q2) (Value.slice p3 p.n q3)
  obtain ⟨ax, cx, rfl, _, _⟩ := hx.formN kx.len
  obtain ⟨ay, cy, rfl, _, _⟩ := hy.formN ky.len
  have HX := Lib.hid hx
  have HY := Lib.hid hy
  have KX := Lib.hid kx
  have KY := Lib.hid ky
  have HG := Lib.hid hG
  have hs0 : w.heap.size < (w.alloc (Obj.cells #[Value.slice p1 p.n q1, Value.slice p2 p.n q2, Value.slice p3 p.n q3] 28)).heap.size := by simp
  clear hp hx kx hG hy ky
  have m0 := x0.c0
  have m1 := x0.c1
  have m2 := x0.c2
  go_enter Try.func95, Try.ntmps95
  go_wp2_with fail
  generalize w.alloc (Obj.cells #[Value.slice p1 p.n q1, Value.slice p2 p.n q2, Value.slice p3 p.n q3] 28) = w1 at *
  have KEEP : Hid (∀ wx, Below w1.heap.size w1 wx → Below w1.heap.size w1 wx ∧ wx.cell? ⟨w.heap.size, 0, none⟩ = some (Value.slice p1 p.n q1) ∧ wx.cell? ⟨w.heap.size, 1, none⟩ = some (Value.slice p2 p.n q2) ∧ wx.cell? ⟨w.heap.size, 2, none⟩ = some (Value.slice p3 p.n q3)) := fun wx hb =>
    ⟨hb, below_cells hb _ _ m0, below_cells hb _ _ m1, below_cells hb _ _ m2⟩
  have HINV : Hid (∀ wx u, Below w1.heap.size w1 wx → Rd wx u (p.at 0 y x) → Calls Try.prog 123 #[.agg #[Value.slice p1 p.n q1, Value.slice p2 p.n q2, Value.slice p3 p.n q3], u] wx (RetInts wx (p.inv 0 (p.at 0 y x)))) := fun wx u hb hu =>
    s_l10Inv hV HG.out _ _ _ _ _ wx (HP.out.below (below_size g0 hb)) hu (HG.out.at KY.out KX.out)
  have HMYX : Hid (∀ wx, Below w1.heap.size w1 wx → Calls Try.prog 122 #[.agg #[Value.slice p1 p.n q1, Value.slice p2 p.n q2, Value.slice p3 p.n q3], .slice ay p.n cy, .slice ax p.n cx] wx (RetInts wx (p.at 0 y x))) := fun wx hb =>
    s_l08Mul hV y x _ _ _ _ _ wx (HP.out.below (below_size g0 hb)) (HY.out.below (below_size g0 hb)) (HX.out.below (below_size g0 hb)) KY.out KX.out
  have HMUL : Hid (∀ wx, Below w1.heap.size w1 wx → Calls Try.prog 122 #[.agg #[Value.slice p1 p.n q1, Value.slice p2 p.n q2, Value.slice p3 p.n q3], .slice ax p.n cx, .slice ay p.n cy] wx (RetInts wx (p.at 0 x y))) := fun wx hb =>
    s_l08Mul hV x y _ _ _ _ _ wx (HP.out.below (below_size g0 hb)) (HX.out.below (below_size g0 hb)) (HY.out.below (below_size g0 hb)) KX.out KY.out
  have HGEN : Hid (∀ wx u v, Below w1.heap.size w1 wx → Rd wx u (p.inv 0 (p.at 0 y x)) → Rd wx v (p.at 0 x y) → Calls Try.prog 122 #[.agg #[Value.slice p1 p.n q1, Value.slice p2 p.n q2, Value.slice p3 p.n q3], u, v] wx (RetInts wx (p.at 0 (p.inv 0 (p.at 0 y x)) (p.at 0 x y)))) := fun wx u v hb hu hv =>
    s_l08Mul hV _ _ _ _ _ _ _ wx (HP.out.below (below_size g0 hb)) hu hv (HG.out.inv (HG.out.at KY.out KX.out)) (HG.out.at KX.out KY.out)
  have G0 := Lib.hid g0
  clear m0 m1 m2
  go_region_held3 (fun wx => Below w1.heap.size w1 wx ∧ wx.cell? ⟨w.heap.size, 0, none⟩ = some (Value.slice p1 p.n q1) ∧ wx.cell? ⟨w.heap.size, 1, none⟩ = some (Value.slice p2 p.n q2) ∧ wx.cell? ⟨w.heap.size, 2, none⟩ = some (Value.slice p3 p.n q3))
    (first | exact KEEP.out _ (Below.refl _ _).drew | exact KEEP.out _ (below_size (And.left (by assumption)) (by assumption)))
    (first
      | ((go_at_call 122); (with_reducible refine (HMYX.out _ (And.left (by assumption))).mono ?_); (rintro e w2 ⟨u2, rfl, hI2, hB2⟩))
      | ((go_at_call 123); (with_reducible refine (HINV.out _ _ (And.left (by assumption)) hI2.rd).mono ?_); (rintro e w3 ⟨u3, rfl, hI3, hB3⟩))
      | ((go_at_call 122); (with_reducible refine (HMUL.out _ (And.left (by assumption))).mono ?_); (rintro e w4 ⟨u4, rfl, hI4, hB4⟩))
      | ((go_at_call 122); (with_reducible refine (HGEN.out _ _ _ (And.left (by assumption)) (hI3.rd.below hB4) hI4.rd).mono ?_); (rintro e w9 ⟨u9, rfl, hI9, hB19⟩)))
  have hB9 : Below w1.heap.size w1 w9 := And.left (by assumption)
  have hB10 := below_size G0.out hB9
  have hI10 : Ints w9 w.heap.size u9 _ := hI9.mono (by have h1 := G0.out.size; have h2 := hB2.size; have h3 := hB3.size; have h4 := hB4.size; simp at h2; omega)
  clear g0 KEEP hB9
  go_wp2_with fail
  go_ret
  exact ⟨_, rfl, hI10, hB10⟩
--== lengths
theorem len_Conjugate (p : Pres) (x y : List Int) : (okX (elsB p [x, y]) (p.at 0 (p.inv 0 y) (p.at 0 x y))).length ≤ 1000000000 := len_els fun h => by
  obtain ⟨hc, ha⟩ := elsB_true h
  have hG := (conB_true hc).2
  have kx := tail_VI (ha x (by simp))
  have ky := tail_VI (ha y (by simp))
  exact (hG.at (hG.inv ky) (hG.at kx ky)).len
theorem len_Commutator (p : Pres) (x y : List Int) : (okX (elsB p [x, y]) (p.at 0 (p.inv 0 (p.at 0 y x)) (p.at 0 x y))).length ≤ 1000000000 := len_els fun h => by
  obtain ⟨hc, ha⟩ := elsB_true h
  have hG := (conB_true hc).2
  have kx := tail_VI (ha x (by simp))
  have ky := tail_VI (ha y (by simp))
  exact (hG.at (hG.inv (hG.at ky kx)) (hG.at kx ky)).len
end Go.Proofs.Ytjefjhbnkcokhaa
