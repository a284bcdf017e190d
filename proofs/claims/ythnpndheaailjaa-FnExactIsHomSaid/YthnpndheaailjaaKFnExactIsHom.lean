/-
  The walk of the law FnExactIsHom.
-/
import Derived.Test.YthnpndheaailjaaHoc
import Derived.Test.YthnpndheaailjaaHol
namespace Go.Proofs.Ythnpndheaailjaa.fnExactIsHom
set_option linter.unusedVariables false
set_option linter.unusedSimpArgs false
set_option maxRecDepth 100000
open Go.ChangeShapes Go.WideShapes Go.ChangeAt Go.RowKit

theorem rdP_trod {H : Type} {enc : TypeId × Value → H} {w : World} {fuel : Nat} {v1 v2 v3 : Value} {x : DataW H × List MemPlace} (hf : DataW.trod enc Try.prog w 0 (fun _ => true) true fuel 38 [v1, v2, v3] = some x) : ∃ p, RdP w v1 v2 v3 p := by
  obtain ⟨xs, n, _, hx, hl, hl2, hfs⟩ := DataW.trod_struct Try.underlying38 hf
  have c22 : Try.prog.cellsOf 22 = 1 := by kernel_rfl
  have c23 : Try.prog.cellsOf 29 = 1 := by kernel_rfl
  have c24 : Try.prog.cellsOf 30 = 1 := by kernel_rfl
  have f0 : DataW.trod enc Try.prog w 0 (fun _ => true) true n 22 (([v1, v2, v3].drop 0).take (Try.prog.cellsOf 22)) = xs[0]? := hfs 0 _ rfl
  rw [c22] at f0
  replace f0 : DataW.trod enc Try.prog w 0 (fun _ => true) true n 22 [v1] = xs[0]? := f0
  have f1 : DataW.trod enc Try.prog w 0 (fun _ => true) true n 29 (([v1, v2, v3].drop 1).take (Try.prog.cellsOf 29)) = xs[1]? := hfs 1 _ rfl
  rw [c23] at f1
  replace f1 : DataW.trod enc Try.prog w 0 (fun _ => true) true n 29 [v2] = xs[1]? := f1
  have f2 : DataW.trod enc Try.prog w 0 (fun _ => true) true n 30 (([v1, v2, v3].drop 2).take (Try.prog.cellsOf 30)) = xs[2]? := hfs 2 _ rfl
  rw [c24] at f2
  replace f2 : DataW.trod enc Try.prog w 0 (fun _ => true) true n 30 [v3] = xs[2]? := f2
  have hl3 : xs.length = 3 := hl2
  rw [List.getElem?_eq_getElem (by omega)] at f0 f1 f2
  obtain ⟨x1, h1⟩ := rd1_of f0
  obtain ⟨x2, h2⟩ := rd2_of f1
  obtain ⟨x3, h3⟩ := rd3_of f2
  exact ⟨⟨x1, x2, x3⟩, h1, h2, h3⟩
theorem rdH_of {H : Type} {enc : TypeId × Value → H} {w : World} {base : Nat} {r : Reach} {v : Value} {d : DataW H} {ps : List MemPlace} (ho : Value.okWide Try.prog w r base 53 v) (h : DataW.Trod enc Try.prog w 0 (fun _ => true) true 53 v d ps) :
    ∃ u0 u1 u2 u3 u4 u5 u6 s t L, v = .agg #[u0, u1, u2, u3, u4, u5, u6] ∧ RdH w u0 u1 u2 u3 u4 u5 u6 s t L := by
  obtain ⟨cs, rfl, hcs⟩ := okWide_struct Try.underlying53 ho
  obtain ⟨fuel, hf⟩ := h
  obtain ⟨xs, n, _, hx, hl, hl2, hfs⟩ := DataW.trod_struct Try.underlying53 hf
  have c7 : Try.prog.cellsOf 53 = 7 := by kernel_rfl
  have c3 : Try.prog.cellsOf 38 = 3 := by kernel_rfl
  have c1 : Try.prog.cellsOf 29 = 1 := by kernel_rfl
  rw [c7] at hcs
  obtain ⟨u0, u1, u2, u3, u4, u5, u6, rfl⟩ : ∃ u0 u1 u2 u3 u4 u5 u6, cs = #[u0, u1, u2, u3, u4, u5, u6] := by
    obtain ⟨l⟩ := cs
    match l, hcs with
    | [a, b, c, d, e, f, g], _ => exact ⟨a, b, c, d, e, f, g, rfl⟩
  have hc : (Value.agg #[u0, u1, u2, u3, u4, u5, u6]).cells.toList = [u0, u1, u2, u3, u4, u5, u6] := rfl
  rw [hc] at hfs
  have f0 : DataW.trod enc Try.prog w 0 (fun _ => true) true n 38 (([u0, u1, u2, u3, u4, u5, u6].drop 0).take (Try.prog.cellsOf 38)) = xs[0]? := hfs 0 _ rfl
  rw [c3] at f0
  replace f0 : DataW.trod enc Try.prog w 0 (fun _ => true) true n 38 [u0, u1, u2] = xs[0]? := f0
  have f1 : DataW.trod enc Try.prog w 0 (fun _ => true) true n 38 (([u0, u1, u2, u3, u4, u5, u6].drop 3).take (Try.prog.cellsOf 38)) = xs[1]? := hfs 1 _ rfl
  rw [c3] at f1
  replace f1 : DataW.trod enc Try.prog w 0 (fun _ => true) true n 38 [u3, u4, u5] = xs[1]? := f1
  have f2 : DataW.trod enc Try.prog w 0 (fun _ => true) true n 29 (([u0, u1, u2, u3, u4, u5, u6].drop 6).take (Try.prog.cellsOf 29)) = xs[2]? := hfs 2 _ rfl
  rw [c1] at f2
  replace f2 : DataW.trod enc Try.prog w 0 (fun _ => true) true n 29 [u6] = xs[2]? := f2
  have hl3 : xs.length = 3 := hl2
  rw [List.getElem?_eq_getElem (by omega)] at f0 f1 f2
  obtain ⟨s, h1⟩ := rdP_trod f0
  obtain ⟨t, h2⟩ := rdP_trod f1
  obtain ⟨L, h3⟩ := rd2_of f2
  exact ⟨u0, u1, u2, u3, u4, u5, u6, s, t, L, rfl, h1, h2, h3⟩

set_option maxHeartbeats 8000000 in
set_option maxRecDepth 100000 in
theorem core (u0 u1 u2 u3 u4 u5 u6 : Value) (s t : Pres) (L : List (List Int)) (w : World) (hr : RdH w u0 u1 u2 u3 u4 u5 u6 s t L) :
    Calls Try.prog 8 #[.agg #[u0, u1, u2, u3, u4, u5, u6]] w (RetV w (.bool true)) := by
  have HR := Lib.hid hr
  obtain ⟨⟨a0, c0, rfl⟩, ⟨a1, c1, rfl⟩, ⟨a2, c2, rfl⟩, ⟨a3, c3, rfl⟩, ⟨a4, c4, rfl⟩, ⟨a5, c5, rfl⟩, ⟨a6, c6, rfl⟩⟩ := hr.forms
  have G0 := Lib.hid (below_alloc w (Obj.cells #[Value.slice a0 s.n c0, Value.slice a1 s.powers.length c1, Value.slice a2 s.conj.length c2, Value.slice a3 t.n c3, Value.slice a4 t.powers.length c4, Value.slice a5 t.conj.length c5, Value.slice a6 L.length c6] 53))
  have HX := Lib.hid (Hx.new 53 w (Value.slice a0 s.n c0) (Value.slice a1 s.powers.length c1) (Value.slice a2 s.conj.length c2) (Value.slice a3 t.n c3) (Value.slice a4 t.powers.length c4) (Value.slice a5 t.conj.length c5) (Value.slice a6 L.length c6))
  clear hr
  by_cases hq : ((hsize s t L : Nat) : Int) ≤ 1048576
  case neg =>
    have S1 := Lib.hid (szI_out hq)
    clear hq
    go_enter Try.func8, Try.ntmps8
    go_wp2_with fail
    refine (l_szHom _ _ _ _ _ _ _ s t L _ _ (HR.out.below G0.out) (by omega) (by omega)).mono ?_
    rintro e w1 ⟨rfl, hb⟩
    have g1 := below_size G0.out hb
    rw [S1.out]
    clear hb
    go_wp2_with fail
    go_ret
    exact ⟨rfl, g1⟩
  have S1 := Lib.hid (szI_in hq)
  have hs9 : hsize s t L ≤ 1000000000 := by omega
  have hl9 : L.length ≤ 1000000000 := by unfold hsize size2 at hs9; omega
  go_enter Try.func8, Try.ntmps8
  go_wp2_with fail
  refine (l_szHom _ _ _ _ _ _ _ s t L _ _ (HR.out.below G0.out) (by omega) (by omega)).mono ?_
  rintro e w1 ⟨rfl, hb⟩
  have g1 := below_size G0.out hb
  have x1 := HX.out.below hb HX.out.lt
  obtain ⟨m0, m1, m2, m3, m4, m5, m6⟩ := x1.cs
  rw [S1.out]
  clear hb
  go_wp2_with fail
  refine (l_toHom _ _ _ _ _ _ _ s t L _ (HR.out.below g1) hs9).mono ?_
  rintro e w2 ⟨y0, y1, y2, y3, y4, y5, y6, rfl, hy, hb⟩
  have g2 := below_size g1 hb
  have x2 := x1.below hb x1.lt
  have HY := Lib.hid hy
  obtain ⟨⟨b0, d0, rfl⟩, ⟨b1, d1, rfl⟩, ⟨b2, d2, rfl⟩, ⟨b3, d3, rfl⟩, ⟨b4, d4, rfl⟩, ⟨b5, d5, rfl⟩, ⟨b6, d6, rfl⟩⟩ := hy.forms
  clear hb hy m0 m1 m2 m3 m4 m5 m6
  go_wp2_with fail
  refine (s_IsHom _ _ _ _ _ _ _ s t L w2 HY.out hl9).mono ?_
  rintro e w3 ⟨rfl, hb⟩
  have g3 := below_size g2 hb
  have x3 := x2.below hb x2.lt
  obtain ⟨m0, m1, m2, m3, m4, m5, m6⟩ := x3.cs
  obtain ⟨fb, hfb⟩ : ∃ fb, homB s t L = fb := ⟨_, rfl⟩
  have HFB := Lib.hid hfb
  rw [hfb]
  clear hb hfb HY
  go_wp2_with fail
  refine (l_toHom _ _ _ _ _ _ _ s t L _ (HR.out.below g3) hs9).mono ?_
  rintro e w4 ⟨y0, y1, y2, y3, y4, y5, y6, rfl, hy, hb⟩
  have g4 := below_size g3 hb
  have x4 := x3.below hb x3.lt
  have HY := Lib.hid hy
  obtain ⟨⟨e0, f0, rfl⟩, ⟨e1, f1, rfl⟩, ⟨e2, f2, rfl⟩, ⟨e3, f3, rfl⟩, ⟨e4, f4, rfl⟩, ⟨e5, f5, rfl⟩, ⟨e6, f6, rfl⟩⟩ := hy.forms
  have hb5 := below_alloc w4 (Obj.cells #[Value.slice e0 s.n f0, Value.slice e1 s.powers.length f1, Value.slice e2 s.conj.length f2, Value.slice e3 t.n f3, Value.slice e4 t.powers.length f4, Value.slice e5 t.conj.length f5, Value.slice e6 L.length f6] 57)
  have y5 := Hx.new 57 w4 (Value.slice e0 s.n f0) (Value.slice e1 s.powers.length f1) (Value.slice e2 s.conj.length f2) (Value.slice e3 t.n f3) (Value.slice e4 t.powers.length f4) (Value.slice e5 t.conj.length f5) (Value.slice e6 L.length f6)
  have g5 := Lib.hid (below_size g4 hb5)
  have X5 := Lib.hid (x4.below hb5 x4.lt)
  have Y5 := Lib.hid y5
  have HY5 := Lib.hid (HY.out.below hb5)
  clear hb hy m0 m1 m2 m3 m4 m5 m6 hb5 y5 HY x4 x3 x2 x1 g1 g2 g3 g4
  go_wp2_with fail
  refine (i_IsHom _ _ _ _ _ _ _ s t L _ HY5.out hl9).mono ?_
  rintro e w6 ⟨rfl, hb⟩
  have g6 := Lib.hid (below_size g5.out hb)
  have x6 := X5.out.below hb X5.out.lt
  have y6 := Y5.out.below hb Y5.out.lt
  have HY6 := Lib.hid (HY5.out.below hb)
  obtain ⟨m0, m1, m2, m3, m4, m5, m6⟩ := x6.cs
  obtain ⟨n0, n1, n2, n3, n4, n5, n6⟩ := y6.cs
  have lx := x6.lt
  have ly := y6.lt
  rw [HFB.out]
  clear hb
  have KEEP : Hid (∀ wx, Below w6.heap.size w6 wx → Below w6.heap.size w6 wx ∧ wx.cell? ⟨w.heap.size, 0, none⟩ = some (Value.slice a0 s.n c0) ∧ wx.cell? ⟨w.heap.size, 1, none⟩ = some (Value.slice a1 s.powers.length c1) ∧ wx.cell? ⟨w.heap.size, 2, none⟩ = some (Value.slice a2 s.conj.length c2) ∧ wx.cell? ⟨w.heap.size, 3, none⟩ = some (Value.slice a3 t.n c3) ∧ wx.cell? ⟨w.heap.size, 4, none⟩ = some (Value.slice a4 t.powers.length c4) ∧ wx.cell? ⟨w.heap.size, 5, none⟩ = some (Value.slice a5 t.conj.length c5) ∧ wx.cell? ⟨w.heap.size, 6, none⟩ = some (Value.slice a6 L.length c6) ∧ wx.cell? ⟨w4.heap.size, 0, none⟩ = some (Value.slice e0 s.n f0) ∧ wx.cell? ⟨w4.heap.size, 1, none⟩ = some (Value.slice e1 s.powers.length f1) ∧ wx.cell? ⟨w4.heap.size, 2, none⟩ = some (Value.slice e2 s.conj.length f2) ∧ wx.cell? ⟨w4.heap.size, 3, none⟩ = some (Value.slice e3 t.n f3) ∧ wx.cell? ⟨w4.heap.size, 4, none⟩ = some (Value.slice e4 t.powers.length f4) ∧ wx.cell? ⟨w4.heap.size, 5, none⟩ = some (Value.slice e5 t.conj.length f5) ∧ wx.cell? ⟨w4.heap.size, 6, none⟩ = some (Value.slice e6 L.length f6)) := fun wx hb =>
    ⟨hb, below_cells hb _ _ m0, below_cells hb _ _ m1, below_cells hb _ _ m2, below_cells hb _ _ m3, below_cells hb _ _ m4, below_cells hb _ _ m5, below_cells hb _ _ m6, below_cells hb _ _ n0, below_cells hb _ _ n1, below_cells hb _ _ n2, below_cells hb _ _ n3, below_cells hb _ _ n4, below_cells hb _ _ n5, below_cells hb _ _ n6⟩
  have HR6 := Lib.hid (HR.out.below g6.out)
  clear m0 m1 m2 m3 m4 m5 m6 n0 n1 n2 n3 n4 n5 n6 x6 y6 HY5 X5 Y5 g5
  go_wp2_with fail
  go_region_held3 (fun wx => Below w6.heap.size w6 wx ∧ wx.cell? ⟨w.heap.size, 0, none⟩ = some (Value.slice a0 s.n c0) ∧ wx.cell? ⟨w.heap.size, 1, none⟩ = some (Value.slice a1 s.powers.length c1) ∧ wx.cell? ⟨w.heap.size, 2, none⟩ = some (Value.slice a2 s.conj.length c2) ∧ wx.cell? ⟨w.heap.size, 3, none⟩ = some (Value.slice a3 t.n c3) ∧ wx.cell? ⟨w.heap.size, 4, none⟩ = some (Value.slice a4 t.powers.length c4) ∧ wx.cell? ⟨w.heap.size, 5, none⟩ = some (Value.slice a5 t.conj.length c5) ∧ wx.cell? ⟨w.heap.size, 6, none⟩ = some (Value.slice a6 L.length c6) ∧ wx.cell? ⟨w4.heap.size, 0, none⟩ = some (Value.slice e0 s.n f0) ∧ wx.cell? ⟨w4.heap.size, 1, none⟩ = some (Value.slice e1 s.powers.length f1) ∧ wx.cell? ⟨w4.heap.size, 2, none⟩ = some (Value.slice e2 s.conj.length f2) ∧ wx.cell? ⟨w4.heap.size, 3, none⟩ = some (Value.slice e3 t.n f3) ∧ wx.cell? ⟨w4.heap.size, 4, none⟩ = some (Value.slice e4 t.powers.length f4) ∧ wx.cell? ⟨w4.heap.size, 5, none⟩ = some (Value.slice e5 t.conj.length f5) ∧ wx.cell? ⟨w4.heap.size, 6, none⟩ = some (Value.slice e6 L.length f6))
    (first | exact KEEP.out _ (Below.refl _ _).drew | exact KEEP.out _ (below_size (And.left (by assumption)) (by assumption)) | assumption)
    (first
      | ((go_at_call 40); (with_reducible refine (l_toHom _ _ _ _ _ _ _ s t L _ (HR6.out.below (And.left (by assumption))) hs9).mono ?_); (rintro e w7 ⟨z0, z1, z2, z3, z4, z5, z6, rfl, hz, hB7⟩))
      | ((go_at_call 42); (with_reducible refine (l_eqHom _ _ _ _ _ _ _ _ _ _ _ _ _ _ s t L _ (HY6.out.below (And.left (by assumption))) hz).mono ?_); (rintro e w8 ⟨rfl, hB8⟩)))
  have hB9 : Below w6.heap.size w6 w8 := And.left (by assumption)
  have gE := below_size g6.out hB9
  go_wp2_with fail
  go_ret
  exact ⟨rfl, gE⟩
end Go.Proofs.Ythnpndheaailjaa.fnExactIsHom
