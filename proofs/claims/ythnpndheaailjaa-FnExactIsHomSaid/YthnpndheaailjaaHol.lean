/-
  What the law does with homomorphisms: sizes, copies, comparing.
-/
import Derived.Test.YthnpndheaailjaaHom
import Derived.Test.YthnpndheaailjaaOpen
namespace Go.Proofs.Ythnpndheaailjaa
set_option linter.unusedVariables false
set_option linter.unusedSimpArgs false
set_option maxRecDepth 100000
open Go.RowKit

theorem RetP.unfold {w : World} {p : Pres} {e : Ending} {w' : World} (h : RetP w p e w') : ∃ v1 v2 v3, e = .returned (.agg #[v1, v2, v3]) ∧ RdP w' v1 v2 v3 p ∧ Below w.heap.size w w' := by
  obtain ⟨v1, v2, v3, h1, h2, h3⟩ := h
  exact ⟨v1, v2, v3, h1, h2.rd, h3⟩
section
variable {T : TypeId} {w : World} {b : Nat} {u0 u1 u2 u3 u4 u5 u6 : Value}
theorem Hx.s012 (h : Hx T w b u0 u1 u2 u3 u4 u5 u6) (x y z : Value) : Hx T (((w.setCell ⟨b, 0, none⟩ x).setCell ⟨b, 1, none⟩ y).setCell ⟨b, 2, none⟩ z) b x y z u3 u4 u5 u6 := by
  have h1 := heap_setCell_same w b 0 _ _ x h
  have h2 := heap_setCell_same _ b 1 _ _ y h1
  have h3 := heap_setCell_same _ b 2 _ _ z h2
  unfold Hx
  rw [h3]; simp
theorem Hx.s345 (h : Hx T w b u0 u1 u2 u3 u4 u5 u6) (x y z : Value) : Hx T (((w.setCell ⟨b, 3, none⟩ x).setCell ⟨b, 4, none⟩ y).setCell ⟨b, 5, none⟩ z) b u0 u1 u2 x y z u6 := by
  have h1 := heap_setCell_same w b 3 _ _ x h
  have h2 := heap_setCell_same _ b 4 _ _ y h1
  have h3 := heap_setCell_same _ b 5 _ _ z h2
  unfold Hx
  rw [h3]; simp
theorem Hx.s6 (h : Hx T w b u0 u1 u2 u3 u4 u5 u6) (x : Value) : Hx T (w.setCell ⟨b, 6, none⟩ x) b u0 u1 u2 u3 u4 u5 x := by
  have h1 := heap_setCell_same w b 6 _ _ x h
  unfold Hx
  rw [h1]; simp
theorem Hx.other (h : Hx T w b u0 u1 u2 u3 u4 u5 u6) {c : Nat} (hc : b ≠ c) (o : Nat) (y : Value) : Hx T (w.setCell ⟨c, o, none⟩ y) b u0 u1 u2 u3 u4 u5 u6 := (heap_setCell_other w ⟨c, o, none⟩ b y hc).trans h
end
theorem below_set3 {B : Nat} {w w' : World} (h : Below B w w') {b : Nat} (hb : B ≤ b) (o1 o2 o3 : Nat) (x y z : Value) : Below B w (((w'.setCell ⟨b, o1, none⟩ x).setCell ⟨b, o2, none⟩ y).setCell ⟨b, o3, none⟩ z) :=
  ((h.setCell (p := ⟨b, o1, none⟩) hb _).setCell (p := ⟨b, o2, none⟩) hb _).setCell (p := ⟨b, o3, none⟩) hb _
/-- what was there reads on, whatever is written to blocks that are not -/
theorem RdP.keep {w0 w : World} {v1 v2 v3 : Value} {p : Pres} (h : RdP w0 v1 v2 v3 p) (hb : Below w0.heap.size w0 w) : RdP w v1 v2 v3 p := h.below hb
def hsize (s t : Pres) (L : List (List Int)) : Nat := psize s + psize t + size2 L
def RetH (w : World) (s t : Pres) (L : List (List Int)) (e : Ending) (w' : World) : Prop := ∃ u0 u1 u2 u3 u4 u5 u6, e = .returned (.agg #[u0, u1, u2, u3, u4, u5, u6]) ∧ RdH w' u0 u1 u2 u3 u4 u5 u6 s t L ∧ Below w.heap.size w w'
--== laws.szHom
set_option maxHeartbeats 4000000 in
theorem l_szHom (u0 u1 u2 u3 u4 u5 u6 : Value) (s t : Pres) (L : List (List Int)) (left : Int) (w : World) (hr : RdH w u0 u1 u2 u3 u4 u5 u6 s t L) (h0 : 0 ≤ left) (hl : left ≤ 1000000000) :
    Calls Try.prog 38 #[.agg #[u0, u1, u2, u3, u4, u5, u6], .int .i64 left] w (RetV w (.int .i64 (szI (hsize s t L) left))) := by
  have HR := Lib.hid hr
  obtain ⟨⟨a0, c0, rfl⟩, ⟨a1, c1, rfl⟩, ⟨a2, c2, rfl⟩, ⟨a3, c3, rfl⟩, ⟨a4, c4, rfl⟩, ⟨a5, c5, rfl⟩, ⟨a6, c6, rfl⟩⟩ := hr.forms
  have g0 := Lib.hid (below_alloc w (Obj.cells #[Value.slice a0 s.n c0, Value.slice a1 s.powers.length c1, Value.slice a2 s.conj.length c2, Value.slice a3 t.n c3, Value.slice a4 t.powers.length c4, Value.slice a5 t.conj.length c5, Value.slice a6 L.length c6] 53))
  have HX := Lib.hid (Hx.new 53 w (Value.slice a0 s.n c0) (Value.slice a1 s.powers.length c1) (Value.slice a2 s.conj.length c2) (Value.slice a3 t.n c3) (Value.slice a4 t.powers.length c4) (Value.slice a5 t.conj.length c5) (Value.slice a6 L.length c6))
  clear hr
  by_cases q1 : (psize s : Int) ≤ left
  · have S1 := Lib.hid (szI_in q1)
    by_cases q2 : (psize t : Int) ≤ left - psize s
    · have S2 := Lib.hid (szI_in q2)
      obtain ⟨z, hz⟩ : ∃ z, szI (size2 L) (left - psize s - psize t) = z := ⟨_, rfl⟩
      have ST : Hid (szI (hsize s t L) left = z ∧ (z < 0 → z = -1)) := by
        show _ ∧ _
        by_cases q3 : (size2 L : Int) ≤ left - psize s - psize t
        · rw [szI_in q3] at hz
          rw [szI_in (by unfold hsize; omega)]
          unfold hsize; omega
        · rw [szI_out q3] at hz
          rw [szI_out (by unfold hsize; omega)]
          omega
      have HZ := Lib.hid hz
      clear hz
      by_cases hz0 : z < 0
      all_goals
        go_enter Try.func38, Try.ntmps38
        go_wp2_with fail
        refine (l_szPresentation _ _ _ s _ _ (HR.out.1.below g0.out) (by omega) (by omega)).mono ?_
        rintro e w1 ⟨rfl, hb⟩
        have g1 := below_size g0.out hb
        have x1 := HX.out.below hb HX.out.lt
        obtain ⟨m0, m1, m2, m3, m4, m5, m6⟩ := x1.cs
        rw [S1.out]
        clear hb
        go_wp2_with fail
        refine (l_szPresentation _ _ _ t _ _ (HR.out.2.1.below g1) (by omega) (by omega)).mono ?_
        rintro e w2 ⟨rfl, hb⟩
        have g2 := below_size g1 hb
        have x2 := x1.below hb x1.lt
        clear m0 m1 m2 m3 m4 m5 m6
        obtain ⟨m0, m1, m2, m3, m4, m5, m6⟩ := x2.cs
        rw [S2.out]
        clear hb
        go_wp2_with fail
        refine (l_szInt64SS _ L _ _ (HR.out.2.2.below g2) (by omega) (by omega)).mono ?_
        rintro e w' ⟨rfl, rfl⟩
        rw [HZ.out]
        go_wp2_with fail
        go_ret
        rw [ST.out.1]
        first | exact ⟨rfl, g2⟩ | exact ⟨ret_int (ST.out.2 hz0).symm, g2⟩
    · have S2 := Lib.hid (szI_out q2)
      have ST : Hid (szI (hsize s t L) left = -1) := szI_out (by unfold hsize; omega)
      go_enter Try.func38, Try.ntmps38
      go_wp2_with fail
      refine (l_szPresentation _ _ _ s _ _ (HR.out.1.below g0.out) (by omega) (by omega)).mono ?_
      rintro e w1 ⟨rfl, hb⟩
      have g1 := below_size g0.out hb
      have x1 := HX.out.below hb HX.out.lt
      obtain ⟨m0, m1, m2, m3, m4, m5, m6⟩ := x1.cs
      rw [S1.out]
      clear hb
      go_wp2_with fail
      refine (l_szPresentation _ _ _ t _ _ (HR.out.2.1.below g1) (by omega) (by omega)).mono ?_
      rintro e w2 ⟨rfl, hb⟩
      have g2 := below_size g1 hb
      rw [S2.out]
      clear hb
      go_wp2_with fail
      go_ret
      rw [ST.out]
      exact ⟨rfl, g2⟩
  · have S1 := Lib.hid (szI_out q1)
    have ST : Hid (szI (hsize s t L) left = -1) := szI_out (by unfold hsize; omega)
    go_enter Try.func38, Try.ntmps38
    go_wp2_with fail
    refine (l_szPresentation _ _ _ s _ _ (HR.out.1.below g0.out) (by omega) (by omega)).mono ?_
    rintro e w1 ⟨rfl, hb⟩
    have g1 := below_size g0.out hb
    rw [S1.out]
    clear hb
    go_wp2_with fail
    go_ret
    rw [ST.out]
    exact ⟨rfl, g1⟩
--== laws.eqHom
set_option maxHeartbeats 4000000 in
theorem l_eqHom (u0 u1 u2 u3 u4 u5 u6 y0 y1 y2 y3 y4 y5 y6 : Value) (s t : Pres) (L : List (List Int)) (w : World) (hr : RdH w u0 u1 u2 u3 u4 u5 u6 s t L) (hy : RdH w y0 y1 y2 y3 y4 y5 y6 s t L) :
    Calls Try.prog 42 #[.agg #[u0, u1, u2, u3, u4, u5, u6], .agg #[y0, y1, y2, y3, y4, y5, y6]] w (RetV w (.bool true)) := by
  have HR := Lib.hid hr
  have HY := Lib.hid hy
  obtain ⟨⟨a0, c0, rfl⟩, ⟨a1, c1, rfl⟩, ⟨a2, c2, rfl⟩, ⟨a3, c3, rfl⟩, ⟨a4, c4, rfl⟩, ⟨a5, c5, rfl⟩, ⟨a6, c6, rfl⟩⟩ := hr.forms
  obtain ⟨⟨b0, d0, rfl⟩, ⟨b1, d1, rfl⟩, ⟨b2, d2, rfl⟩, ⟨b3, d3, rfl⟩, ⟨b4, d4, rfl⟩, ⟨b5, d5, rfl⟩, ⟨b6, d6, rfl⟩⟩ := hy.forms
  have g0 := Lib.hid (below_allocs2 w (Obj.cells #[Value.slice a0 s.n c0, Value.slice a1 s.powers.length c1, Value.slice a2 s.conj.length c2, Value.slice a3 t.n c3, Value.slice a4 t.powers.length c4, Value.slice a5 t.conj.length c5, Value.slice a6 L.length c6] 57)
    (Obj.cells #[Value.slice b0 s.n d0, Value.slice b1 s.powers.length d1, Value.slice b2 s.conj.length d2, Value.slice b3 t.n d3, Value.slice b4 t.powers.length d4, Value.slice b5 t.conj.length d5, Value.slice b6 L.length d6] 57))
  have hx := (Hx.new 57 w (Value.slice a0 s.n c0) (Value.slice a1 s.powers.length c1) (Value.slice a2 s.conj.length c2) (Value.slice a3 t.n c3) (Value.slice a4 t.powers.length c4) (Value.slice a5 t.conj.length c5) (Value.slice a6 L.length c6)).below (below_alloc _ (Obj.cells #[Value.slice b0 s.n d0, Value.slice b1 s.powers.length d1, Value.slice b2 s.conj.length d2, Value.slice b3 t.n d3, Value.slice b4 t.powers.length d4, Value.slice b5 t.conj.length d5, Value.slice b6 L.length d6] 57)) (by simp)
  have hz := Hx.new 57 (w.alloc (Obj.cells #[Value.slice a0 s.n c0, Value.slice a1 s.powers.length c1, Value.slice a2 s.conj.length c2, Value.slice a3 t.n c3, Value.slice a4 t.powers.length c4, Value.slice a5 t.conj.length c5, Value.slice a6 L.length c6] 57)) (Value.slice b0 s.n d0) (Value.slice b1 s.powers.length d1) (Value.slice b2 s.conj.length d2) (Value.slice b3 t.n d3) (Value.slice b4 t.powers.length d4) (Value.slice b5 t.conj.length d5) (Value.slice b6 L.length d6)
  rw [show (w.alloc (Obj.cells #[Value.slice a0 s.n c0, Value.slice a1 s.powers.length c1, Value.slice a2 s.conj.length c2, Value.slice a3 t.n c3, Value.slice a4 t.powers.length c4, Value.slice a5 t.conj.length c5, Value.slice a6 L.length c6] 57)).heap.size = w.heap.size + 1 by simp] at hz
  have HX := Lib.hid hx
  have HZ := Lib.hid hz
  clear hr hy hx hz
  go_enter Try.func42, Try.ntmps42
  go_wp2_with fail
  refine (l_eqPresentation _ _ _ _ _ _ s _ (HR.out.1.below g0.out) (HY.out.1.below g0.out)).mono ?_
  rintro e w1 ⟨rfl, hb⟩
  have g1 := below_size g0.out hb
  have x1 := HX.out.below hb HX.out.lt
  have z1 := HZ.out.below hb HZ.out.lt
  obtain ⟨m0, m1, m2, m3, m4, m5, m6⟩ := x1.cs
  obtain ⟨n0, n1, n2, n3, n4, n5, n6⟩ := z1.cs
  clear hb
  go_wp2_with fail
  refine (l_eqPresentation _ _ _ _ _ _ t _ (HR.out.2.1.below g1) (HY.out.2.1.below g1)).mono ?_
  rintro e w2 ⟨rfl, hb⟩
  have g2 := below_size g1 hb
  have x2 := x1.below hb x1.lt
  have z2 := z1.below hb z1.lt
  clear m0 m1 m2 m3 m4 m5 m6 n0 n1 n2 n3 n4 n5 n6 hb
  obtain ⟨m0, m1, m2, m3, m4, m5, m6⟩ := x2.cs
  obtain ⟨n0, n1, n2, n3, n4, n5, n6⟩ := z2.cs
  go_wp2_with fail
  refine (l_eqInt64SS_same _ _ L _ (HR.out.2.2.below g2) (HY.out.2.2.below g2)).mono ?_
  rintro e w3 ⟨rfl, hb⟩
  have g3 := below_size g2 hb
  clear hb
  go_wp2_with fail
  go_ret
  exact ⟨rfl, g3⟩
--== laws.toHom
set_option maxHeartbeats 8000000 in
theorem l_toHom (u0 u1 u2 u3 u4 u5 u6 : Value) (s t : Pres) (L : List (List Int)) (w : World) (hr : RdH w u0 u1 u2 u3 u4 u5 u6 s t L) (hs : hsize s t L ≤ 1000000000) :
    Calls Try.prog 40 #[.agg #[u0, u1, u2, u3, u4, u5, u6]] w (RetH w s t L) := by
  have HR := Lib.hid hr
  obtain ⟨⟨a0, c0, rfl⟩, ⟨a1, c1, rfl⟩, ⟨a2, c2, rfl⟩, ⟨a3, c3, rfl⟩, ⟨a4, c4, rfl⟩, ⟨a5, c5, rfl⟩, ⟨a6, c6, rfl⟩⟩ := hr.forms
  obtain ⟨q1, q2, q3, q4⟩ : psize s ≤ 1000000000 ∧ psize t ≤ 1000000000 ∧ L.length ≤ 1000000000 ∧ (cat L).length ≤ 1000000000 := by unfold hsize size2 at hs; omega
  clear hr hs
  have G0 := Lib.hid (below_allocs3 w (Obj.cells #[Value.slice a0 s.n c0, Value.slice a1 s.powers.length c1, Value.slice a2 s.conj.length c2, Value.slice a3 t.n c3, Value.slice a4 t.powers.length c4, Value.slice a5 t.conj.length c5, Value.slice a6 L.length c6] 53)
    (Obj.cells #[Value.slice none 0 0, Value.slice none 0 0, Value.slice none 0 0, Value.slice none 0 0, Value.slice none 0 0, Value.slice none 0 0, Value.slice none 0 0] 57)
    (Obj.cells #[Value.slice none 0 0, Value.slice none 0 0, Value.slice none 0 0, Value.slice none 0 0, Value.slice none 0 0, Value.slice none 0 0, Value.slice none 0 0] 57))
  have x1 := (((Hx.new 53 w (Value.slice a0 s.n c0) (Value.slice a1 s.powers.length c1) (Value.slice a2 s.conj.length c2) (Value.slice a3 t.n c3) (Value.slice a4 t.powers.length c4) (Value.slice a5 t.conj.length c5) (Value.slice a6 L.length c6)).below (below_alloc _ (Obj.cells #[Value.slice none 0 0, Value.slice none 0 0, Value.slice none 0 0, Value.slice none 0 0, Value.slice none 0 0, Value.slice none 0 0, Value.slice none 0 0] 57)) (by simp)).below (below_alloc _ (Obj.cells #[Value.slice none 0 0, Value.slice none 0 0, Value.slice none 0 0, Value.slice none 0 0, Value.slice none 0 0, Value.slice none 0 0, Value.slice none 0 0] 57)) (by simp; omega))
  have x2 := (Hx.new 57 (w.alloc (Obj.cells #[Value.slice a0 s.n c0, Value.slice a1 s.powers.length c1, Value.slice a2 s.conj.length c2, Value.slice a3 t.n c3, Value.slice a4 t.powers.length c4, Value.slice a5 t.conj.length c5, Value.slice a6 L.length c6] 53)) (.slice none 0 0) (.slice none 0 0) (.slice none 0 0) (.slice none 0 0) (.slice none 0 0) (.slice none 0 0) (.slice none 0 0)).below (below_alloc _ (Obj.cells #[Value.slice none 0 0, Value.slice none 0 0, Value.slice none 0 0, Value.slice none 0 0, Value.slice none 0 0, Value.slice none 0 0, Value.slice none 0 0] 57)) (by simp)
  have x3 := Hx.new 57 ((w.alloc (Obj.cells #[Value.slice a0 s.n c0, Value.slice a1 s.powers.length c1, Value.slice a2 s.conj.length c2, Value.slice a3 t.n c3, Value.slice a4 t.powers.length c4, Value.slice a5 t.conj.length c5, Value.slice a6 L.length c6] 53)).alloc (Obj.cells #[Value.slice none 0 0, Value.slice none 0 0, Value.slice none 0 0, Value.slice none 0 0, Value.slice none 0 0, Value.slice none 0 0, Value.slice none 0 0] 57)) (.slice none 0 0) (.slice none 0 0) (.slice none 0 0) (.slice none 0 0) (.slice none 0 0) (.slice none 0 0) (.slice none 0 0)
  simp only [World.size_alloc] at x2 x3
  have X1 := Lib.hid x1
  have X2 := Lib.hid x2
  have X3 := Lib.hid x3
  clear x1 x2 x3
  go_enter Try.func40, Try.ntmps40
  go_wp2_with fail
  refine (l_toPresentation _ _ _ s _ (HR.out.1.below G0.out) q1).mono ?_
  rintro e w1 ⟨y0, y1, y2, rfl, hP1, hb⟩
  have g1 := below_size G0.out hb
  have k1 := X1.out.below hb X1.out.lt
  have k2 := X2.out.below hb X2.out.lt
  have k3 := X3.out.below hb X3.out.lt
  have z1 : w.heap.size + 1 + 1 < w1.heap.size := k3.lt
  have z0 : w.heap.size < w1.heap.size := by omega
  have z2 : w.heap.size + 1 < w1.heap.size := by omega
  obtain ⟨a0', n0', c0', a1', n1', c1', a2', n2', c2', rfl, rfl, rfl⟩ := hP1.formsE
  have O1 : Hid (OP w1 (fun k => w.heap.size + 1 + 1 + 1 ≤ k ∧ k < w1.heap.size) (.slice a0' n0' c0') (.slice a1' n1' c1') (.slice a2' n2' c2') s) := OP.sub hP1 fun k hk h => ⟨by have := h.1; simp at this; omega, hk⟩
  have K1 := Lib.hid k1
  have K2 := Lib.hid k2
  have K3 := Lib.hid k3
  obtain ⟨m0, m1, m2, m3, m4, m5, m6⟩ := k1.cs
  obtain ⟨t0, t1, t2, t3, t4, t5, t6⟩ := k3.cs
  have r0 := k3.fr 0
  have r1 := k3.fr 1
  have r2 := k3.fr 2
  clear hb hP1 k1 k2 k3
  go_wp2_with fail
  have g2 := below_set3 g1 (b := w.heap.size + 1 + 1) (by omega) 0 1 2 (.slice a0' n0' c0') (.slice a1' n1' c1') (.slice a2' n2' c2')
  have j3 := K3.out.s012 (.slice a0' n0' c0') (.slice a1' n1' c1') (.slice a2' n2' c2')
  have j1 := ((K1.out.other (c := w.heap.size + 1 + 1) (by omega) 0 (.slice a0' n0' c0')).other (c := w.heap.size + 1 + 1) (by omega) 1 (.slice a1' n1' c1')).other (c := w.heap.size + 1 + 1) (by omega) 2 (.slice a2' n2' c2')
  have j2 := ((K2.out.other (c := w.heap.size + 1 + 1) (by omega) 0 (.slice a0' n0' c0')).other (c := w.heap.size + 1 + 1) (by omega) 1 (.slice a1' n1' c1')).other (c := w.heap.size + 1 + 1) (by omega) 2 (.slice a2' n2' c2')
  have o1 := OP.sets (OP.sets (OP.sets O1.out (b := w.heap.size + 1 + 1) (fun h => by have := h.1; omega) 0 (.slice a0' n0' c0')) (b := w.heap.size + 1 + 1) (fun h => by have := h.1; omega) 1 (.slice a1' n1' c1')) (b := w.heap.size + 1 + 1) (fun h => by have := h.1; omega) 2 (.slice a2' n2' c2')
  refine (l_toPresentation _ _ _ t _ (HR.out.2.1.below g2) q2).mono ?_
  rintro e w2 ⟨y3, y4, y5, rfl, hP2, hb⟩
  have g3 := below_size g2 hb
  have k1 := j1.below hb j1.lt
  have k2 := j2.below hb j2.lt
  have k3 := j3.below hb j3.lt
  have o2 := OP.below o1 hb
  have zz1 : w.heap.size + 1 + 1 < w2.heap.size := k3.lt
  have zz0 : w.heap.size < w2.heap.size := by omega
  have zz2 : w.heap.size + 1 < w2.heap.size := by omega
  obtain ⟨a3', n3', c3', a4', n4', c4', a5', n5', c5', rfl, rfl, rfl⟩ := hP2.formsE
  have s12 : w1.heap.size ≤ w2.heap.size := by have := hb.size; simp at this; omega
  have O2a := Lib.hid o2
  have O2b : Hid (OP w2 (fun k => w.heap.size + 1 + 1 + 1 ≤ k ∧ k < w2.heap.size) (.slice a3' n3' c3') (.slice a4' n4' c4') (.slice a5' n5' c5') t) := OP.sub hP2 fun k hk h => ⟨by have := h.1; simp at this; omega, hk⟩
  have L1 := Lib.hid k1
  have L2 := Lib.hid k2
  have L3 := Lib.hid k3
  clear m0 m1 m2 m3 m4 m5 m6 t0 t1 t2 t3 t4 t5 t6 r0 r1 r2 K1 K2 K3 g1 g2 j1 j2 j3 o1 o2 hb hP2 O1 z0 z1 z2
  obtain ⟨m0, m1, m2, m3, m4, m5, m6⟩ := k1.cs
  obtain ⟨t0, t1, t2, t3, t4, t5, t6⟩ := k3.cs
  have r3 := k3.fr 3
  have r4 := k3.fr 4
  have r5 := k3.fr 5
  clear k1 k2 k3
  go_wp2_with fail
  have g4 := below_set3 g3 (b := w.heap.size + 1 + 1) (by omega) 3 4 5 (.slice a3' n3' c3') (.slice a4' n4' c4') (.slice a5' n5' c5')
  have j3 := L3.out.s345 (.slice a3' n3' c3') (.slice a4' n4' c4') (.slice a5' n5' c5')
  have j2 := ((L2.out.other (c := w.heap.size + 1 + 1) (by omega) 3 (.slice a3' n3' c3')).other (c := w.heap.size + 1 + 1) (by omega) 4 (.slice a4' n4' c4')).other (c := w.heap.size + 1 + 1) (by omega) 5 (.slice a5' n5' c5')
  have oA := OP.sets (OP.sets (OP.sets O2a.out (b := w.heap.size + 1 + 1) (fun h => by have := h.1; omega) 3 (.slice a3' n3' c3')) (b := w.heap.size + 1 + 1) (fun h => by have := h.1; omega) 4 (.slice a4' n4' c4')) (b := w.heap.size + 1 + 1) (fun h => by have := h.1; omega) 5 (.slice a5' n5' c5')
  have oB := OP.sets (OP.sets (OP.sets O2b.out (b := w.heap.size + 1 + 1) (fun h => by have := h.1; omega) 3 (.slice a3' n3' c3')) (b := w.heap.size + 1 + 1) (fun h => by have := h.1; omega) 4 (.slice a4' n4' c4')) (b := w.heap.size + 1 + 1) (fun h => by have := h.1; omega) 5 (.slice a5' n5' c5')
  refine (l_toInt64SS _ L _ (HR.out.2.2.below g4) q3 q4).mono ?_
  rintro e w3 ⟨y6, rfl, hP3, hb⟩
  have g5 := below_size g4 hb
  have k2 := j2.below hb j2.lt
  have k3 := j3.below hb j3.lt
  have zy1 : w.heap.size + 1 + 1 < w3.heap.size := k3.lt
  have zy0 : w.heap.size < w3.heap.size := by omega
  have zy2 : w.heap.size + 1 < w3.heap.size := by omega
  obtain ⟨a6', c6', rfl, _, _⟩ := (O2.rd hP3).form
  have s23 : w2.heap.size ≤ w3.heap.size := by have := hb.size; simp at this; omega
  have OA := Lib.hid (OP.below oA hb)
  have OB := Lib.hid (OP.below oB hb)
  have OC : Hid (O2 w3 (fun k => w.heap.size + 1 + 1 + 1 ≤ k ∧ k < w3.heap.size) (.slice a6' L.length c6') L) := local_O2.mono hP3 fun k hk h => ⟨by have := h.1; simp at this; omega, hk⟩
  have M2 := Lib.hid k2
  have M3 := Lib.hid k3
  clear m0 m1 m2 m3 m4 m5 m6 t0 t1 t2 t3 t4 t5 t6 r3 r4 r5 L1 L2 L3 g3 g4 j2 j3 oA oB hb hP3 O2a O2b zz0 zz1 zz2
  obtain ⟨t0, t1, t2, t3, t4, t5, t6⟩ := k3.cs
  obtain ⟨m0, m1, m2, m3, m4, m5, m6⟩ := k2.cs
  have r6 := k3.fr 6
  have fr2 : ∀ o, w3.frozen? ⟨w.heap.size + 1, o, none⟩ = false := fun o => k2.fr o
  have f0 := fr2 0
  have f1 := fr2 1
  have f2 := fr2 2
  have f3 := fr2 3
  have f4 := fr2 4
  have f5 := fr2 5
  have f6 := fr2 6
  clear k2 k3 fr2
  go_wp2_with fail
  refine bodyPost_ret (v := .agg #[.slice a0' n0' c0', .slice a1' n1' c1', .slice a2' n2' c2', .slice a3' n3' c3', .slice a4' n4' c4', .slice a5' n5' c5', .slice a6' L.length c6']) (by simp [results, Try.results40, go_sem, m0, m1, m2, m3, m4, m5, m6]) rfl ⟨_, _, _, _, _, _, _, rfl, ⟨?_, ?_, ?_⟩, ?_⟩
  · exact (OP.rd (OP.sets (OP.sets (OP.sets (OP.sets (OP.sets (OP.sets (OP.sets (OP.sets OA.out (b := w.heap.size + 1 + 1) (fun h => by have := h.1; omega) 6 _) (b := w.heap.size + 1) (fun h => by have := h.1; omega) 0 _) (b := w.heap.size + 1) (fun h => by have := h.1; omega) 1 _) (b := w.heap.size + 1) (fun h => by have := h.1; omega) 2 _) (b := w.heap.size + 1) (fun h => by have := h.1; omega) 3 _) (b := w.heap.size + 1) (fun h => by have := h.1; omega) 4 _) (b := w.heap.size + 1) (fun h => by have := h.1; omega) 5 _) (b := w.heap.size + 1) (fun h => by have := h.1; omega) 6 _))
  · exact (OP.rd (OP.sets (OP.sets (OP.sets (OP.sets (OP.sets (OP.sets (OP.sets (OP.sets OB.out (b := w.heap.size + 1 + 1) (fun h => by have := h.1; omega) 6 _) (b := w.heap.size + 1) (fun h => by have := h.1; omega) 0 _) (b := w.heap.size + 1) (fun h => by have := h.1; omega) 1 _) (b := w.heap.size + 1) (fun h => by have := h.1; omega) 2 _) (b := w.heap.size + 1) (fun h => by have := h.1; omega) 3 _) (b := w.heap.size + 1) (fun h => by have := h.1; omega) 4 _) (b := w.heap.size + 1) (fun h => by have := h.1; omega) 5 _) (b := w.heap.size + 1) (fun h => by have := h.1; omega) 6 _))
  · exact O2.rd (local_O2.sets (local_O2.sets (local_O2.sets (local_O2.sets (local_O2.sets (local_O2.sets (local_O2.sets (local_O2.sets OC.out (b := w.heap.size + 1 + 1) (fun h => by have := h.1; omega) 6 _) (b := w.heap.size + 1) (fun h => by have := h.1; omega) 0 _) (b := w.heap.size + 1) (fun h => by have := h.1; omega) 1 _) (b := w.heap.size + 1) (fun h => by have := h.1; omega) 2 _) (b := w.heap.size + 1) (fun h => by have := h.1; omega) 3 _) (b := w.heap.size + 1) (fun h => by have := h.1; omega) 4 _) (b := w.heap.size + 1) (fun h => by have := h.1; omega) 5 _) (b := w.heap.size + 1) (fun h => by have := h.1; omega) 6 _)
  · exact (((((((g5.setCell (p := ⟨w.heap.size + 1 + 1, 6, none⟩) (by simp; omega) _).setCell (p := ⟨w.heap.size + 1, 0, none⟩) (by simp) _).setCell (p := ⟨w.heap.size + 1, 1, none⟩) (by simp) _).setCell (p := ⟨w.heap.size + 1, 2, none⟩) (by simp) _).setCell (p := ⟨w.heap.size + 1, 3, none⟩) (by simp) _).setCell (p := ⟨w.heap.size + 1, 4, none⟩) (by simp) _).setCell (p := ⟨w.heap.size + 1, 5, none⟩) (by simp) _).setCell (p := ⟨w.heap.size + 1, 6, none⟩) (by simp) _
end Go.Proofs.Ythnpndheaailjaa
