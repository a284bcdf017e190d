/-
  DirectProduct.
-/
import Derived.Test.YthnpndheaailjaaDir
import Derived.Test.YthnpndheaailjaaDis
namespace Go.Proofs.Ythnpndheaailjaa
set_option linter.unusedVariables false
set_option linter.unusedSimpArgs false
set_option maxRecDepth 100000
open Go.RowKit

--== impl.DirectProduct
set_option maxHeartbeats 4000000 in
theorem i_DirectProduct (a1 a2 a3 : Value) (a : Pres) (b1 b2 b3 : Value) (b : Pres) (w : World) (ha : RdP w a1 a2 a3 a) (hb : RdP w b1 b2 b3 b) :
    Calls Try.prog 33 #[.agg #[a1, a2, a3], .agg #[b1, b2, b3]] w (RetP2 w (dirX a b) (dirC a b)) := by
  have HA := Lib.hid ha
  have HB := Lib.hid hb
  obtain ⟨ao1, aq1, rfl, _, _⟩ := ha.1.form
  obtain ⟨ao2, aq2, rfl, _, _⟩ := ha.2.1.form
  obtain ⟨ao3, aq3, rfl, _, _⟩ := ha.2.2.form
  obtain ⟨bo1, bq1, rfl, _, _⟩ := hb.1.form
  obtain ⟨bo2, bq2, rfl, _, _⟩ := hb.2.1.form
  obtain ⟨bo3, bq3, rfl, _, _⟩ := hb.2.2.form
  have g1 := below_allocs3 w (Obj.cells #[Value.slice ao1 a.orders.length aq1, Value.slice ao2 a.powers.length aq2, Value.slice ao3 a.conj.length aq3] 32) (Obj.cells #[Value.slice bo1 b.orders.length bq1, Value.slice bo2 b.powers.length bq2, Value.slice bo3 b.conj.length bq3] 32) (Obj.cells #[Value.slice none 0 0, Value.slice none 0 0, Value.slice none 0 0] 32)
  have bA := ((Bx.new w (Value.slice ao1 a.orders.length aq1) (Value.slice ao2 a.powers.length aq2) (Value.slice ao3 a.conj.length aq3)).old (Obj.cells #[Value.slice bo1 b.orders.length bq1, Value.slice bo2 b.powers.length bq2, Value.slice bo3 b.conj.length bq3] 32)).old (Obj.cells #[Value.slice none 0 0, Value.slice none 0 0, Value.slice none 0 0] 32)
  have bB := (Bx.new (w.alloc (Obj.cells #[Value.slice ao1 a.orders.length aq1, Value.slice ao2 a.powers.length aq2, Value.slice ao3 a.conj.length aq3] 32)) (Value.slice bo1 b.orders.length bq1) (Value.slice bo2 b.powers.length bq2) (Value.slice bo3 b.conj.length bq3)).old (Obj.cells #[Value.slice none 0 0, Value.slice none 0 0, Value.slice none 0 0] 32)
  have x0 := Bx.new ((w.alloc (Obj.cells #[Value.slice ao1 a.orders.length aq1, Value.slice ao2 a.powers.length aq2, Value.slice ao3 a.conj.length aq3] 32)).alloc (Obj.cells #[Value.slice bo1 b.orders.length bq1, Value.slice bo2 b.powers.length bq2, Value.slice bo3 b.conj.length bq3] 32)) (Value.slice none 0 0) (Value.slice none 0 0) (Value.slice none 0 0)
  rw [show (w.alloc (Obj.cells #[Value.slice ao1 a.orders.length aq1, Value.slice ao2 a.powers.length aq2, Value.slice ao3 a.conj.length aq3] 32)).heap.size = w.heap.size + 1 by simp] at bB
  rw [show ((w.alloc (Obj.cells #[Value.slice ao1 a.orders.length aq1, Value.slice ao2 a.powers.length aq2, Value.slice ao3 a.conj.length aq3] 32)).alloc (Obj.cells #[Value.slice bo1 b.orders.length bq1, Value.slice bo2 b.powers.length bq2, Value.slice bo3 b.conj.length bq3] 32)).heap.size = w.heap.size + 1 + 1 by simp] at x0
  have HG := Lib.hid g1
  have XA := Lib.hid bA
  have XB := Lib.hid bB
  have XR := Lib.hid x0
  clear ha hb g1 bA bB x0
  by_cases hVa : validB a = true
  case neg =>
    have hVa' : validB a = false := by simpa using hVa
    have HK := Lib.hid (dirC_1 (a := a) (b := b) (fun h => hVa h.1))
    have HX : Hid (dirX a b = noP) := by show _ = _; unfold dirX; rw [HK.out]; exact okP_ne _ (by omega)
    clear hVa
    go_enter Try.func33, Try.ntmps33
    go_wp2_with fail
    refine (i_IsPresentation _ _ _ a _ (HA.out.below HG.out)).mono ?_
    rintro e w1 ⟨rfl, hb⟩
    have g2 := below_size HG.out hb
    have x1 := XR.out.below hb XR.out.lt
    rw [hVa']
    clear hb hVa'
    have p0 := x1.c0
    have p1 := x1.c1
    have p2 := x1.c2
    have q0 := x1.fr 0
    have q1 := x1.fr 1
    have q2 := x1.fr 2
    have hW' := set3 (b := w.heap.size + 1 + 1) g2 (by omega) (Value.slice none 0 0) (Value.slice none 0 0) (Value.slice none 0 0)
    go_wp2_with fail
    refine bodyPost_ret (v := .tuple #[.agg #[Value.slice none 0 0, Value.slice none 0 0, Value.slice none 0 0], .int .i64 1]) (by simp [results, Try.results33, go_sem, p0, p1, p2]) rfl ?_
    rw [HK.out, HX.out]
    exact ⟨_, _, _, rfl, OP.none _ _, hW'⟩
  by_cases hVb : validB b = true
  case neg =>
    have hVb' : validB b = false := by simpa using hVb
    have HK := Lib.hid (dirC_1 (a := a) (b := b) (fun h => hVb h.2))
    have HX : Hid (dirX a b = noP) := by show _ = _; unfold dirX; rw [HK.out]; exact okP_ne _ (by omega)
    clear hVb
    go_enter Try.func33, Try.ntmps33
    go_wp2_with fail
    refine (i_IsPresentation _ _ _ a _ (HA.out.below HG.out)).mono ?_
    rintro e w1 ⟨rfl, hb⟩
    have g2 := below_size HG.out hb
    have x1 := XR.out.below hb XR.out.lt
    have y1 := XB.out.below hb XB.out.lt
    have n0 := y1.c0
    have n1 := y1.c1
    have n2 := y1.c2
    rw [hVa]
    clear hb hVa
    go_wp2_with fail
    refine (i_IsPresentation _ _ _ b _ (HB.out.below g2)).mono ?_
    rintro e w2 ⟨rfl, hb⟩
    have g3 := below_size g2 hb
    have x2 := x1.below hb x1.lt
    rw [hVb']
    clear hb hVb' n0 n1 n2 y1 x1 g2
    have p0 := x2.c0
    have p1 := x2.c1
    have p2 := x2.c2
    have q0 := x2.fr 0
    have q1 := x2.fr 1
    have q2 := x2.fr 2
    have hW' := set3 (b := w.heap.size + 1 + 1) g3 (by omega) (Value.slice none 0 0) (Value.slice none 0 0) (Value.slice none 0 0)
    go_wp2_with fail
    refine bodyPost_ret (v := .tuple #[.agg #[Value.slice none 0 0, Value.slice none 0 0, Value.slice none 0 0], .int .i64 1]) (by simp [results, Try.results33, go_sem, p0, p1, p2]) rfl ?_
    rw [HK.out, HX.out]
    exact ⟨_, _, _, rfl, OP.none _ _, hW'⟩
  have HVa := Lib.hid (validB_true.1 hVa)
  have HVb := Lib.hid (validB_true.1 hVb)
  have HC3 : Hid (validB (dirP a b) = false → dirC a b = 3) := fun h => dirC_3 hVa hVb h
  have HC0 : Hid (validB (dirP a b) = true → dirC a b = 0) := fun h => dirC_0 hVa hVb h
  have HDX : Hid (dirX a b = okP (dirC a b) (dirP a b)) := rfl
  go_enter Try.func33, Try.ntmps33
  go_wp2_with fail
  refine (i_IsPresentation _ _ _ a _ (HA.out.below HG.out)).mono ?_
  rintro e w1 ⟨rfl, hb⟩
  have g2 := below_size HG.out hb
  have x1 := XR.out.below hb XR.out.lt
  have y1 := XB.out.below hb XB.out.lt
  have z1 := XA.out.below hb XA.out.lt
  have n0 := y1.c0
  have n1 := y1.c1
  have n2 := y1.c2
  rw [hVa]
  clear hb hVa
  go_wp2_with fail
  refine (i_IsPresentation _ _ _ b _ (HB.out.below g2)).mono ?_
  rintro e w2 ⟨rfl, hb⟩
  have g3 := below_size g2 hb
  have x2 := x1.below hb x1.lt
  have y2 := y1.below hb y1.lt
  have z2 := z1.below hb z1.lt
  rw [hVb]
  clear hb hVb n0 n1 n2
  go_wp2_with fail
  refine (i_directProduct HVa.out HVb.out _ _ _ (z2.ptr (HA.out.below g3)) (y2.ptr (HB.out.below g3))).mono ?_
  rintro e w3 ⟨u1, u2, u3, rfl, hP, hb⟩
  have g4 := below_size g3 hb
  have x3 := x2.below hb x2.lt
  have l3 := x3.lt
  have l2 := x2.lt
  obtain ⟨⟨d1, c1, rfl⟩, ⟨d2, c2, rfl⟩, ⟨d3, c3, rfl⟩⟩ := hP.forms
  clear x1 y1 z1 y2 z2 x2 hb
  have s6 := Bx.new w3 (Value.slice d1 (dirP a b).orders.length c1) (Value.slice d2 (dirP a b).powers.length c2) (Value.slice d3 (dirP a b).conj.length c3)
  have g5 := ballocD g4 (Obj.cells #[Value.slice d1 (dirP a b).orders.length c1, Value.slice d2 (dirP a b).powers.length c2, Value.slice d3 (dirP a b).conj.length c3] 32)
  have x5 := x3.old (Obj.cells #[Value.slice d1 (dirP a b).orders.length c1, Value.slice d2 (dirP a b).powers.length c2, Value.slice d3 (dirP a b).conj.length c3] 32)
  have hP5 : OP (w3.alloc (Obj.cells #[Value.slice d1 (dirP a b).orders.length c1, Value.slice d2 (dirP a b).powers.length c2, Value.slice d3 (dirP a b).conj.length c3] 32)) (win w2.heap.size w3.heap.size) _ _ _ _ := OP.below hP (below_alloc w3 _)
  have HP5 := Lib.hid hP5
  have H6 := Lib.hid s6
  have H5 := Lib.hid x5
  have G5 := Lib.hid g5
  clear hP5 s6 x5 g5 x3 hP
  go_wp2_with fail
  refine (i_IsPresentation _ _ _ (dirP a b) _ HP5.out.rd).mono ?_
  rintro e w7 ⟨rfl, hb⟩
  have g7 := below_size G5.out hb
  have x7 := H5.out.below hb H5.out.lt
  have t7 := H6.out.below hb H6.out.lt
  have hP7 := OP.below HP5.out hb
  have l7 := x7.lt
  have lt7 := t7.lt
  clear hb
  have p0 := x7.c0
  have p1 := x7.c1
  have p2 := x7.c2
  have q0 := x7.fr 0
  have q1 := x7.fr 1
  have q2 := x7.fr 2
  have m0 := t7.c0
  have m1 := t7.c1
  have m2 := t7.c2
  have HP7 := Lib.hid hP7
  have s32 := g3.size
  clear hP7
  by_cases hD : validB (dirP a b) = true
  case neg =>
    have hD' : validB (dirP a b) = false := by simpa using hD
    have HK := Lib.hid (HC3.out hD')
    rw [hD']
    clear hD hD'
    have hW' := set3 (b := w.heap.size + 1 + 1) g7 (by omega) (Value.slice none 0 0) (Value.slice none 0 0) (Value.slice none 0 0)
    go_wp2_with fail
    refine bodyPost_ret (v := .tuple #[.agg #[Value.slice none 0 0, Value.slice none 0 0, Value.slice none 0 0], .int .i64 3]) (by simp [results, Try.results33, go_sem, p0, p1, p2]) rfl ?_
    rw [HDX.out, HK.out, okP_ne _ (by omega)]
    exact ⟨_, _, _, rfl, OP.none _ _, hW'⟩
  have HK := Lib.hid (HC0.out hD)
  rw [hD]
  clear hD
  have hW' := set3 (b := w.heap.size + 1 + 1) g7 (by omega) (Value.slice d1 (dirP a b).orders.length c1) (Value.slice d2 (dirP a b).powers.length c2) (Value.slice d3 (dirP a b).conj.length c3)
  have hO' := op_set3 (b := w.heap.size + 1 + 1) HP7.out (fun h => by have := h.1; omega) (Value.slice d1 (dirP a b).orders.length c1) (Value.slice d2 (dirP a b).powers.length c2) (Value.slice d3 (dirP a b).conj.length c3)
  have HO := Lib.hid hO'
  have HW := Lib.hid hW'
  clear hO' hW'
  go_wp2_with fail
  refine bodyPost_ret (v := .tuple #[.agg #[Value.slice d1 (dirP a b).orders.length c1, Value.slice d2 (dirP a b).powers.length c2, Value.slice d3 (dirP a b).conj.length c3], .int .i64 0]) (by simp [results, Try.results33, go_sem, p0, p1, p2]) rfl ?_
  rw [HDX.out, HK.out, okP_zero]
  exact ⟨_, _, _, rfl, OP.sub HO.out (fun k hk hh => ⟨by have := hh.1; omega, hk⟩), HW.out⟩
--== spec.DirectProduct
set_option maxHeartbeats 4000000 in
theorem s_DirectProduct (a1 a2 a3 : Value) (a : Pres) (b1 b2 b3 : Value) (b : Pres) (w : World) (ha : RdP w a1 a2 a3 a) (hb : RdP w b1 b2 b3 b) :
    Calls Try.prog 32 #[.agg #[a1, a2, a3], .agg #[b1, b2, b3]] w (RetP2 w (dirX a b) (dirC a b)) := by
  have HA := Lib.hid ha
  have HB := Lib.hid hb
  obtain ⟨ao1, aq1, rfl, _, _⟩ := ha.1.form
  obtain ⟨ao2, aq2, rfl, _, _⟩ := ha.2.1.form
  obtain ⟨ao3, aq3, rfl, _, _⟩ := ha.2.2.form
  obtain ⟨bo1, bq1, rfl, _, _⟩ := hb.1.form
  obtain ⟨bo2, bq2, rfl, _, _⟩ := hb.2.1.form
  obtain ⟨bo3, bq3, rfl, _, _⟩ := hb.2.2.form
  have g1 := below_allocs3 w (Obj.cells #[Value.slice ao1 a.orders.length aq1, Value.slice ao2 a.powers.length aq2, Value.slice ao3 a.conj.length aq3] 32) (Obj.cells #[Value.slice bo1 b.orders.length bq1, Value.slice bo2 b.powers.length bq2, Value.slice bo3 b.conj.length bq3] 32) (Obj.cells #[Value.slice none 0 0, Value.slice none 0 0, Value.slice none 0 0] 32)
  have bA := ((Bx.new w (Value.slice ao1 a.orders.length aq1) (Value.slice ao2 a.powers.length aq2) (Value.slice ao3 a.conj.length aq3)).old (Obj.cells #[Value.slice bo1 b.orders.length bq1, Value.slice bo2 b.powers.length bq2, Value.slice bo3 b.conj.length bq3] 32)).old (Obj.cells #[Value.slice none 0 0, Value.slice none 0 0, Value.slice none 0 0] 32)
  have bB := (Bx.new (w.alloc (Obj.cells #[Value.slice ao1 a.orders.length aq1, Value.slice ao2 a.powers.length aq2, Value.slice ao3 a.conj.length aq3] 32)) (Value.slice bo1 b.orders.length bq1) (Value.slice bo2 b.powers.length bq2) (Value.slice bo3 b.conj.length bq3)).old (Obj.cells #[Value.slice none 0 0, Value.slice none 0 0, Value.slice none 0 0] 32)
  have x0 := Bx.new ((w.alloc (Obj.cells #[Value.slice ao1 a.orders.length aq1, Value.slice ao2 a.powers.length aq2, Value.slice ao3 a.conj.length aq3] 32)).alloc (Obj.cells #[Value.slice bo1 b.orders.length bq1, Value.slice bo2 b.powers.length bq2, Value.slice bo3 b.conj.length bq3] 32)) (Value.slice none 0 0) (Value.slice none 0 0) (Value.slice none 0 0)
  rw [show (w.alloc (Obj.cells #[Value.slice ao1 a.orders.length aq1, Value.slice ao2 a.powers.length aq2, Value.slice ao3 a.conj.length aq3] 32)).heap.size = w.heap.size + 1 by simp] at bB
  rw [show ((w.alloc (Obj.cells #[Value.slice ao1 a.orders.length aq1, Value.slice ao2 a.powers.length aq2, Value.slice ao3 a.conj.length aq3] 32)).alloc (Obj.cells #[Value.slice bo1 b.orders.length bq1, Value.slice bo2 b.powers.length bq2, Value.slice bo3 b.conj.length bq3] 32)).heap.size = w.heap.size + 1 + 1 by simp] at x0
  have HG := Lib.hid g1
  have XA := Lib.hid bA
  have XB := Lib.hid bB
  have XR := Lib.hid x0
  clear ha hb g1 bA bB x0
  by_cases hVa : validB a = true
  case neg =>
    have hVa' : validB a = false := by simpa using hVa
    have HK := Lib.hid (dirC_1 (a := a) (b := b) (fun h => hVa h.1))
    have HX : Hid (dirX a b = noP) := by show _ = _; unfold dirX; rw [HK.out]; exact okP_ne _ (by omega)
    clear hVa
    go_enter Try.func32, Try.ntmps32
    go_wp2_with fail
    refine (s_IsPresentation _ _ _ a _ (HA.out.below HG.out)).mono ?_
    rintro e w1 ⟨rfl, hb⟩
    have g2 := below_size HG.out hb
    have x1 := XR.out.below hb XR.out.lt
    rw [hVa']
    clear hb hVa'
    have p0 := x1.c0
    have p1 := x1.c1
    have p2 := x1.c2
    have q0 := x1.fr 0
    have q1 := x1.fr 1
    have q2 := x1.fr 2
    have hW' := set3 (b := w.heap.size + 1 + 1) g2 (by omega) (Value.slice none 0 0) (Value.slice none 0 0) (Value.slice none 0 0)
    go_wp2_with fail
    refine bodyPost_ret (v := .tuple #[.agg #[Value.slice none 0 0, Value.slice none 0 0, Value.slice none 0 0], .int .i64 1]) (by simp [results, Try.results32, go_sem, p0, p1, p2]) rfl ?_
    rw [HK.out, HX.out]
    exact ⟨_, _, _, rfl, OP.none _ _, hW'⟩
  by_cases hVb : validB b = true
  case neg =>
    have hVb' : validB b = false := by simpa using hVb
    have HK := Lib.hid (dirC_1 (a := a) (b := b) (fun h => hVb h.2))
    have HX : Hid (dirX a b = noP) := by show _ = _; unfold dirX; rw [HK.out]; exact okP_ne _ (by omega)
    clear hVb
    go_enter Try.func32, Try.ntmps32
    go_wp2_with fail
    refine (s_IsPresentation _ _ _ a _ (HA.out.below HG.out)).mono ?_
    rintro e w1 ⟨rfl, hb⟩
    have g2 := below_size HG.out hb
    have x1 := XR.out.below hb XR.out.lt
    have y1 := XB.out.below hb XB.out.lt
    have n0 := y1.c0
    have n1 := y1.c1
    have n2 := y1.c2
    rw [hVa]
    clear hb hVa
    go_wp2_with fail
    refine (s_IsPresentation _ _ _ b _ (HB.out.below g2)).mono ?_
    rintro e w2 ⟨rfl, hb⟩
    have g3 := below_size g2 hb
    have x2 := x1.below hb x1.lt
    rw [hVb']
    clear hb hVb' n0 n1 n2 y1 x1 g2
    have p0 := x2.c0
    have p1 := x2.c1
    have p2 := x2.c2
    have q0 := x2.fr 0
    have q1 := x2.fr 1
    have q2 := x2.fr 2
    have hW' := set3 (b := w.heap.size + 1 + 1) g3 (by omega) (Value.slice none 0 0) (Value.slice none 0 0) (Value.slice none 0 0)
    go_wp2_with fail
    refine bodyPost_ret (v := .tuple #[.agg #[Value.slice none 0 0, Value.slice none 0 0, Value.slice none 0 0], .int .i64 1]) (by simp [results, Try.results32, go_sem, p0, p1, p2]) rfl ?_
    rw [HK.out, HX.out]
    exact ⟨_, _, _, rfl, OP.none _ _, hW'⟩
  have HVa := Lib.hid (validB_true.1 hVa)
  have HVb := Lib.hid (validB_true.1 hVb)
  have HC3 : Hid (validB (dirP a b) = false → dirC a b = 3) := fun h => dirC_3 hVa hVb h
  have HC0 : Hid (validB (dirP a b) = true → dirC a b = 0) := fun h => dirC_0 hVa hVb h
  have HDX : Hid (dirX a b = okP (dirC a b) (dirP a b)) := rfl
  go_enter Try.func32, Try.ntmps32
  go_wp2_with fail
  refine (s_IsPresentation _ _ _ a _ (HA.out.below HG.out)).mono ?_
  rintro e w1 ⟨rfl, hb⟩
  have g2 := below_size HG.out hb
  have x1 := XR.out.below hb XR.out.lt
  have y1 := XB.out.below hb XB.out.lt
  have z1 := XA.out.below hb XA.out.lt
  have n0 := y1.c0
  have n1 := y1.c1
  have n2 := y1.c2
  rw [hVa]
  clear hb hVa
  go_wp2_with fail
  refine (s_IsPresentation _ _ _ b _ (HB.out.below g2)).mono ?_
  rintro e w2 ⟨rfl, hb⟩
  have g3 := below_size g2 hb
  have x2 := x1.below hb x1.lt
  have y2 := y1.below hb y1.lt
  have z2 := z1.below hb z1.lt
  rw [hVb]
  clear hb hVb n0 n1 n2
  have n0 := y2.c0
  have n1 := y2.c1
  have n2 := y2.c2
  have o0 := z2.c0
  have o1 := z2.c1
  have o2 := z2.c2
  go_wp2_with fail
  refine (s_l07Both HVa.out HVb.out _ _ _ _ _ _ _ (HA.out.below g3) (HB.out.below g3)).mono ?_
  rintro e w3 ⟨u1, u2, u3, rfl, hP, hb⟩
  have g4 := below_size g3 hb
  have x3 := x2.below hb x2.lt
  have l3 := x3.lt
  have l2 := x2.lt
  obtain ⟨⟨d1, c1, rfl⟩, ⟨d2, c2, rfl⟩, ⟨d3, c3, rfl⟩⟩ := hP.forms
  clear x1 y1 z1 y2 z2 x2 hb n0 n1 n2 o0 o1 o2
  have s6 := Bx.new w3 (Value.slice d1 (dirP a b).orders.length c1) (Value.slice d2 (dirP a b).powers.length c2) (Value.slice d3 (dirP a b).conj.length c3)
  have g5 := ballocD g4 (Obj.cells #[Value.slice d1 (dirP a b).orders.length c1, Value.slice d2 (dirP a b).powers.length c2, Value.slice d3 (dirP a b).conj.length c3] 32)
  have x5 := x3.old (Obj.cells #[Value.slice d1 (dirP a b).orders.length c1, Value.slice d2 (dirP a b).powers.length c2, Value.slice d3 (dirP a b).conj.length c3] 32)
  have hP5 : OP (w3.alloc (Obj.cells #[Value.slice d1 (dirP a b).orders.length c1, Value.slice d2 (dirP a b).powers.length c2, Value.slice d3 (dirP a b).conj.length c3] 32)) (win w2.heap.size w3.heap.size) _ _ _ _ := OP.below hP (below_alloc w3 _)
  have HP5 := Lib.hid hP5
  have H6 := Lib.hid s6
  have H5 := Lib.hid x5
  have G5 := Lib.hid g5
  clear hP5 s6 x5 g5 x3 hP
  go_wp2_with fail
  refine (s_IsPresentation _ _ _ (dirP a b) _ HP5.out.rd).mono ?_
  rintro e w7 ⟨rfl, hb⟩
  have g7 := below_size G5.out hb
  have x7 := H5.out.below hb H5.out.lt
  have t7 := H6.out.below hb H6.out.lt
  have hP7 := OP.below HP5.out hb
  have l7 := x7.lt
  have lt7 := t7.lt
  clear hb
  have p0 := x7.c0
  have p1 := x7.c1
  have p2 := x7.c2
  have q0 := x7.fr 0
  have q1 := x7.fr 1
  have q2 := x7.fr 2
  have m0 := t7.c0
  have m1 := t7.c1
  have m2 := t7.c2
  have HP7 := Lib.hid hP7
  have s32 := g3.size
  clear hP7
  by_cases hD : validB (dirP a b) = true
  case neg =>
    have hD' : validB (dirP a b) = false := by simpa using hD
    have HK := Lib.hid (HC3.out hD')
    rw [hD']
    clear hD hD'
    have hW' := set3 (b := w.heap.size + 1 + 1) g7 (by omega) (Value.slice none 0 0) (Value.slice none 0 0) (Value.slice none 0 0)
    go_wp2_with fail
    refine bodyPost_ret (v := .tuple #[.agg #[Value.slice none 0 0, Value.slice none 0 0, Value.slice none 0 0], .int .i64 3]) (by simp [results, Try.results32, go_sem, p0, p1, p2]) rfl ?_
    rw [HDX.out, HK.out, okP_ne _ (by omega)]
    exact ⟨_, _, _, rfl, OP.none _ _, hW'⟩
  have HK := Lib.hid (HC0.out hD)
  rw [hD]
  clear hD
  have hW' := set3 (b := w.heap.size + 1 + 1) g7 (by omega) (Value.slice d1 (dirP a b).orders.length c1) (Value.slice d2 (dirP a b).powers.length c2) (Value.slice d3 (dirP a b).conj.length c3)
  have hO' := op_set3 (b := w.heap.size + 1 + 1) HP7.out (fun h => by have := h.1; omega) (Value.slice d1 (dirP a b).orders.length c1) (Value.slice d2 (dirP a b).powers.length c2) (Value.slice d3 (dirP a b).conj.length c3)
  have HO := Lib.hid hO'
  have HW := Lib.hid hW'
  clear hO' hW'
  go_wp2_with fail
  refine bodyPost_ret (v := .tuple #[.agg #[Value.slice d1 (dirP a b).orders.length c1, Value.slice d2 (dirP a b).powers.length c2, Value.slice d3 (dirP a b).conj.length c3], .int .i64 0]) (by simp [results, Try.results32, go_sem, p0, p1, p2]) rfl ?_
  rw [HDX.out, HK.out, okP_zero]
  exact ⟨_, _, _, rfl, OP.sub HO.out (fun k hk hh => ⟨by have := hh.1; omega, hk⟩), HW.out⟩
end Go.Proofs.Ythnpndheaailjaa
