/-
  The direct product: the program's side.
-/
import Derived.Test.YthnpndheaailjaaApz
import Derived.Deep.DeepCutAuto
import Derived.Deep.DrawnRows
namespace Go.Proofs.Ythnpndheaailjaa
set_option linter.unusedVariables false
set_option linter.unusedSimpArgs false
set_option maxRecDepth 100000
open Go.RowKit
attribute [local go_sem ↓] Go.wp_at_zero Go.wp_at_succ

theorem ballocD {w0 w : World} (h : Below w0.heap.size w0 w) (o : Obj) : Below w0.heap.size w0 (w.alloc o) := h.alloc h.size o
theorem BInv.mk1 {w wx : World} {b2 b4 : Nat} {S : Nat → Prop} {v1 v2 v3 : Value} {P : Pres} (X2 : Bx wx b2 (.slice none 0 0) (.slice none 0 0) (.slice none 0 0)) {u1 u2 u3 : Value} (X4 : Bx wx b4 u1 u2 u3) (h : OP wx S v1 v2 v3 P)
    (hS : ∀ k, S k → w.heap.size ≤ k ∧ k ≠ b2 ∧ k ≠ b4) (be : Below w.heap.size w wx) (hb4 : w.heap.size ≤ b4) (hne : b2 ≠ b4) : BInv w b2 b4 P (((wx.setCell ⟨b4, 0, none⟩ v1).setCell ⟨b4, 1, none⟩ v2).setCell ⟨b4, 2, none⟩ v3) := by
  have n4 : ¬ S b4 := fun h => (hS _ h).2.2 rfl
  exact ⟨v1, v2, v3, ((X2.other hne 0 _).other hne 1 _).other hne 2 _, ((X4.set0 _).set1 _).set2 _, OP.sub (OP.sets (OP.sets (OP.sets h n4 0 _) n4 1 _) n4 2 _) fun k _ hk => hS k hk,
    ((be.setCell (p := ⟨b4, 0, none⟩) hb4 _).setCell (p := ⟨b4, 1, none⟩) hb4 _).setCell (p := ⟨b4, 2, none⟩) hb4 _⟩
theorem BInv.mk2 {w wx : World} {b2 : Nat} {S : Nat → Prop} {v1 v2 v3 : Value} {P : Pres} (X2 : Bx wx b2 (.slice none 0 0) (.slice none 0 0) (.slice none 0 0)) (h : OP wx S v1 v2 v3 P)
    (hS : ∀ k, S k → w.heap.size ≤ k ∧ k ≠ b2) (be : Below w.heap.size w wx) : BInv w b2 wx.heap.size P (wx.alloc (.cells #[v1, v2, v3] 32)) :=
  ⟨v1, v2, v3, X2.old _, Bx.new wx _ _ _, OP.sub (OP.below (OP.sub (S' := fun k => S k ∧ k < wx.heap.size) h fun k hk hs => ⟨hs, hk⟩) (below_alloc wx _)) fun k _ hk => ⟨(hS k hk.1).1, (hS k hk.1).2, by omega⟩, be.alloc be.size _⟩
/-- the argument of Concat, in a world where the new box comes late, ahead of it, or behind it -/
theorem cat_lit1 (w : World) (o : Obj) (va vb : Value) (xs ys : List Int) (h1 : Rd w va xs) (h2 : Rd w vb ys) :
    Rd2 ((w.alloc o).alloc (.cells #[va, vb] 22)).drew.drew (.slice (some ⟨w.heap.size + 1, 0, none⟩) 2 2) [xs, ys] ∧ Below w.heap.size w ((w.alloc o).alloc (.cells #[va, vb] 22)).drew.drew := by
  have hl := Rd2.lit2 (w := w.alloc o) 22 va vb xs ys (h1.below (below_alloc w o)) (h2.below (below_alloc w o))
  rw [show (w.alloc o).heap.size = w.heap.size + 1 by simp] at hl
  exact ⟨hl, (below_allocs2 w _ _).drew.drew⟩
theorem cat_lit2 (w : World) (o o' : Obj) (va vb : Value) (xs ys : List Int) (h1 : Rd w va xs) (h2 : Rd w vb ys) :
    Rd2 (((w.alloc o).alloc o').alloc (.cells #[va, vb] 22)).drew.drew (.slice (some ⟨w.heap.size + 1 + 1, 0, none⟩) 2 2) [xs, ys] ∧ Below w.heap.size w (((w.alloc o).alloc o').alloc (.cells #[va, vb] 22)).drew.drew := by
  have hl := Rd2.lit2 (w := (w.alloc o).alloc o') 22 va vb xs ys (h1.below (below_allocs2 w o o')) (h2.below (below_allocs2 w o o'))
  rw [show ((w.alloc o).alloc o').heap.size = w.heap.size + 1 + 1 by simp] at hl
  exact ⟨hl, (below_allocs3 w _ _ _).drew.drew⟩
theorem cat_lit3 (w : World) (o o' : Obj) (va vb : Value) (xs ys : List Int) (h1 : Rd w va xs) (h2 : Rd w vb ys) :
    Rd2 (((w.alloc o).alloc (.cells #[va, vb] 22)).alloc o').drew.drew (.slice (some ⟨w.heap.size + 1, 0, none⟩) 2 2) [xs, ys] ∧ Below w.heap.size w (((w.alloc o).alloc (.cells #[va, vb] 22)).alloc o').drew.drew := by
  have hl := (cat_lit1 w o va vb xs ys h1 h2).1
  have hb : Below ((w.alloc o).alloc (.cells #[va, vb] 22)).heap.size ((w.alloc o).alloc (.cells #[va, vb] 22)) (((w.alloc o).alloc (.cells #[va, vb] 22)).alloc o').drew.drew := (below_alloc _ o').drew.drew
  exact ⟨Rd2.below (w := ((w.alloc o).alloc (.cells #[va, vb] 22))) hl hb, (below_allocs3 w _ _ _).drew.drew⟩
theorem BInv.bel {w wx : World} {b2 b4 : Nat} {P : Pres} (h : BInv w b2 b4 P wx) : Below w.heap.size w wx := by
  obtain ⟨_, _, _, _, _, _, h⟩ := h; exact h
--== impl.padded, twice
theorem i_padF (v : Value) (xs : List Int) (y : Nat) (w : World) (hv : Rd w v xs) (hy : y ≤ 1000) (hl : xs.length ≤ 1000) :
    Calls Try.prog 139 #[v, .int .i64 0, .int .i64 y] w (RetInts w (padL 0 xs y)) := i_padded v xs 0 y w hv (by omega) hy hl
theorem i_padB (v : Value) (xs : List Int) (x : Nat) (w : World) (hv : Rd w v xs) (hx : x ≤ 1000) (hl : xs.length ≤ 1000) :
    Calls Try.prog 139 #[v, .int .i64 x, .int .i64 0] w (RetInts w (padL x xs 0)) := i_padded v xs x 0 w hv hx (by omega) hl
--== impl.directProduct
set_option maxHeartbeats 8000000 in
theorem i_directProduct {a b : Pres} (hA : ValidP a) (hB : ValidP b) (va vb : Value) (w : World) (hpa : PtrP w va a) (hpb : PtrP w vb b) :
    Calls Try.prog 95 #[va, vb] w (RetP w (dirP a b)) := by
  have hna := hA.n6
  have hnb := hB.n6
  obtain ⟨pa, a1, a2, a3, rfl, ca1, ca2, ca3, RA1, RA2, RA3⟩ := hpa
  obtain ⟨pb, b1, b2, b3, rfl, cb1, cb2, cb3, RB1, RB2, RB3⟩ := hpb
  obtain ⟨ao1, aq1, rfl, _, _⟩ := RA1.formN (n := a.n) rfl
  obtain ⟨ao2, aq2, rfl, _, _⟩ := RA2.formN hA.pl
  obtain ⟨ao3, aq3, rfl, _, _⟩ := RA3.formN hA.cl
  obtain ⟨bo1, bq1, rfl, _, _⟩ := RB1.formN (n := b.n) rfl
  obtain ⟨bo2, bq2, rfl, _, _⟩ := RB2.formN hB.pl
  obtain ⟨bo3, bq3, rfl, _, _⟩ := RB3.formN hB.cl
  have HRA1 := Lib.hid RA1
  have HRA2 := Lib.hid RA2
  have HRA3 := Lib.hid RA3
  have HRB1 := Lib.hid RB1
  have HRB2 := Lib.hid RB2
  have HRB3 := Lib.hid RB3
  have CA2 := Lib.hid ca2
  have CA3 := Lib.hid ca3
  have CB2 := Lib.hid cb2
  have CB3 := Lib.hid cb3
  have g0 := below_alloc w (Obj.cells #[Value.slice none 0 0, Value.slice none 0 0, Value.slice none 0 0] 32)
  have x0 := Bx.new w (Value.slice none 0 0) (Value.slice none 0 0) (Value.slice none 0 0)
  have z0 : (w.alloc (Obj.cells #[Value.slice none 0 0, Value.slice none 0 0, Value.slice none 0 0] 32)).heap.size = w.heap.size + 1 := by simp
  have ea1 := below_cells g0 _ _ ca1
  have eb1 := below_cells g0 _ _ cb1
  have HG := Lib.hid g0
  have HX := Lib.hid x0
  have HZ := Lib.hid z0
  have KEEP : Hid (∀ wx, Below w.heap.size w wx → Below w.heap.size w wx ∧ wx.cell? ⟨pa, 0, none⟩ = some (.slice ao1 a.n aq1) ∧ wx.cell? ⟨pb, 0, none⟩ = some (.slice bo1 b.n bq1)) := fun wx hb => ⟨hb, below_cells hb _ _ ca1, below_cells hb _ _ cb1⟩
  clear RA1 RA2 RA3 RB1 RB2 RB3 ca2 ca3 cb2 cb3 g0 x0 z0
  go_enter Try.func95, Try.ntmps95
  go_wp2_with fail
  apply via
  case h =>
    go_region
    all_goals exact ⟨rfl, rfl⟩
  go_upto_region 2 with (fail)
  go_cut [7] (fun v wx => ∃ b4, v = .pointer (some ⟨b4, 0, none⟩) ∧ w.heap.size < b4 ∧ BInv w w.heap.size b4 (triv (a.orders ++ b.orders)) wx)
  case first =>
    have L1 := Lib.hid (cat_lit1 w (Obj.cells #[Value.slice none 0 0, Value.slice none 0 0, Value.slice none 0 0] 32) _ _ _ _ HRA1.out HRB1.out)
    have L2 := Lib.hid (cat_lit2 w (Obj.cells #[Value.slice none 0 0, Value.slice none 0 0, Value.slice none 0 0] 32) (Obj.cells #[Value.slice none 0 0, Value.slice none 0 0, Value.slice none 0 0] 32) _ _ _ _ HRA1.out HRB1.out)
    have L3 := Lib.hid (cat_lit3 w (Obj.cells #[Value.slice none 0 0, Value.slice none 0 0, Value.slice none 0 0] 32) (Obj.cells #[Value.slice none 0 0, Value.slice none 0 0, Value.slice none 0 0] 32) _ _ _ _ HRA1.out HRB1.out)
    have X1 : Hid (Bx ((w.alloc (Obj.cells #[Value.slice none 0 0, Value.slice none 0 0, Value.slice none 0 0] 32)).alloc (Obj.cells #[Value.slice ao1 a.n aq1, Value.slice bo1 b.n bq1] 22)).drew.drew w.heap.size (.slice none 0 0) (.slice none 0 0) (.slice none 0 0)) := HX.out.old _
    have X2 : Hid (Bx (((w.alloc (Obj.cells #[Value.slice none 0 0, Value.slice none 0 0, Value.slice none 0 0] 32)).alloc (Obj.cells #[Value.slice none 0 0, Value.slice none 0 0, Value.slice none 0 0] 32)).alloc (Obj.cells #[Value.slice ao1 a.n aq1, Value.slice bo1 b.n bq1] 22)).drew.drew w.heap.size (.slice none 0 0) (.slice none 0 0) (.slice none 0 0)) := (HX.out.old _).old _
    have X3 : Hid (Bx (((w.alloc (Obj.cells #[Value.slice none 0 0, Value.slice none 0 0, Value.slice none 0 0] 32)).alloc (Obj.cells #[Value.slice ao1 a.n aq1, Value.slice bo1 b.n bq1] 22)).alloc (Obj.cells #[Value.slice none 0 0, Value.slice none 0 0, Value.slice none 0 0] 32)).drew.drew w.heap.size (.slice none 0 0) (.slice none 0 0) (.slice none 0 0)) := (HX.out.old _).old _
    have Y2 : Hid (Bx (((w.alloc (Obj.cells #[Value.slice none 0 0, Value.slice none 0 0, Value.slice none 0 0] 32)).alloc (Obj.cells #[Value.slice none 0 0, Value.slice none 0 0, Value.slice none 0 0] 32)).alloc (Obj.cells #[Value.slice ao1 a.n aq1, Value.slice bo1 b.n bq1] 22)).drew.drew (w.heap.size + 1) (.slice none 0 0) (.slice none 0 0) (.slice none 0 0)) := by
      have := (Bx.new (w.alloc (Obj.cells #[Value.slice none 0 0, Value.slice none 0 0, Value.slice none 0 0] 32)) (.slice none 0 0) (.slice none 0 0) (.slice none 0 0)).old (Obj.cells #[Value.slice ao1 a.n aq1, Value.slice bo1 b.n bq1] 22)
      rw [HZ.out] at this
      exact this
    have Y3 : Hid (Bx (((w.alloc (Obj.cells #[Value.slice none 0 0, Value.slice none 0 0, Value.slice none 0 0] 32)).alloc (Obj.cells #[Value.slice ao1 a.n aq1, Value.slice bo1 b.n bq1] 22)).alloc (Obj.cells #[Value.slice none 0 0, Value.slice none 0 0, Value.slice none 0 0] 32)).drew.drew (w.heap.size + 1 + 1) (.slice none 0 0) (.slice none 0 0) (.slice none 0 0)) := by
      have := Bx.new ((w.alloc (Obj.cells #[Value.slice none 0 0, Value.slice none 0 0, Value.slice none 0 0] 32)).alloc (Obj.cells #[Value.slice ao1 a.n aq1, Value.slice bo1 b.n bq1] 22)) (.slice none 0 0) (.slice none 0 0) (.slice none 0 0)
      rw [show ((w.alloc (Obj.cells #[Value.slice none 0 0, Value.slice none 0 0, Value.slice none 0 0] 32)).alloc (Obj.cells #[Value.slice ao1 a.n aq1, Value.slice bo1 b.n bq1] 22)).heap.size = w.heap.size + 1 + 1 by simp] at this
      exact this
    have HC2 : Hid (cat [a.orders, b.orders] = a.orders ++ b.orders) := by show _ = _; simp [cat]
    have HLEN : Hid ((cat [a.orders, b.orders]).length ≤ 100000000) := by
      have e1 : a.orders.length = a.n := rfl
      have e2 : b.orders.length = b.n := rfl
      show _ ≤ _
      rw [HC2.out, List.length_append]; omega
    have HL12 : Hid ((a.orders ++ b.orders).length ≤ 100) := by
      have e1 : a.orders.length = a.n := rfl
      have e2 : b.orders.length = b.n := rfl
      show _ ≤ _
      rw [List.length_append]; omega
    go_region_held3 (fun wx => Below w.heap.size w wx ∧ wx.cell? ⟨pa, 0, none⟩ = some (.slice ao1 a.n aq1) ∧ wx.cell? ⟨pb, 0, none⟩ = some (.slice bo1 b.n bq1))
      (first
        | exact KEEP.out _ HG.out.drew.drew
        | exact KEEP.out _ (ballocD HG.out _).drew.drew
        | exact KEEP.out _ (ballocD (ballocD HG.out _) _).drew.drew
        | exact KEEP.out _ (set3 hW6 (by omega) _ _ _)
        | exact KEEP.out _ hW6
        | exact KEEP.out _ (ballocD hW6 _)
        | exact KEEP.out _ hW5
        | exact KEEP.out _ (ballocD hW5 _))
      (first
        | ((go_at_call 114); (with_reducible refine (f_Concat _ _ _ L1.out.1 HLEN.out).mono ?_); (rintro e w5 ⟨u5, rfl, hI5, hB5⟩); (rw [HC2.out] at hI5); (have hW5 := below_size L1.out.2 hB5); (have X25 := X1.out.below hB5 X1.out.lt))
        | ((go_at_call 114); (with_reducible refine (f_Concat _ _ _ L2.out.1 HLEN.out).mono ?_); (rintro e w5 ⟨u5, rfl, hI5, hB5⟩); (rw [HC2.out] at hI5); (have hW5 := below_size L2.out.2 hB5); (have X25 := X2.out.below hB5 X2.out.lt); (have X45 := Y2.out.below hB5 Y2.out.lt))
        | ((go_at_call 114); (with_reducible refine (f_Concat _ _ _ L3.out.1 HLEN.out).mono ?_); (rintro e w5 ⟨u5, rfl, hI5, hB5⟩); (rw [HC2.out] at hI5); (have hW5 := below_size L3.out.2 hB5); (have X25 := X3.out.below hB5 X3.out.lt); (have X45 := Y3.out.below hB5 Y3.out.lt))
        | ((go_at_call 83); (with_reducible refine (i_trivialRelations _ _ _ hI5.rd HL12.out).mono ?_); (rintro e w6 ⟨v1, v2, v3, rfl, hP6, hB6⟩); (obtain ⟨⟨d1, e1, rfl⟩, ⟨d2, e2, rfl⟩, ⟨d3, e3, rfl⟩⟩ := hP6.forms); (have hW6 := below_size hW5 hB6); (have X26 := X25.below hB6 X25.lt); (have X46 := X45.below hB6 X45.lt); (have m0 := X46.c0); (have m1 := X46.c1); (have m2 := X46.c2); (have z0 := X46.fr 0); (have z1 := X46.fr 1); (have z2 := X46.fr 2); (have hl4 := X45.lt); (have hl2 := X25.lt))
        | ((go_at_call 83); (with_reducible refine (i_trivialRelations _ _ _ hI5.rd HL12.out).mono ?_); (rintro e w6 ⟨v1, v2, v3, rfl, hP6, hB6⟩); (obtain ⟨⟨d1, e1, rfl⟩, ⟨d2, e2, rfl⟩, ⟨d3, e3, rfl⟩⟩ := hP6.forms); (have hW6 := below_size hW5 hB6); (have X26 := X25.below hB6 X25.lt))
        | ((go_at_call 83); (with_reducible refine (i_trivialRelations _ _ _ (hI5.rd.below (below_alloc w5 _)) HL12.out).mono ?_); (rintro e w6 ⟨v1, v2, v3, rfl, hP6, hB6⟩); (obtain ⟨⟨d1, e1, rfl⟩, ⟨d2, e2, rfl⟩, ⟨d3, e3, rfl⟩⟩ := hP6.forms); (have hW6 := below_size (ballocD hW5 _) hB6); (have X26 := (X25.old (Obj.cells #[Value.slice none 0 0, Value.slice none 0 0, Value.slice none 0 0] 32)).below hB6 (X25.old (Obj.cells #[Value.slice none 0 0, Value.slice none 0 0, Value.slice none 0 0] 32)).lt); (have X46 := (Bx.new w5 (.slice none 0 0) (.slice none 0 0) (.slice none 0 0)).below hB6 (Bx.new w5 _ _ _).lt); (have m0 := X46.c0); (have m1 := X46.c1); (have m2 := X46.c2); (have z0 := X46.fr 0); (have z1 := X46.fr 1); (have z2 := X46.fr 2); (have hl4 : w5.heap.size ≤ w5.heap.size := Nat.le_refl _); (have hl2 := X25.lt)))
    all_goals (go_wp2_with fail; go_meet; first | exact ⟨_, rfl, by have h2 := X25.lt; omega, BInv.mk1 (w := w) X26 X46 hP6 (fun k hk => by have h1 := hk.1; have h2 := X25.lt; have h3 := hl4; (try simp at h1); exact ⟨by omega, by omega, by omega⟩) hW6 (by have h2 := X25.lt; omega) (by have h2 := X25.lt; omega)⟩ | exact ⟨_, rfl, X26.lt, BInv.mk2 X26 hP6 (fun k hk => by have h1 := hk.1; have h2 := X25.lt; exact ⟨by omega, by omega⟩) hW6⟩)
  case rest =>
    obtain ⟨b4, rfl, hb4, hI⟩ := hcut
    have SH0 : Hid (Shp (a.n + b.n) (triv (a.orders ++ b.orders))) := by
      have := shp_triv (a.orders ++ b.orders)
      rw [List.length_append] at this
      exact this
    have d2 := below_cells hI.bel _ _ CA2.out
    have d3 := below_cells hI.bel _ _ CA3.out
    have hp0 : Hid (dpTo a 0 b.n 0 (triv (a.orders ++ b.orders)) 0 = triv (a.orders ++ b.orders)) := rfl
    rw [← hp0.out] at hI
    clear hp0
    go_wp2_with fail
    go_loopw [42] (fun i wr => ∃ j : Nat, j ≤ a.n ∧ i = .int .i64 j ∧ BInv w w.heap.size b4 (dpTo a 0 b.n 0 (triv (a.orders ++ b.orders)) j) wr) (fun i _ => a.n - (intOf i).toNat)
    case atStart => exact ⟨0, Nat.zero_le _, rfl, hI⟩
    case round =>
      clear hI d2 d3
      obtain ⟨j, hj, rfl, hI⟩ := hrel
      have SHj : Hid (Shp (a.n + b.n) (dpTo a 0 b.n 0 (triv (a.orders ++ b.orders)) j)) := SH0.out.dpTo _ _ _ _ _
      by_cases hlt : j < a.n
      · obtain ⟨p1, o1, p2, c2, p3, c3, hBO⟩ := hI.open SHj.out.pl SHj.out.cl
        have HW := Lib.hid hBO.be
        obtain ⟨bz, oz, r, ez, hcz0, hrz0⟩ := HRA2.out.at (show j < a.powers.length by rw [hA.pl]; exact hlt)
        have hcz := below_cells HW.out _ _ hcz0
        have HRZ := Lib.hid hrz0
        obtain ⟨bc, oc, rc, ec, hcc0, hrc0⟩ := HRA3.out.at (show j < a.conj.length by rw [hA.cl]; exact hlt)
        have HRC := Lib.hid hrc0
        have HCC := Lib.hid hcc0
        have HLP : Hid ((a.powers.getD j []).length = a.n) := (hA.valid.pow j hlt).len
        have HLC : Hid ((a.conj.getD j []).length = a.n - 1 - j) := by have := hA.clen j hlt; show _ = _; omega
        have hlc := HLC.out
        have hrow : Hid (∀ k, k < (a.conj.getD j []).length → ((a.conj.getD j []).getD k []).length = a.n) := fun k hk => (tailB_true ((rowB_true (hA.row j hlt)).2.2 k hk)).1
        have HP := Lib.hid (dpTo_succ a 0 b.n 0 (triv (a.orders ++ b.orders)) j)
        rw [Nat.zero_add] at HP
        subst ez ec
        generalize dpTo a 0 b.n 0 (triv (a.orders ++ b.orders)) j = Pj at *
        generalize a.powers.getD j [] = row at *
        generalize a.conj.getD j [] = L at *
        obtain ⟨ar, cr, rfl, _, _⟩ := HRZ.out.formN HLP.out
        obtain ⟨ac, cc, rfl, _, _⟩ := HRC.out.form
        obtain ⟨g, rfl, hset⟩ := hBO.set_pow (i := j) (by omega)
        have HSET := Lib.hid hset
        have m1 := hBO.x4.c1
        have hj0 : (0 : Int) ≤ (j : Int) := by omega
        have hj1 : (j : Int) < (a.n : Int) + (b.n : Int) := by omega
        clear hset hBO hI hcz0 hrz0 hcc0 hrc0
        go_upto_region 6 with (fail)
        go_cut [] (fun wx => BInv w w.heap.size b4 (stP Pj j (padL 0 row b.n)) wx)
        case first =>
          go_region_law (go_simp; go_at_call 139; go_must (refine (i_padF _ row b.n _ (HRZ.out.below HW.out.drew) (by omega) (by rw [HLP.out]; omega)).mono ?_); rintro e w3 ⟨u3, rfl, hI3, hB3⟩; obtain ⟨hm1, ⟨r3, hr3⟩, hf3, hs3⟩ := HSET.out w3 (below_size (Below.refl _ _).drew hB3); obtain ⟨a9, c9, rfl, _, _⟩ := hI3.form; have hq := hs3 _ _ hI3)
          all_goals (go_wp2_with fail; go_meet; exact hq)
        case rest =>
          have hI := hcut
          have SHs : Hid (Shp (a.n + b.n) (stP Pj j (padL 0 row b.n))) := SHj.out.stP _ _
          have d3 := below_cells hI.bel _ _ CA3.out
          have d4 := below_cells hI.bel _ _ HCC.out
          generalize stP Pj j (padL 0 row b.n) = Q0 at *
          have hD0 : Hid (dcTo L 0 b.n j Q0 0 = Q0) := rfl
          rw [← hD0.out] at hI
          clear hcut hD0 m1 hcz HSET HW
          go_wp2_with fail
          go_loopw [62] (fun i wr2 => ∃ k : Nat, k ≤ L.length ∧ i = .int .i64 k ∧ BInv w w.heap.size b4 (dcTo L 0 b.n j Q0 k) wr2) (fun i _ => L.length - (intOf i).toNat)
          case atStart => exact ⟨0, Nat.zero_le _, rfl, hI⟩
          case round =>
            clear hI d3 d4
            obtain ⟨k, hk, rfl, hI⟩ := hrel
            have SHk : Hid (Shp (a.n + b.n) (dcTo L 0 b.n j Q0 k)) := SHs.out.dcTo _ _ _ _ _
            by_cases hlk : k < L.length
            · obtain ⟨p1, o1, p2, c2, p3, c3, hBO⟩ := hI.open SHk.out.pl SHk.out.cl
              have HW := Lib.hid hBO.be
              obtain ⟨bx, ox, rx, ex, hcx0, hrx0⟩ := HRC.out.at hlk
              have hcx := below_cells HW.out _ _ hcx0
              have HRX := Lib.hid hrx0
              have HLX := Lib.hid (hrow.out k hlk)
              have HD := Lib.hid (dcTo_succ L 0 b.n j Q0 k)
              subst ex
              obtain ⟨ax, cx, rfl, _, _⟩ := HRX.out.formN HLX.out
              generalize L.getD k [] = xrow at *
              generalize dcTo L 0 b.n j Q0 k = Qk at *
              obtain ⟨g, g2, cap2, rfl, hset⟩ := hBO.set_conj (i := j) (j := k) (m := a.n + b.n - 1 - j) (by omega) (SHk.out.row j (by omega)) (by omega)
              have HSET := Lib.hid hset
              obtain ⟨m2, m3, _, _, _⟩ := hset _ (Below.refl _ _)
              have hk0 : (0 : Int) ≤ (k : Int) := by omega
              have hk1 : k < a.n + b.n - 1 - j := by omega
              clear hset hBO hI hcx0 hrx0
              go_wp2_with fail
              go_region_law (go_simp; go_at_call 139; go_must (refine (i_padF _ xrow b.n _ (HRX.out.below HW.out.drew) (by omega) (by rw [HLX.out]; omega)).mono ?_); rintro e w3 ⟨u3, rfl, hI3, hB3⟩; obtain ⟨hm1, hm2, ⟨r3, hr3⟩, hf3, hs3⟩ := HSET.out w3 (below_size (Below.refl _ _).drew hB3); obtain ⟨a9, c9, rfl, _, _⟩ := hI3.form; have hq := Lib.hid (hs3 _ _ hI3))
              all_goals
                go_wp2_with fail
                go_roundw
                case rel => exact ⟨k + 1, by omega, by go_num, by rw [HD.out]; exact hq.out⟩
                case measure => simp [intOf]; omega
            · obtain rfl : k = L.length := by omega
              go_wp2_with fail
              go_roundw
              case rel => exact ⟨j + 1, by omega, by go_num, by rw [HP.out]; exact hI⟩
              case measure => simp [intOf]; omega
      · obtain rfl : j = a.n := by omega
        have d2 := below_cells hI.bel _ _ CB2.out
        have hp1 : Hid (dpTo b a.n 0 a.n (dpTo a 0 b.n 0 (triv (a.orders ++ b.orders)) a.n) 0 = dpTo a 0 b.n 0 (triv (a.orders ++ b.orders)) a.n) := rfl
        have HDP : Hid (dirP a b = dpTo b a.n 0 a.n (dpTo a 0 b.n 0 (triv (a.orders ++ b.orders)) a.n) b.n) := rfl
        rw [← hp1.out] at hI
        generalize dpTo a 0 b.n 0 (triv (a.orders ++ b.orders)) a.n = A0 at *
        clear hp1 hj hlt
        go_wp2_with fail
        go_loopw [84] (fun i wt => ∃ j : Nat, j ≤ b.n ∧ i = .int .i64 j ∧ BInv w w.heap.size b4 (dpTo b a.n 0 a.n A0 j) wt) (fun i _ => b.n - (intOf i).toNat)
        case atStart => exact ⟨0, Nat.zero_le _, rfl, hI⟩
        case round =>
          clear hI d2
          obtain ⟨j, hj, rfl, hI⟩ := hrel
          have SHj2 : Hid (Shp (a.n + b.n) (dpTo b a.n 0 a.n A0 j)) := SHj.out.dpTo _ _ _ _ _
          by_cases hlt : j < b.n
          · obtain ⟨p1, o1, p2, c2, p3, c3, hBO⟩ := hI.open SHj2.out.pl SHj2.out.cl
            have HW := Lib.hid hBO.be
            obtain ⟨bz, oz, r, ez, hcz0, hrz0⟩ := HRB2.out.at (show j < b.powers.length by rw [hB.pl]; exact hlt)
            have hcz := below_cells HW.out _ _ hcz0
            have HRZ := Lib.hid hrz0
            obtain ⟨bc, oc, rc, ec, hcc0, hrc0⟩ := HRB3.out.at (show j < b.conj.length by rw [hB.cl]; exact hlt)
            have HRC := Lib.hid hrc0
            have HCC := Lib.hid hcc0
            have HLP : Hid ((b.powers.getD j []).length = b.n) := (hB.valid.pow j hlt).len
            have HLC : Hid ((b.conj.getD j []).length = b.n - 1 - j) := by have := hB.clen j hlt; show _ = _; omega
            have hlc := HLC.out
            have hrow : Hid (∀ k, k < (b.conj.getD j []).length → ((b.conj.getD j []).getD k []).length = b.n) := fun k hk => (tailB_true ((rowB_true (hB.row j hlt)).2.2 k hk)).1
            have HP := Lib.hid (dpTo_succ b a.n 0 a.n A0 j)
            subst ez ec
            generalize dpTo b a.n 0 a.n A0 j = Pj at *
            generalize b.powers.getD j [] = row at *
            generalize b.conj.getD j [] = L at *
            obtain ⟨ar, cr, rfl, _, _⟩ := HRZ.out.formN HLP.out
            obtain ⟨ac, cc, rfl, _, _⟩ := HRC.out.form
            obtain ⟨g, rfl, hset⟩ := hBO.set_pow (i := a.n + j) (by omega)
            have HSET := Lib.hid hset
            have m1 := hBO.x4.c1
            have hj0 : (0 : Int) ≤ (a.n : Int) + (j : Int) := by omega
            have hj1 : (a.n : Int) + (j : Int) < (a.n : Int) + (b.n : Int) := by omega
            have W1 : IntKind.i64.wrap ((a.n : Int) + (j : Int)) = (a.n : Int) + (j : Int) := IntWalk.i64_in _ (by omega)
            have T1 : ((a.n : Int) + (j : Int)).toNat = a.n + j := by omega
            clear hset hBO hI hcz0 hrz0 hcc0 hrc0
            go_upto_region 16 with (fail)
            go_cut [] (fun wx => BInv w w.heap.size b4 (stP Pj (a.n + j) (padL a.n row 0)) wx)
            case first =>
              go_region_law (go_simp; go_at_call 139; go_must (refine (i_padB _ row a.n _ (HRZ.out.below HW.out.drew) (by omega) (by rw [HLP.out]; omega)).mono ?_); rintro e w3 ⟨u3, rfl, hI3, hB3⟩; obtain ⟨hm1, ⟨r3, hr3⟩, hf3, hs3⟩ := HSET.out w3 (below_size (Below.refl _ _).drew hB3); obtain ⟨a9, c9, rfl, _, _⟩ := hI3.form; have hq := hs3 _ _ hI3)
              all_goals (go_wp2_with fail; go_meet; exact hq)
            case rest =>
              have hI := hcut
              have SHs : Hid (Shp (a.n + b.n) (stP Pj (a.n + j) (padL a.n row 0))) := SHj2.out.stP _ _
              have d3 := below_cells hI.bel _ _ CB3.out
              have d4 := below_cells hI.bel _ _ HCC.out
              generalize stP Pj (a.n + j) (padL a.n row 0) = Q0 at *
              have hD0 : Hid (dcTo L a.n 0 (a.n + j) Q0 0 = Q0) := rfl
              rw [← hD0.out] at hI
              clear hcut hD0 m1 hcz HSET HW W1 T1 hj0 hj1
              go_wp2_with fail
              go_loopw [106] (fun i wr2 => ∃ k : Nat, k ≤ L.length ∧ i = .int .i64 k ∧ BInv w w.heap.size b4 (dcTo L a.n 0 (a.n + j) Q0 k) wr2) (fun i _ => L.length - (intOf i).toNat)
              case atStart => exact ⟨0, Nat.zero_le _, rfl, hI⟩
              case round =>
                clear hI d3 d4
                obtain ⟨k, hk, rfl, hI⟩ := hrel
                have SHk : Hid (Shp (a.n + b.n) (dcTo L a.n 0 (a.n + j) Q0 k)) := SHs.out.dcTo _ _ _ _ _
                by_cases hlk : k < L.length
                · obtain ⟨p1, o1, p2, c2, p3, c3, hBO⟩ := hI.open SHk.out.pl SHk.out.cl
                  have HW := Lib.hid hBO.be
                  obtain ⟨bx, ox, rx, ex, hcx0, hrx0⟩ := HRC.out.at hlk
                  have hcx := below_cells HW.out _ _ hcx0
                  have HRX := Lib.hid hrx0
                  have HLX := Lib.hid (hrow.out k hlk)
                  have HD := Lib.hid (dcTo_succ L a.n 0 (a.n + j) Q0 k)
                  subst ex
                  obtain ⟨ax, cx, rfl, _, _⟩ := HRX.out.formN HLX.out
                  generalize L.getD k [] = xrow at *
                  generalize dcTo L a.n 0 (a.n + j) Q0 k = Qk at *
                  obtain ⟨g, g2, cap2, rfl, hset⟩ := hBO.set_conj (i := a.n + j) (j := k) (m := b.n - 1 - j) (by omega) (by rw [SHk.out.row (a.n + j) (by omega)]; omega) (by omega)
                  have HSET := Lib.hid hset
                  obtain ⟨m2, m3, _, _, _⟩ := hset _ (Below.refl _ _)
                  have hk0 : (0 : Int) ≤ (k : Int) := by omega
                  have hk1 : k < b.n - 1 - j := by omega
                  have hj0 : (0 : Int) ≤ (a.n : Int) + (j : Int) := by omega
                  have hj1 : (a.n : Int) + (j : Int) < (a.n : Int) + (b.n : Int) := by omega
                  have W1 : IntKind.i64.wrap ((a.n : Int) + (j : Int)) = (a.n : Int) + (j : Int) := IntWalk.i64_in _ (by omega)
                  have T1 : ((a.n : Int) + (j : Int)).toNat = a.n + j := by omega
                  clear hset hBO hI hcx0 hrx0
                  go_wp2_with fail
                  go_region_law (go_simp; go_at_call 139; go_must (refine (i_padB _ xrow a.n _ (HRX.out.below HW.out.drew) (by omega) (by rw [HLX.out]; omega)).mono ?_); rintro e w3 ⟨u3, rfl, hI3, hB3⟩; obtain ⟨hm1, hm2, ⟨r3, hr3⟩, hf3, hs3⟩ := HSET.out w3 (below_size (Below.refl _ _).drew hB3); obtain ⟨a9, c9, rfl, _, _⟩ := hI3.form; have hq := Lib.hid (hs3 _ _ hI3))
                  all_goals
                    clear W1 T1
                    go_wp2_with fail
                    go_roundw
                    case rel => exact ⟨k + 1, by omega, by go_num, by rw [HD.out]; exact hq.out⟩
                    case measure => simp [intOf]; omega
                · obtain rfl : k = L.length := by omega
                  go_wp2_with fail
                  go_roundw
                  case rel => exact ⟨j + 1, by omega, by go_num, by rw [HP.out]; exact hI⟩
                  case measure => simp [intOf]; omega
          · obtain rfl : j = b.n := by omega
            obtain ⟨p1, o1, p2, c2, p3, c3, hBO⟩ := hI.open SHj2.out.pl SHj2.out.cl
            have HF := Lib.hid (hBO.out (Nat.le_refl _))
            rw [SHj2.out.ol] at HF
            have n0 := hBO.x4.c0
            have n1 := hBO.x4.c1
            have n2 := hBO.x4.c2
            have q0 := hBO.x2.c0
            have q1 := hBO.x2.c1
            have q2 := hBO.x2.c2
            have f0 := hBO.x2.fr 0
            have f1 := hBO.x2.fr 1
            have f2 := hBO.x2.fr 2
            rw [SHj2.out.ol] at n0
            clear hBO hI
            go_wp2_with fail
            refine bodyPost_ret (v := .agg #[Value.slice p1 (a.n + b.n) o1, Value.slice p2 (a.n + b.n) c2, Value.slice p3 (a.n + b.n) c3]) (by simp [results, Try.results95, go_sem, q0, q1, q2]) rfl ?_
            rw [HDP.out]
            exact ⟨_, _, _, rfl, HF.out.1, HF.out.2⟩
end Go.Proofs.Ythnpndheaailjaa
