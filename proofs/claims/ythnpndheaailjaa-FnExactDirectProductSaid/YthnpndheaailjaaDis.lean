/-
  The direct product: the reference's side.
-/
import Derived.Test.YthnpndheaailjaaDir
import Derived.Test.YthnpndheaailjaaRel
namespace Go.Proofs.Ythnpndheaailjaa
set_option linter.unusedVariables false
set_option linter.unusedSimpArgs false
set_option maxRecDepth 100000
open Go.RowKit
attribute [local go_sem ↓] Go.wp_at_zero Go.wp_at_succ

theorem run_appB (w : World) (ty : TypeId) (B : Nat) (v : Value) (xs : List Int) (hown : Ints w B v xs) (vx : Value) (ys : List Int) (hrd : Rd w vx ys) (hn : xs.length ≤ 1000000000) (hm : ys.length ≤ 1000000000) (hB : B ≤ w.heap.size) :
    ∃ v' w', (Builtin.append_ #[22, 22] ty #[v, vx]).run Try.prog w = .ok v' w' ∧ Ints w' B v' (xs ++ ys) ∧ Below B w w' ∧ ∀ c, c < w.heap.size → v.ownBlock ≠ some c → w'.heap[c]? = w.heap[c]? := by
  obtain ⟨i0, hi, hz0, hz1, hz2⟩ := info_parts Try.info2
  obtain ⟨v', w', hr, h1, h2, h3⟩ := run_app w B 22 ty 2 i0 (.int .i64 0) 8 Try.underlying22 hi hz0 hz1 hz2 rfl v xs.length (xs.map (Value.int .i64)) hown vx (ys.map (Value.int .i64)) hrd.cells (ints_oneCell _ _) (by simp [maxLen]; omega) (by simp; omega) hB
  have hg : Grew w w' v v' := ⟨h2, h3⟩
  refine ⟨v', w', hr, ?_, hg.below hB fun g hg => (hown.lt g hg).1, fun c hc hv => h2.block c hc (fun e => hv e.symm)⟩
  unfold Ints
  rw [List.length_append, List.map_append]
  simpa using h1
--== spec.l07Shift, twice
theorem s_shF (v : Value) (xs : List Int) (y : Nat) (w : World) (hv : Rd w v xs) (hy : y ≤ 1000) (hl : xs.length ≤ 1000) :
    Calls Try.prog 138 #[.int .i64 0, v, .int .i64 y] w (RetInts w (padL 0 xs y)) := s_l07Shift v xs 0 y w hv (by omega) hy hl
theorem s_shB (v : Value) (xs : List Int) (x : Nat) (w : World) (hv : Rd w v xs) (hx : x ≤ 1000) (hl : xs.length ≤ 1000) :
    Calls Try.prog 138 #[.int .i64 x, v, .int .i64 0] w (RetInts w (padL x xs 0)) := s_l07Shift v xs x 0 w hv hx (by omega) hl
--== spec.l07Both
set_option maxHeartbeats 16000000 in
theorem s_l07Both {a b : Pres} (hA : ValidP a) (hB : ValidP b) (a1 a2 a3 b1 b2 b3 : Value) (w : World) (hpa : RdP w a1 a2 a3 a) (hpb : RdP w b1 b2 b3 b) :
    Calls Try.prog 94 #[.agg #[a1, a2, a3], .agg #[b1, b2, b3]] w (RetP w (dirP a b)) := by
  have hna := hA.n6
  have hnb := hB.n6
  obtain ⟨RA1, RA2, RA3⟩ := hpa
  obtain ⟨RB1, RB2, RB3⟩ := hpb
  obtain ⟨ao1, aq1, rfl, _, _⟩ := RA1.formN (n := a.n) rfl
  obtain ⟨ao2, aq2, rfl, _, _⟩ := RA2.formN hA.pl
  obtain ⟨ao3, aq3, rfl, _, _⟩ := RA3.formN hA.cl
  obtain ⟨bo1, bq1, rfl, _, _⟩ := RB1.formN (n := b.n) rfl
  obtain ⟨bo2, bq2, rfl, _, _⟩ := RB2.formN hB.pl
  obtain ⟨bo3, bq3, rfl, _, _⟩ := RB3.formN hB.cl
  have g2 := below_allocs2 w (Obj.cells #[Value.slice ao1 a.n aq1, Value.slice ao2 a.n aq2, Value.slice ao3 a.n aq3] 32) (Obj.cells #[Value.slice bo1 b.n bq1, Value.slice bo2 b.n bq2, Value.slice bo3 b.n bq3] 32)
  have HXA := (Bx.new w (Value.slice ao1 a.n aq1) (Value.slice ao2 a.n aq2) (Value.slice ao3 a.n aq3)).old (Obj.cells #[Value.slice bo1 b.n bq1, Value.slice bo2 b.n bq2, Value.slice bo3 b.n bq3] 32)
  have HXB := Bx.new (w.alloc (Obj.cells #[Value.slice ao1 a.n aq1, Value.slice ao2 a.n aq2, Value.slice ao3 a.n aq3] 32)) (Value.slice bo1 b.n bq1) (Value.slice bo2 b.n bq2) (Value.slice bo3 b.n bq3)
  rw [show (w.alloc (Obj.cells #[Value.slice ao1 a.n aq1, Value.slice ao2 a.n aq2, Value.slice ao3 a.n aq3] 32)).heap.size = w.heap.size + 1 by simp] at HXB
  have z2 : ((w.alloc (Obj.cells #[Value.slice ao1 a.n aq1, Value.slice ao2 a.n aq2, Value.slice ao3 a.n aq3] 32)).alloc (Obj.cells #[Value.slice bo1 b.n bq1, Value.slice bo2 b.n bq2, Value.slice bo3 b.n bq3] 32)).heap.size = w.heap.size + 1 + 1 := by simp
  have HRA1 := Lib.hid (RA1.below g2)
  have HRA2 := Lib.hid (RA2.below g2)
  have HRA3 := Lib.hid (RA3.below g2)
  have HRB1 := Lib.hid (RB1.below g2)
  have HRB2 := Lib.hid (RB2.below g2)
  have HRB3 := Lib.hid (RB3.below g2)
  clear RA1 RA2 RA3 RB1 RB2 RB3
  have HG2 := Lib.hid g2
  clear g2
  go_enter Try.func94, Try.ntmps94
  go_wp2_with fail
  generalize (w.alloc (Obj.cells #[Value.slice ao1 a.n aq1, Value.slice ao2 a.n aq2, Value.slice ao3 a.n aq3] 32)).alloc (Obj.cells #[Value.slice bo1 b.n bq1, Value.slice bo2 b.n bq2, Value.slice bo3 b.n bq3] 32) = w2 at *
  rw [← z2]
  have HZ2 : Hid (w.heap.size ≤ w2.heap.size) := by show _ ≤ _; omega
  generalize w.heap.size + 1 = pb at *
  obtain ⟨pa, hpa⟩ : ∃ x, x = w.heap.size := ⟨_, rfl⟩
  rw [← hpa] at HXA ⊢
  clear hpa
  have g0 := below_alloc w2 (Obj.cells #[Value.slice none 0 0, Value.slice none 0 0, Value.slice none 0 0] 32)
  have x0 := Bx.new w2 (Value.slice none 0 0) (Value.slice none 0 0) (Value.slice none 0 0)
  have z0 : (w2.alloc (Obj.cells #[Value.slice none 0 0, Value.slice none 0 0, Value.slice none 0 0] 32)).heap.size = w2.heap.size + 1 := by simp
  have ca1 := HXA.c0
  have cb1 := HXB.c0
  have CA2 := Lib.hid HXA.c1
  have CA3 := Lib.hid HXA.c2
  have CB2 := Lib.hid HXB.c1
  have CB3 := Lib.hid HXB.c2
  have ea1 := below_cells g0 _ _ ca1
  have eb1 := below_cells g0 _ _ cb1
  have HG := Lib.hid g0
  have HX := Lib.hid x0
  have HZ := Lib.hid z0
  have KEEP : Hid (∀ wx, Below w2.heap.size w2 wx → Below w2.heap.size w2 wx ∧ wx.cell? ⟨pa, 0, none⟩ = some (.slice ao1 a.n aq1) ∧ wx.cell? ⟨pb, 0, none⟩ = some (.slice bo1 b.n bq1)) := fun wx hb => ⟨hb, below_cells hb _ _ ca1, below_cells hb _ _ cb1⟩
  clear g0 x0 z0 z2
  apply via
  case h =>
    go_region
    all_goals exact ⟨rfl, rfl⟩
  go_upto_region 2 with (fail)
  go_cut [7] (fun v wx => ∃ b4, v = .pointer (some ⟨b4, 0, none⟩) ∧ w2.heap.size < b4 ∧ BInv w2 w2.heap.size b4 (triv (a.orders ++ b.orders)) wx)
  case first =>
    have L1 := Lib.hid (HG.out)
    have L2 := Lib.hid (ballocD HG.out (Obj.cells #[Value.slice none 0 0, Value.slice none 0 0, Value.slice none 0 0] 32))
    have Y2 : Hid (Bx ((w2.alloc (Obj.cells #[Value.slice none 0 0, Value.slice none 0 0, Value.slice none 0 0] 32)).alloc (Obj.cells #[Value.slice none 0 0, Value.slice none 0 0, Value.slice none 0 0] 32)) (w2.heap.size + 1) (.slice none 0 0) (.slice none 0 0) (.slice none 0 0)) := by
      have := Bx.new (w2.alloc (Obj.cells #[Value.slice none 0 0, Value.slice none 0 0, Value.slice none 0 0] 32)) (.slice none 0 0) (.slice none 0 0) (.slice none 0 0)
      rw [HZ.out] at this
      exact this
    have HLA : Hid (a.orders.length ≤ 100 ∧ b.orders.length ≤ 100) := by
      have e1 : a.orders.length = a.n := rfl
      have e2 : b.orders.length = b.n := rfl
      exact ⟨by omega, by omega⟩
    have HL12 : Hid ((a.orders ++ b.orders).length ≤ 100) := by
      have e1 : a.orders.length = a.n := rfl
      have e2 : b.orders.length = b.n := rfl
      show _ ≤ _
      rw [List.length_append]; omega
    go_region_held3 (fun wx => Below w2.heap.size w2 wx ∧ wx.cell? ⟨pa, 0, none⟩ = some (.slice ao1 a.n aq1) ∧ wx.cell? ⟨pb, 0, none⟩ = some (.slice bo1 b.n bq1))
      (first
        | exact KEEP.out _ HG.out.drew.drew
        | exact KEEP.out _ (ballocD HG.out _).drew.drew
        | exact KEEP.out _ (set3 hW6 (by omega) _ _ _)
        | exact KEEP.out _ hW6
        | exact KEEP.out _ (ballocD hW6 _)
        | exact KEEP.out _ hW4
        | exact KEEP.out _ (ballocD hW4 _)
        | exact KEEP.out _ hW5
        | exact KEEP.out _ hW3
        | exact KEEP.out _ (ballocD hW3 _))
      (first
        | ((go_at_call 69); (with_reducible refine (s_l01Own _ a.orders (w2.alloc (Obj.cells #[Value.slice none 0 0, Value.slice none 0 0, Value.slice none 0 0] 32)).drew.drew (HRA1.out.below HG.out.drew.drew) (by have := HLA.out.1; omega)).mono ?_); (rintro e w3 ⟨u3, rfl, hI3, hB3⟩); (have hW3 := below_size HG.out.drew.drew hB3); (have X23 := ((HX.out).drew.drew).below hB3 ((HX.out).drew.drew).lt);  (obtain ⟨u4, w4, hr4, hI4, hB4, hk4⟩ := run_appB w3 22 _ u3 a.orders hI3 _ b.orders (HRB1.out.below hW3) (by have := HLA.out.1; omega) (by have := HLA.out.2; omega) hB3.size); (obtain ⟨u5, w5, hr5, hI5, hB5, hk5⟩ := run_appB (w3.alloc (Obj.cells #[Value.slice none 0 0, Value.slice none 0 0, Value.slice none 0 0] 32)) 22 _ u3 a.orders (hI3.below (below_alloc w3 _)) _ b.orders (HRB1.out.below (ballocD hW3 _)) (by have := HLA.out.1; omega) (by have := HLA.out.2; omega) (Nat.le_trans hB3.size (below_alloc w3 _).size)); (have hW4 := hW3.trans (hB4.mono (by simp <;> omega))); (have hW5 := (ballocD hW3 (Obj.cells #[Value.slice none 0 0, Value.slice none 0 0, Value.slice none 0 0] 32)).trans (hB5.mono (by simp <;> omega))); (have X24 := X23.below hB4 (by simp <;> omega)); (have X25 := (X23.old (Obj.cells #[Value.slice none 0 0, Value.slice none 0 0, Value.slice none 0 0] 32)).below hB5 (by simp <;> omega)); (have X45 : Bx w5 w3.heap.size (.slice none 0 0) (.slice none 0 0) (.slice none 0 0) := (hk5 w3.heap.size (by simp) (fun e => Nat.lt_irrefl _ ((hI3.lt _ e).2))).trans (Bx.new w3 _ _ _)) )
        | ((go_at_call 69); (with_reducible refine (s_l01Own _ a.orders ((w2.alloc (Obj.cells #[Value.slice none 0 0, Value.slice none 0 0, Value.slice none 0 0] 32)).alloc (Obj.cells #[Value.slice none 0 0, Value.slice none 0 0, Value.slice none 0 0] 32)).drew.drew (HRA1.out.below (ballocD HG.out _).drew.drew) (by have := HLA.out.1; omega)).mono ?_); (rintro e w3 ⟨u3, rfl, hI3, hB3⟩); (have hW3 := below_size (ballocD HG.out _).drew.drew hB3); (have X23 := ((HX.out.old (Obj.cells #[Value.slice none 0 0, Value.slice none 0 0, Value.slice none 0 0] 32)).drew.drew).below hB3 ((HX.out.old (Obj.cells #[Value.slice none 0 0, Value.slice none 0 0, Value.slice none 0 0] 32)).drew.drew).lt); (have X43 := (Y2.out.drew.drew).below hB3 (Y2.out.drew.drew).lt); (obtain ⟨u4, w4, hr4, hI4, hB4, hk4⟩ := run_appB w3 22 _ u3 a.orders hI3 _ b.orders (HRB1.out.below hW3) (by have := HLA.out.1; omega) (by have := HLA.out.2; omega) hB3.size); (obtain ⟨u5, w5, hr5, hI5, hB5, hk5⟩ := run_appB (w3.alloc (Obj.cells #[Value.slice none 0 0, Value.slice none 0 0, Value.slice none 0 0] 32)) 22 _ u3 a.orders (hI3.below (below_alloc w3 _)) _ b.orders (HRB1.out.below (ballocD hW3 _)) (by have := HLA.out.1; omega) (by have := HLA.out.2; omega) (Nat.le_trans hB3.size (below_alloc w3 _).size)); (have hW4 := hW3.trans (hB4.mono (by simp <;> omega))); (have hW5 := (ballocD hW3 (Obj.cells #[Value.slice none 0 0, Value.slice none 0 0, Value.slice none 0 0] 32)).trans (hB5.mono (by simp <;> omega))); (have X24 := X23.below hB4 (by simp <;> omega)); (have X25 := (X23.old (Obj.cells #[Value.slice none 0 0, Value.slice none 0 0, Value.slice none 0 0] 32)).below hB5 (by simp <;> omega)); (have X45 : Bx w5 w3.heap.size (.slice none 0 0) (.slice none 0 0) (.slice none 0 0) := (hk5 w3.heap.size (by simp) (fun e => Nat.lt_irrefl _ ((hI3.lt _ e).2))).trans (Bx.new w3 _ _ _)) ; (have X44 := X43.below hB4 (by simp <;> omega)))
        | ((refine step_of_run rfl (.tmp 20) (.tmp 22) 22 rfl _ _ (by simp [Act.eval, Act.put]) (by simp [Act.eval, Act.put]) _ _ hr4 ?_))
        | ((refine step_of_run rfl (.tmp 20) (.tmp 22) 22 rfl _ _ (by simp [Act.eval, Act.put]) (by simp [Act.eval, Act.put]) _ _ hr5 ?_))
        | ((go_at_call 79); (with_reducible refine (s_l07Trivial _ _ _ hI4.rd HL12.out).mono ?_); (rintro e w6 ⟨v1, v2, v3, rfl, hP6, hB6⟩); (obtain ⟨⟨d1, e1, rfl⟩, ⟨d2, e2, rfl⟩, ⟨d3, e3, rfl⟩⟩ := hP6.forms); (have hW6 := below_size hW4 hB6); (have X26 := X24.below hB6 X24.lt); (have X46 := X44.below hB6 X44.lt); (have m0 := X46.c0); (have m1 := X46.c1); (have m2 := X46.c2); (have z0 := X46.fr 0); (have z1 := X46.fr 1); (have z2 := X46.fr 2); (have hl4 := X44.lt); (have hl2 := X24.lt))
        | ((go_at_call 79); (with_reducible refine (s_l07Trivial _ _ _ hI4.rd HL12.out).mono ?_); (rintro e w6 ⟨v1, v2, v3, rfl, hP6, hB6⟩); (obtain ⟨⟨d1, e1, rfl⟩, ⟨d2, e2, rfl⟩, ⟨d3, e3, rfl⟩⟩ := hP6.forms); (have hW6 := below_size hW4 hB6); (have X26 := X24.below hB6 X24.lt); (have hl2 := X24.lt))
        | ((go_at_call 79); (with_reducible refine (s_l07Trivial _ _ _ (hI4.rd.below (below_alloc w4 _)) HL12.out).mono ?_); (rintro e w6 ⟨v1, v2, v3, rfl, hP6, hB6⟩); (obtain ⟨⟨d1, e1, rfl⟩, ⟨d2, e2, rfl⟩, ⟨d3, e3, rfl⟩⟩ := hP6.forms); (have hW6 := below_size (ballocD hW4 _) hB6); (have X26 := (X24.old (Obj.cells #[Value.slice none 0 0, Value.slice none 0 0, Value.slice none 0 0] 32)).below hB6 (X24.old (Obj.cells #[Value.slice none 0 0, Value.slice none 0 0, Value.slice none 0 0] 32)).lt); (have X46 := (Bx.new w4 (.slice none 0 0) (.slice none 0 0) (.slice none 0 0)).below hB6 (Bx.new w4 _ _ _).lt); (have m0 := X46.c0); (have m1 := X46.c1); (have m2 := X46.c2); (have z0 := X46.fr 0); (have z1 := X46.fr 1); (have z2 := X46.fr 2); (have hl4 : w4.heap.size ≤ w4.heap.size := Nat.le_refl _); (have hl2 := X24.lt))
        | ((go_at_call 79); (with_reducible refine (s_l07Trivial _ _ _ hI5.rd HL12.out).mono ?_); (rintro e w6 ⟨v1, v2, v3, rfl, hP6, hB6⟩); (obtain ⟨⟨d1, e1, rfl⟩, ⟨d2, e2, rfl⟩, ⟨d3, e3, rfl⟩⟩ := hP6.forms); (have hW6 := below_size hW5 hB6); (have X26 := X25.below hB6 X25.lt); (have X46 := X45.below hB6 X45.lt); (have m0 := X46.c0); (have m1 := X46.c1); (have m2 := X46.c2); (have z0 := X46.fr 0); (have z1 := X46.fr 1); (have z2 := X46.fr 2); (have hl4 := X45.lt); (have hl2 := X25.lt); (have hl3 := X23.lt)))
    all_goals (go_wp2_with fail; go_meet; first | exact ⟨_, rfl, by omega, BInv.mk1 (w := w2) X26 X46 hP6 (fun k hk => by have h1 := hk.1; (try simp at h1); exact ⟨by omega, by omega, by omega⟩) hW6 (by omega) (by omega)⟩ | exact ⟨_, rfl, X26.lt, BInv.mk2 X26 hP6 (fun k hk => by have h1 := hk.1; exact ⟨by omega, by omega⟩) hW6⟩)
  case rest =>
    obtain ⟨b4, rfl, hb4, hI⟩ := hcut
    have SH0 : Hid (Shp (a.n + b.n) (triv (a.orders ++ b.orders))) := by
      have := shp_triv (a.orders ++ b.orders)
      rw [List.length_append] at this
      exact this
    have d2 := below_cells hI.bel _ _ CA2.out
    have d3 := below_cells hI.bel _ _ CA3.out
    have hp0 : Hid (dpTo a 0 b.n 0 (triv (a.orders ++ b.orders)) 0 = triv (a.orders ++ b.orders)) := rfl
    rw [← hp0.out] at hI
    clear hp0
    go_wp2_with fail
    go_loopw [8] (fun i wr => ∃ j : Nat, j ≤ a.n ∧ i = .int .i64 j ∧ BInv w2 w2.heap.size b4 (dpTo a 0 b.n 0 (triv (a.orders ++ b.orders)) j) wr) (fun i _ => a.n - (intOf i).toNat)
    case atStart => exact ⟨0, Nat.zero_le _, rfl, hI⟩
    case round =>
      clear hI d2 d3
      obtain ⟨j, hj, rfl, hI⟩ := hrel
      have SHj : Hid (Shp (a.n + b.n) (dpTo a 0 b.n 0 (triv (a.orders ++ b.orders)) j)) := SH0.out.dpTo _ _ _ _ _
      by_cases hlt : j < a.n
      · obtain ⟨p1, o1, p2, c2, p3, c3, hBO⟩ := hI.open SHj.out.pl SHj.out.cl
        have HW := Lib.hid hBO.be
        obtain ⟨bz, oz, r, ez, hcz0, hrz0⟩ := HRA2.out.at (show j < a.powers.length by rw [hA.pl]; exact hlt)
        have hcz := below_cells HW.out _ _ hcz0
        have dP := below_cells HW.out _ _ CA2.out
        have HRZ := Lib.hid hrz0
        obtain ⟨bc, oc, rc, ec, hcc0, hrc0⟩ := HRA3.out.at (show j < a.conj.length by rw [hA.cl]; exact hlt)
        have HRC := Lib.hid hrc0
        have HCC := Lib.hid hcc0
        have HLP : Hid ((a.powers.getD j []).length = a.n) := (hA.valid.pow j hlt).len
        have HLC : Hid ((a.conj.getD j []).length = a.n - 1 - j) := by have := hA.clen j hlt; show _ = _; omega
        have hlc := HLC.out
        have hrow : Hid (∀ k, k < (a.conj.getD j []).length → ((a.conj.getD j []).getD k []).length = a.n) := fun k hk => (tailB_true ((rowB_true (hA.row j hlt)).2.2 k hk)).1
        have HP := Lib.hid (dpTo_succ a 0 b.n 0 (triv (a.orders ++ b.orders)) j)
        rw [Nat.zero_add] at HP
        subst ez ec
        generalize dpTo a 0 b.n 0 (triv (a.orders ++ b.orders)) j = Pj at *
        generalize a.powers.getD j [] = row at *
        generalize a.conj.getD j [] = L at *
        obtain ⟨ar, cr, rfl, _, _⟩ := HRZ.out.formN HLP.out
        obtain ⟨ac, cc, rfl, _, _⟩ := HRC.out.form
        obtain ⟨g, rfl, hset⟩ := hBO.set_pow (i := j) (by omega)
        have HSET := Lib.hid hset
        have m1 := hBO.x4.c1
        have hj0 : (0 : Int) ≤ (j : Int) := by omega
        have hj1 : (j : Int) < (a.n : Int) + (b.n : Int) := by omega
        clear hset hBO hI hcz0 hrz0 hcc0 hrc0
        go_upto_region 6 with (fail)
        go_cut [] (fun wx => BInv w2 w2.heap.size b4 (stP Pj j (padL 0 row b.n)) wx)
        case first =>
          go_region_law (go_simp; go_at_call 138; go_must (refine (s_shF _ row b.n _ (HRZ.out.below HW.out.drew) (by omega) (by rw [HLP.out]; omega)).mono ?_); rintro e w3 ⟨u3, rfl, hI3, hB3⟩; obtain ⟨hm1, ⟨r3, hr3⟩, hf3, hs3⟩ := HSET.out w3 (below_size (Below.refl _ _).drew hB3); obtain ⟨a9, c9, rfl, _, _⟩ := hI3.form; have hq := hs3 _ _ hI3)
          all_goals (go_wp2_with fail; go_meet; exact hq)
        case rest =>
          have hI := hcut
          have SHs : Hid (Shp (a.n + b.n) (stP Pj j (padL 0 row b.n))) := SHj.out.stP _ _
          have d3 := below_cells hI.bel _ _ CA3.out
          have d4 := below_cells hI.bel _ _ HCC.out
          generalize stP Pj j (padL 0 row b.n) = Q0 at *
          have hD0 : Hid (dcTo L 0 b.n j Q0 0 = Q0) := rfl
          rw [← hD0.out] at hI
          clear hcut hD0 m1 hcz dP HSET HW
          go_wp2_with fail
          go_loopw [9] (fun i wr2 => ∃ k : Nat, k ≤ L.length ∧ i = .int .i64 k ∧ BInv w2 w2.heap.size b4 (dcTo L 0 b.n j Q0 k) wr2) (fun i _ => L.length - (intOf i).toNat)
          case atStart => exact ⟨0, Nat.zero_le _, rfl, hI⟩
          case round =>
            clear hI d3 d4
            obtain ⟨k, hk, rfl, hI⟩ := hrel
            have d3 := below_cells hI.bel _ _ CA3.out
            have d4 := below_cells hI.bel _ _ HCC.out
            have SHk : Hid (Shp (a.n + b.n) (dcTo L 0 b.n j Q0 k)) := SHs.out.dcTo _ _ _ _ _
            by_cases hlk : k < L.length
            · obtain ⟨p1, o1, p2, c2, p3, c3, hBO⟩ := hI.open SHk.out.pl SHk.out.cl
              have HW := Lib.hid hBO.be
              obtain ⟨bx, ox, rx, ex, hcx0, hrx0⟩ := HRC.out.at hlk
              have hcx := below_cells HW.out _ _ hcx0
              have HRX := Lib.hid hrx0
              have HLX := Lib.hid (hrow.out k hlk)
              have HD := Lib.hid (dcTo_succ L 0 b.n j Q0 k)
              subst ex
              obtain ⟨ax, cx, rfl, _, _⟩ := HRX.out.formN HLX.out
              generalize L.getD k [] = xrow at *
              generalize dcTo L 0 b.n j Q0 k = Qk at *
              obtain ⟨g, g2, cap2, rfl, hset⟩ := hBO.set_conj (i := j) (j := k) (m := a.n + b.n - 1 - j) (by omega) (SHk.out.row j (by omega)) (by omega)
              have HSET := Lib.hid hset
              obtain ⟨m2, m3, _, _, _⟩ := hset _ (Below.refl _ _)
              have hk0 : (0 : Int) ≤ (k : Int) := by omega
              have hk1 : k < a.n + b.n - 1 - j := by omega
              clear hset hBO hI hcx0 hrx0
              go_wp2_with fail
              go_region_law (go_simp; go_at_call 138; go_must (refine (s_shF _ xrow b.n _ (HRX.out.below HW.out.drew) (by omega) (by rw [HLX.out]; omega)).mono ?_); rintro e w3 ⟨u3, rfl, hI3, hB3⟩; obtain ⟨hm1, hm2, ⟨r3, hr3⟩, hf3, hs3⟩ := HSET.out w3 (below_size (Below.refl _ _).drew hB3); obtain ⟨a9, c9, rfl, _, _⟩ := hI3.form; have hq := Lib.hid (hs3 _ _ hI3))
              all_goals
                go_wp2_with fail
                go_roundw
                case rel => exact ⟨k + 1, by omega, by go_num, by rw [HD.out]; exact hq.out⟩
                case measure => simp [intOf]; omega
            · obtain rfl : k = L.length := by omega
              go_wp2_with fail
              go_roundw
              case rel => exact ⟨j + 1, by omega, by go_num, by rw [HP.out]; exact hI⟩
              case measure => simp [intOf]; omega
      · obtain rfl : j = a.n := by omega
        have d2 := below_cells hI.bel _ _ CB2.out
        have hp1 : Hid (dpTo b a.n 0 a.n (dpTo a 0 b.n 0 (triv (a.orders ++ b.orders)) a.n) 0 = dpTo a 0 b.n 0 (triv (a.orders ++ b.orders)) a.n) := rfl
        have HDP : Hid (dirP a b = dpTo b a.n 0 a.n (dpTo a 0 b.n 0 (triv (a.orders ++ b.orders)) a.n) b.n) := rfl
        rw [← hp1.out] at hI
        generalize dpTo a 0 b.n 0 (triv (a.orders ++ b.orders)) a.n = A0 at *
        clear hp1 hj hlt
        go_wp2_with fail
        go_loopw [10] (fun i wt => ∃ j : Nat, j ≤ b.n ∧ i = .int .i64 j ∧ BInv w2 w2.heap.size b4 (dpTo b a.n 0 a.n A0 j) wt) (fun i _ => b.n - (intOf i).toNat)
        case atStart => exact ⟨0, Nat.zero_le _, rfl, hI⟩
        case round =>
          clear hI d2
          obtain ⟨j, hj, rfl, hI⟩ := hrel
          have SHj2 : Hid (Shp (a.n + b.n) (dpTo b a.n 0 a.n A0 j)) := SHj.out.dpTo _ _ _ _ _
          by_cases hlt : j < b.n
          · obtain ⟨p1, o1, p2, c2, p3, c3, hBO⟩ := hI.open SHj2.out.pl SHj2.out.cl
            have HW := Lib.hid hBO.be
            obtain ⟨bz, oz, r, ez, hcz0, hrz0⟩ := HRB2.out.at (show j < b.powers.length by rw [hB.pl]; exact hlt)
            have hcz := below_cells HW.out _ _ hcz0
            have dP := below_cells HW.out _ _ CB2.out
            have HRZ := Lib.hid hrz0
            obtain ⟨bc, oc, rc, ec, hcc0, hrc0⟩ := HRB3.out.at (show j < b.conj.length by rw [hB.cl]; exact hlt)
            have HRC := Lib.hid hrc0
            have HCC := Lib.hid hcc0
            have HLP : Hid ((b.powers.getD j []).length = b.n) := (hB.valid.pow j hlt).len
            have HLC : Hid ((b.conj.getD j []).length = b.n - 1 - j) := by have := hB.clen j hlt; show _ = _; omega
            have hlc := HLC.out
            have hrow : Hid (∀ k, k < (b.conj.getD j []).length → ((b.conj.getD j []).getD k []).length = b.n) := fun k hk => (tailB_true ((rowB_true (hB.row j hlt)).2.2 k hk)).1
            have HP := Lib.hid (dpTo_succ b a.n 0 a.n A0 j)
            subst ez ec
            generalize dpTo b a.n 0 a.n A0 j = Pj at *
            generalize b.powers.getD j [] = row at *
            generalize b.conj.getD j [] = L at *
            obtain ⟨ar, cr, rfl, _, _⟩ := HRZ.out.formN HLP.out
            obtain ⟨ac, cc, rfl, _, _⟩ := HRC.out.form
            obtain ⟨g, rfl, hset⟩ := hBO.set_pow (i := a.n + j) (by omega)
            have HSET := Lib.hid hset
            have m1 := hBO.x4.c1
            have hj0 : (0 : Int) ≤ (a.n : Int) + (j : Int) := by omega
            have hj1 : (a.n : Int) + (j : Int) < (a.n : Int) + (b.n : Int) := by omega
            have W1 : IntKind.i64.wrap ((a.n : Int) + (j : Int)) = (a.n : Int) + (j : Int) := IntWalk.i64_in _ (by omega)
            have T1 : ((a.n : Int) + (j : Int)).toNat = a.n + j := by omega
            clear hset hBO hI hcz0 hrz0 hcc0 hrc0
            go_upto_region 14 with (fail)
            go_cut [] (fun wx => BInv w2 w2.heap.size b4 (stP Pj (a.n + j) (padL a.n row 0)) wx)
            case first =>
              go_region_law (go_simp; go_at_call 138; go_must (refine (s_shB _ row a.n _ (HRZ.out.below HW.out.drew) (by omega) (by rw [HLP.out]; omega)).mono ?_); rintro e w3 ⟨u3, rfl, hI3, hB3⟩; obtain ⟨hm1, ⟨r3, hr3⟩, hf3, hs3⟩ := HSET.out w3 (below_size (Below.refl _ _).drew hB3); obtain ⟨a9, c9, rfl, _, _⟩ := hI3.form; have hq := hs3 _ _ hI3)
              all_goals (go_wp2_with fail; go_meet; exact hq)
            case rest =>
              have hI := hcut
              have SHs : Hid (Shp (a.n + b.n) (stP Pj (a.n + j) (padL a.n row 0))) := SHj2.out.stP _ _
              have d3 := below_cells hI.bel _ _ CB3.out
              have d4 := below_cells hI.bel _ _ HCC.out
              generalize stP Pj (a.n + j) (padL a.n row 0) = Q0 at *
              have hD0 : Hid (dcTo L a.n 0 (a.n + j) Q0 0 = Q0) := rfl
              rw [← hD0.out] at hI
              clear hcut hD0 m1 hcz dP HSET HW W1 T1 hj0 hj1
              go_wp2_with fail
              go_loopw [11] (fun i wr2 => ∃ k : Nat, k ≤ L.length ∧ i = .int .i64 k ∧ BInv w2 w2.heap.size b4 (dcTo L a.n 0 (a.n + j) Q0 k) wr2) (fun i _ => L.length - (intOf i).toNat)
              case atStart => exact ⟨0, Nat.zero_le _, rfl, hI⟩
              case round =>
                clear hI d3 d4
                obtain ⟨k, hk, rfl, hI⟩ := hrel
                have d3 := below_cells hI.bel _ _ CB3.out
                have d4 := below_cells hI.bel _ _ HCC.out
                have SHk : Hid (Shp (a.n + b.n) (dcTo L a.n 0 (a.n + j) Q0 k)) := SHs.out.dcTo _ _ _ _ _
                by_cases hlk : k < L.length
                · obtain ⟨p1, o1, p2, c2, p3, c3, hBO⟩ := hI.open SHk.out.pl SHk.out.cl
                  have HW := Lib.hid hBO.be
                  obtain ⟨bx, ox, rx, ex, hcx0, hrx0⟩ := HRC.out.at hlk
                  have hcx := below_cells HW.out _ _ hcx0
                  have HRX := Lib.hid hrx0
                  have HLX := Lib.hid (hrow.out k hlk)
                  have HD := Lib.hid (dcTo_succ L a.n 0 (a.n + j) Q0 k)
                  subst ex
                  obtain ⟨ax, cx, rfl, _, _⟩ := HRX.out.formN HLX.out
                  generalize L.getD k [] = xrow at *
                  generalize dcTo L a.n 0 (a.n + j) Q0 k = Qk at *
                  obtain ⟨g, g2, cap2, rfl, hset⟩ := hBO.set_conj (i := a.n + j) (j := k) (m := b.n - 1 - j) (by omega) (by rw [SHk.out.row (a.n + j) (by omega)]; omega) (by omega)
                  have HSET := Lib.hid hset
                  obtain ⟨m2, m3, _, _, _⟩ := hset _ (Below.refl _ _)
                  have hk0 : (0 : Int) ≤ (k : Int) := by omega
                  have hk1 : k < b.n - 1 - j := by omega
                  have hj0 : (0 : Int) ≤ (a.n : Int) + (j : Int) := by omega
                  have hj1 : (a.n : Int) + (j : Int) < (a.n : Int) + (b.n : Int) := by omega
                  have W1 : IntKind.i64.wrap ((a.n : Int) + (j : Int)) = (a.n : Int) + (j : Int) := IntWalk.i64_in _ (by omega)
                  have T1 : ((a.n : Int) + (j : Int)).toNat = a.n + j := by omega
                  clear hset hBO hI hcx0 hrx0
                  go_wp2_with fail
                  go_region_law (go_simp; go_at_call 138; go_must (refine (s_shB _ xrow a.n _ (HRX.out.below HW.out.drew) (by omega) (by rw [HLX.out]; omega)).mono ?_); rintro e w3 ⟨u3, rfl, hI3, hB3⟩; obtain ⟨hm1, hm2, ⟨r3, hr3⟩, hf3, hs3⟩ := HSET.out w3 (below_size (Below.refl _ _).drew hB3); obtain ⟨a9, c9, rfl, _, _⟩ := hI3.form; have hq := Lib.hid (hs3 _ _ hI3))
                  all_goals
                    clear W1 T1
                    go_wp2_with fail
                    go_roundw
                    case rel => exact ⟨k + 1, by omega, by go_num, by rw [HD.out]; exact hq.out⟩
                    case measure => simp [intOf]; omega
                · obtain rfl : k = L.length := by omega
                  go_wp2_with fail
                  go_roundw
                  case rel => exact ⟨j + 1, by omega, by go_num, by rw [HP.out]; exact hI⟩
                  case measure => simp [intOf]; omega
          · obtain rfl : j = b.n := by omega
            obtain ⟨p1, o1, p2, c2, p3, c3, hBO⟩ := hI.open SHj2.out.pl SHj2.out.cl
            have HF := Lib.hid (hBO.out (Nat.le_refl _))
            rw [SHj2.out.ol] at HF
            have n0 := hBO.x4.c0
            have n1 := hBO.x4.c1
            have n2 := hBO.x4.c2
            have q0 := hBO.x2.c0
            have q1 := hBO.x2.c1
            have q2 := hBO.x2.c2
            have f0 := hBO.x2.fr 0
            have f1 := hBO.x2.fr 1
            have f2 := hBO.x2.fr 2
            rw [SHj2.out.ol] at n0
            clear hBO hI
            go_wp2_with fail
            refine bodyPost_ret (v := .agg #[Value.slice p1 (a.n + b.n) o1, Value.slice p2 (a.n + b.n) c2, Value.slice p3 (a.n + b.n) c3]) (by simp [results, Try.results94, go_sem, q0, q1, q2]) rfl ?_
            rw [HDP.out]
            exact ⟨_, _, _, rfl, OP.sub HF.out.1 (fun k hk hh => ⟨Nat.le_trans HZ2.out hh.1, hk⟩), HG2.out.trans (HF.out.2.mono HZ2.out)⟩
end Go.Proofs.Ythnpndheaailjaa
