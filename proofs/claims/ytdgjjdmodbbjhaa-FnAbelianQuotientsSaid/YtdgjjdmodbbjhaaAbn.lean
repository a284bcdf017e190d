/-
  The program's direct product.
-/
import Derived.Test.YtdgjjdmodbbjhaaAbj
import Derived.Test.YtdgjjdmodbbjhaaAbm
namespace Go.Proofs.Ytdgjjdmodbbjhaa
set_option linter.unusedVariables false
set_option linter.unusedSimpArgs false
set_option maxRecDepth 100000
open Go.RowKit

theorem cell_set2 {w : World} {b k : Nat} (h : k ≠ b) (o : Nat) (x y : Value) : ((w.setCell ⟨b, 0, none⟩ x).setCell ⟨b, 1, none⟩ y).cell? ⟨k, o, none⟩ = w.cell? ⟨k, o, none⟩ :=
  World.cell?_of_block (by rw [heap_setCell_other _ _ _ _ (by exact h), heap_setCell_other _ _ _ _ (by exact h)])
--== impl.SumAbelian
set_option maxHeartbeats 8000000 in
theorem i_SumAbelian (va vb : Value) (fa fb : List Nat) (ra rb : Int) (w : World) (hva : Rd w va (nI fa)) (hvb : Rd w vb (nI fb)) (ha : abP fa ra) (hb : abP fb rb) :
    Calls Try.prog 9 #[.agg #[va, .int .i64 ra], .agg #[vb, .int .i64 rb]] w (RetAb w (SumO (parts fa ++ parts fb) (ra + rb))) := by
  have ca := ha.chn
  have cb := hb.chn
  have la : fa.length ≤ 10 := by have := ha.1; have := ha.2.1; omega
  have lb : fb.length ≤ 10 := by have := hb.1; have := hb.2.1; omega
  have ra0 := ha.1
  have rb0 := hb.1
  have ra1 : ra ≤ 10 := by have := ha.2.1; omega
  have rb1 : rb ≤ 10 := by have := hb.2.1; omega
  have HA := Lib.hid hva
  have HB := Lib.hid hvb
  have HIA : Hid (∀ wx, Below w.heap.size w wx → Calls Try.prog 15 #[.agg #[va, .int .i64 ra]] wx fun e w' => e = .returned (.bool true) ∧ Below wx.heap.size wx w') := fun wx hx =>
    (i_IsAbelian va fa ra wx (hva.below hx) (fun f hf => by have := (ca.1 f hf).2; omega) (by omega) (by omega) (by omega)).mono fun e w' ⟨b, he, hb', hw⟩ => ⟨by rw [he, hb'.2 ha], hw⟩
  have HIB : Hid (∀ wx, Below w.heap.size w wx → Calls Try.prog 15 #[.agg #[vb, .int .i64 rb]] wx fun e w' => e = .returned (.bool true) ∧ Below wx.heap.size wx w') := fun wx hx =>
    (i_IsAbelian vb fb rb wx (hvb.below hx) (fun f hf => by have := (cb.1 f hf).2; omega) (by omega) (by omega) (by omega)).mono fun e w' ⟨b, he, hb', hw⟩ => ⟨by rw [he, hb'.2 hb], hw⟩
  have HPA : Hid (∀ wx, Below w.heap.size w wx → Calls Try.prog 16 #[.agg #[va, .int .i64 ra]] wx (RetInts wx (nI (sortP (parts fa))))) := fun wx hx => i_primaryParts va fa ra wx (hva.below hx) ca.1 (by omega)
  have HPB : Hid (∀ wx, Below w.heap.size w wx → Calls Try.prog 16 #[.agg #[vb, .int .i64 rb]] wx (RetInts wx (nI (sortP (parts fb))))) := fun wx hx => i_primaryParts vb fb rb wx (hvb.below hx) cb.1 (by omega)
  have HQ : Hid (∀ q ∈ sortP (parts fa) ++ sortP (parts fb), PPw q) := fun q hq => by
    rcases List.mem_append.1 hq with h | h
    · exact parts_ppw ca.1 q ((sortP_perm _).mem_iff.1 h)
    · exact parts_ppw cb.1 q ((sortP_perm _).mem_iff.1 h)
  have hla : (sortP (parts fa)).length ≤ 20000 := by rw [(sortP_perm _).length_eq]; have := parts_len fa; omega
  have hlb : (sortP (parts fb)).length ≤ 20000 := by rw [(sortP_perm _).length_eq]; have := parts_len fb; omega
  have HPM : Hid ((sortP (parts fa) ++ sortP (parts fb)).Perm (parts fa ++ parts fb)) := (sortP_perm _).append (sortP_perm _)
  generalize sortP (parts fa) = Sa at *
  generalize sortP (parts fb) = Sb at *
  obtain ⟨aa, ca', hfa, _, _⟩ := rd_formN hva (nI_length fa)
  obtain ⟨ab, cb', hfb, _, _⟩ := rd_formN hvb (nI_length fb)
  subst hfa hfb
  generalize fa.length = na at *
  generalize fb.length = nb at *
  have HB0 := Lib.hid (below_allocs3' w (.cells #[.slice aa na ca', .int .i64 ra] 26) (.cells #[.slice ab nb cb', .int .i64 rb] 26) (.cells #[.slice none 0 0, .int .i64 0] 26))
  clear hva hvb ha hb ca cb
  go_enter Try.func9, Try.ntmps9
  go_wp2_with fail
  refine (HIA.out _ HB0.out).mono ?_
  rintro e w1 ⟨rfl, hB1⟩
  have hx0 : B2 w1 w.heap.size (.slice aa na ca') (.int .i64 ra) := (((B2.new w _ _).alloc _).alloc _).below hB1 (by simp; omega)
  have hy0 : B2 w1 (w.heap.size + 1) (.slice ab nb cb') (.int .i64 rb) := by
    have h := ((B2.new (w.alloc (.cells #[.slice aa na ca', .int .i64 ra] 26)) (.slice ab nb cb') (.int .i64 rb)).alloc (.cells #[.slice none 0 0, .int .i64 0] 26)).below hB1 (by simp)
    rwa [show (w.alloc (.cells #[.slice aa na ca', .int .i64 ra] 26)).heap.size = w.heap.size + 1 by simp] at h
  have hz0 : B2 w1 (w.heap.size + 1 + 1) (.slice none 0 0) (.int .i64 0) := by
    have h := (B2.new ((w.alloc (.cells #[.slice aa na ca', .int .i64 ra] 26)).alloc (.cells #[.slice ab nb cb', .int .i64 rb] 26)) (.slice none 0 0) (.int .i64 0)).below hB1 (by simp)
    rwa [show ((w.alloc (.cells #[.slice aa na ca', .int .i64 ra] 26)).alloc (.cells #[.slice ab nb cb', .int .i64 rb] 26)).heap.size = w.heap.size + 1 + 1 by simp] at h
  have HB1 := Lib.hid (below_size HB0.out hB1)
  have hs1 : w.heap.size + 1 + 1 < w1.heap.size := hz0.lt
  clear hB1 HB0 HIA
  have m0 := hy0.c0
  have m1 := hy0.c1
  have HX0 := Lib.hid hx0
  have HY0 := Lib.hid hy0
  have HZ0 := Lib.hid hz0
  clear hx0 hy0 hz0
  go_wp2_with fail
  refine (HIB.out _ HB1.out).mono ?_
  rintro e w2 ⟨rfl, hB2⟩
  have HX1 := Lib.hid (HX0.out.below hB2 (by omega))
  have HY1 := Lib.hid (HY0.out.below hB2 (by omega))
  have HZ1 := Lib.hid (HZ0.out.below hB2 hs1)
  have HB2 := Lib.hid (below_size HB1.out hB2)
  have hs2 : w.heap.size + 1 + 1 < w2.heap.size := HZ1.out.lt
  clear hB2 HIB HX0 HY0 HZ0 HB1 m0 m1 hs1
  have m0 := HX1.out.c0
  have m1 := HX1.out.c1
  have m2 := HY1.out.c0
  have m3 := HY1.out.c1
  have z0 := HZ1.out.c0
  have z1 := HZ1.out.c1
  have f0 := HZ1.out.f 0
  have f1 := HZ1.out.f 1
  have KEEP : Hid (∀ wx, Below w2.heap.size w2 wx → (wx.cell? ⟨w.heap.size, 0, none⟩ = some (.slice aa na ca') ∧ wx.cell? ⟨w.heap.size, 1, none⟩ = some (.int .i64 ra) ∧ wx.cell? ⟨w.heap.size + 1, 0, none⟩ = some (.slice ab nb cb') ∧ wx.cell? ⟨w.heap.size + 1, 1, none⟩ = some (.int .i64 rb))) := fun wx hb =>
    ⟨(HX1.out.below hb (by omega)).c0, (HX1.out.below hb (by omega)).c1, (HY1.out.below hb (by omega)).c0, (HY1.out.below hb (by omega)).c1⟩
  have W1 : IntKind.i64.wrap (ra + rb) = ra + rb := IntWalk.i64_in _ (by omega)
  have R1 : (0 : Int) ≤ ra + rb := by omega
  have R2 : ra + rb ≤ 1000 := by omega
  go_wp2_with fail
  go_region_held3 (fun wx => wx.cell? ⟨w.heap.size, 0, none⟩ = some (.slice aa na ca') ∧ wx.cell? ⟨w.heap.size, 1, none⟩ = some (.int .i64 ra) ∧ wx.cell? ⟨w.heap.size + 1, 0, none⟩ = some (.slice ab nb cb') ∧ wx.cell? ⟨w.heap.size + 1, 1, none⟩ = some (.int .i64 rb))
    (first
      | exact KEEP.out _ (Below.refl _ _).drew
      | exact ⟨(cell_set2 (by omega) _ _ _).trans (KEEP.out _ hK9).1, (cell_set2 (by omega) _ _ _).trans (KEEP.out _ hK9).2.1, (cell_set2 (by omega) _ _ _).trans (KEEP.out _ hK9).2.2.1, (cell_set2 (by omega) _ _ _).trans (KEEP.out _ hK9).2.2.2⟩
      | exact KEEP.out _ hK9
      | exact KEEP.out _ hK8
      | exact KEEP.out _ hK7
      | exact KEEP.out _ hK6)
    (first
      | ((go_at_call 16); (with_reducible refine (HPA.out _ (below_size HB2.out (Below.refl _ _).drew)).mono ?_); (rintro e w6 ⟨u6, rfl, hI6, hB6⟩); (have hK6 : Below w2.heap.size w2 w6 := below_size (Below.refl _ _).drew hB6); (obtain ⟨a6, n6, c6, rfl⟩ : ∃ a n c, u6 = Value.slice a n c := (by obtain ⟨ao, c, e, _⟩ := hI6.form; exact ⟨_, _, _, e⟩)))
      | ((go_at_call 16); (with_reducible refine (HPB.out _ (below_size HB2.out hK6)).mono ?_); (rintro e w7 ⟨u7, rfl, hI7, hB7⟩); (have hK7 : Below w2.heap.size w2 w7 := below_size hK6 hB7); (obtain ⟨a7, n7, c7, rfl⟩ : ∃ a n c, u7 = Value.slice a n c := (by obtain ⟨ao, c, e, _⟩ := hI7.form; exact ⟨_, _, _, e⟩)))
      | (obtain ⟨v8, w8, hr8, hI8, hB8⟩ := run_appI _ 24 _ _ _ (hI6.below hB7) _ _ hI7.rd (by rw [nI_length]; omega) (by rw [nI_length]; omega) (Nat.le_trans hB6.size hB7.size)
         have hK8 : Below w2.heap.size w2 w8 := hK7.trans hB8
         refine step_of_run rfl (.tmp 16) (.tmp 18) 24 rfl _ _ (by simp [Act.eval, Act.put]) (by simp [Act.eval, Act.put]) _ _ hr8 ?_)
      | ((go_at_call 21); (with_reducible refine (i_fromPrimary _ (Sa ++ Sb) (ra + rb) _ (by unfold nI at *; rw [List.map_append]; exact hI8.rd) HQ.out (by rw [List.length_append]; omega) R1 R2).mono ?_); (rintro e w9 ⟨v9, fs, r9, k9, rfl, hR9, hO9, hB9⟩); (have hK9 : Below w2.heap.size w2 w9 := below_size hK8 hB9); (obtain ⟨a9, n9, c9, rfl⟩ : ∃ a n c, v9 = Value.slice a n c := (by obtain ⟨ao, c, e, _⟩ := hR9.form; exact ⟨_, _, _, e⟩)); (have y0 := (HZ1.out.below hK9 hs2).c0); (have y1 := (HZ1.out.below hK9 hs2).c1); (have y2 := (HZ1.out.below hK9 hs2).f 0); (have y3 := (HZ1.out.below hK9 hs2).f 1)))
  have q := (HZ1.out.below hK9 hs2).set (.slice a9 n9 c9) (.int .i64 r9)
  have q0 := q.c0
  have q1 := q.c1
  have HB9 := below_size HB2.out hK9
  have HO9 := SumO.perm HPM.out hO9
  have hs8 := hK8.size
  go_wp2_with fail
  refine bodyPost_ret (v := .tuple #[.agg #[.slice a9 n9 c9, .int .i64 r9], .int .i64 k9]) (by simp [results, Try.results9, go_sem, q0, q1]) rfl ?_
  exact ⟨_, fs, r9, k9, rfl, (hR9.chg (chg_set2 _ _ _ _) fun g hg => .inr (by have := (hR9.lt g hg).1; omega)).mono (by omega), HO9, below_set2 HB9 (by omega) _ _⟩
end Go.Proofs.Ytdgjjdmodbbjhaa
