/-
  The reference's direct product.
-/
import Derived.Test.YtdgjjdmodbbjhaaAbi
namespace Go.Proofs.Ytdgjjdmodbbjhaa
set_option linter.unusedVariables false
set_option linter.unusedSimpArgs false
set_option maxRecDepth 100000
open Go.RowKit

theorem sortP_perm_eq {S S' : List Nat} (h : S.Perm S') : sortP S = sortP S' := sortP_uniq ((sortP_perm S).trans h) (sortP_sorted S)
theorem grp_perm_eq {S S' : List Nat} (h : S.Perm S') (p : Nat) : grp S p = grp S' p := by unfold grp; rw [sortP_perm_eq h]
theorem colS_perm {S S' : List Nat} (h : S.Perm S') : colS S = colS S' := by
  have e : (fun p => (grp S p).reverse) = fun p => (grp S' p).reverse := funext fun p => by rw [grp_perm_eq h]
  unfold colS
  rw [e]
theorem maxN_le {l : List Nat} {m : Nat} (h : ∀ x ∈ l, x ≤ m) : maxN l ≤ m := by
  induction l with
  | nil => exact Nat.zero_le _
  | cons a l ih =>
    simp only [maxN, List.foldr_cons] at *
    have := h a (by simp); have := ih fun x hx => h x (List.mem_cons_of_mem _ hx); omega
theorem colS_len (S : List Nat) : (colS S).length ≤ S.length := by
  unfold colS
  rw [foldU_length]
  apply maxN_le
  intro x hx
  simp only [List.map_map, List.mem_map, Function.comp] at hx
  obtain ⟨p, _, rfl⟩ := hx
  rw [List.length_reverse, (grp_perm S p).length_eq]
  exact List.length_filter_le _ _
theorem SumO.perm {S S' fs : List Nat} {r0 r k : Int} (hp : S.Perm S') (h : SumO S r0 fs r k) : SumO S' r0 fs r k := by unfold SumO at *; rw [← colS_perm hp]; exact h
--== three boxes
theorem below_allocs3' (w : World) (o o' o'' : Obj) : Below w.heap.size w (((w.alloc o).alloc o').alloc o'') := below_size (below_size (below_alloc w o) (below_alloc _ o')) (below_alloc _ o'')
--== spec.SumAbelian
set_option maxHeartbeats 8000000 in
theorem s_SumAbelian (va vb : Value) (fa fb : List Nat) (ra rb : Int) (w : World) (hva : Rd w va (nI fa)) (hvb : Rd w vb (nI fb)) (ha : abP fa ra) (hb : abP fb rb) :
    Calls Try.prog 10 #[.agg #[va, .int .i64 ra], .agg #[vb, .int .i64 rb]] w (RetAb w (SumO (parts fa ++ parts fb) (ra + rb))) := by
  have ca := ha.chn
  have cb := hb.chn
  have la : fa.length ≤ 10 := by have := ha.1; have := ha.2.1; omega
  have lb : fb.length ≤ 10 := by have := hb.1; have := hb.2.1; omega
  have ra0 := ha.1
  have rb0 := hb.1
  have ra1 : ra ≤ 10 := by have := ha.2.1; omega
  have rb1 : rb ≤ 10 := by have := hb.2.1; omega
  have HA := Lib.hid hva
  have HB := Lib.hid hvb
  have HIA : Hid (∀ wx, Below w.heap.size w wx → Calls Try.prog 18 #[.agg #[va, .int .i64 ra]] wx fun e w' => e = .returned (.bool true) ∧ Below wx.heap.size wx w') := fun wx hx =>
    (s_IsAbelian va fa ra wx (hva.below hx) (fun f hf => by have := (ca.1 f hf).2; omega) (by omega) (by omega) (by omega)).mono fun e w' ⟨b, he, hb', hw⟩ => ⟨by rw [he, hb'.2 ha], hw⟩
  have HIB : Hid (∀ wx, Below w.heap.size w wx → Calls Try.prog 18 #[.agg #[vb, .int .i64 rb]] wx fun e w' => e = .returned (.bool true) ∧ Below wx.heap.size wx w') := fun wx hx =>
    (s_IsAbelian vb fb rb wx (hvb.below hx) (fun f hf => by have := (cb.1 f hf).2; omega) (by omega) (by omega) (by omega)).mono fun e w' ⟨b, he, hb', hw⟩ => ⟨by rw [he, hb'.2 hb], hw⟩
  have HPA : Hid (∀ wx, Below w.heap.size w wx → Calls Try.prog 23 #[va] wx (RetInts wx (nI (sortP (parts fa))))) := fun wx hx => s_l05Parts va fa wx (hva.below hx) ca.1 (by omega)
  have HPB : Hid (∀ wx, Below w.heap.size w wx → Calls Try.prog 23 #[vb] wx (RetInts wx (nI (sortP (parts fb))))) := fun wx hx => s_l05Parts vb fb wx (hvb.below hx) cb.1 (by omega)
  have HQ : Hid (∀ q ∈ sortP (parts fa) ++ sortP (parts fb), PPw q) := fun q hq => by
    rcases List.mem_append.1 hq with h | h
    · exact parts_ppw ca.1 q ((sortP_perm _).mem_iff.1 h)
    · exact parts_ppw cb.1 q ((sortP_perm _).mem_iff.1 h)
  have hla : (sortP (parts fa)).length ≤ 20000 := by rw [(sortP_perm _).length_eq]; have := parts_len fa; omega
  have hlb : (sortP (parts fb)).length ≤ 20000 := by rw [(sortP_perm _).length_eq]; have := parts_len fb; omega
  have HPM : Hid ((sortP (parts fa) ++ sortP (parts fb)).Perm (parts fa ++ parts fb)) := (sortP_perm _).append (sortP_perm _)
  generalize sortP (parts fa) = Sa at *
  generalize sortP (parts fb) = Sb at *
  obtain ⟨aa, ca', hfa, _, _⟩ := rd_formN hva (nI_length fa)
  obtain ⟨ab, cb', hfb, _, _⟩ := rd_formN hvb (nI_length fb)
  subst hfa hfb
  generalize fa.length = na at *
  generalize fb.length = nb at *
  have HB0 := Lib.hid (below_allocs3' w (.cells #[.slice aa na ca', .int .i64 ra] 26) (.cells #[.slice ab nb cb', .int .i64 rb] 26) (.cells #[.slice none 0 0, .int .i64 0] 26))
  clear hva hvb ha hb ca cb
  go_enter Try.func10, Try.ntmps10
  go_wp2_with fail
  refine (HIA.out _ HB0.out).mono ?_
  rintro e w1 ⟨rfl, hB1⟩
  have hx0 : B2 w1 w.heap.size (.slice aa na ca') (.int .i64 ra) := (((B2.new w _ _).alloc _).alloc _).below hB1 (by simp; omega)
  have hy0 : B2 w1 (w.heap.size + 1) (.slice ab nb cb') (.int .i64 rb) := by
    have h := ((B2.new (w.alloc (.cells #[.slice aa na ca', .int .i64 ra] 26)) (.slice ab nb cb') (.int .i64 rb)).alloc (.cells #[.slice none 0 0, .int .i64 0] 26)).below hB1 (by simp)
    rwa [show (w.alloc (.cells #[.slice aa na ca', .int .i64 ra] 26)).heap.size = w.heap.size + 1 by simp] at h
  have hz0 : B2 w1 (w.heap.size + 1 + 1) (.slice none 0 0) (.int .i64 0) := by
    have h := (B2.new ((w.alloc (.cells #[.slice aa na ca', .int .i64 ra] 26)).alloc (.cells #[.slice ab nb cb', .int .i64 rb] 26)) (.slice none 0 0) (.int .i64 0)).below hB1 (by simp)
    rwa [show ((w.alloc (.cells #[.slice aa na ca', .int .i64 ra] 26)).alloc (.cells #[.slice ab nb cb', .int .i64 rb] 26)).heap.size = w.heap.size + 1 + 1 by simp] at h
  have HB1 := Lib.hid (below_size HB0.out hB1)
  have hs1 : w.heap.size + 1 + 1 < w1.heap.size := hz0.lt
  clear hB1 HB0 HIA
  have m0 := hy0.c0
  have m1 := hy0.c1
  have HX0 := Lib.hid hx0
  have HY0 := Lib.hid hy0
  have HZ0 := Lib.hid hz0
  clear hx0 hy0 hz0
  go_wp2_with fail
  refine (HIB.out _ HB1.out).mono ?_
  rintro e w2 ⟨rfl, hB2⟩
  have HX1 := Lib.hid (HX0.out.below hB2 (by omega))
  have HY1 := Lib.hid (HY0.out.below hB2 (by omega))
  have HZ1 := Lib.hid (HZ0.out.below hB2 hs1)
  have HB2 := Lib.hid (below_size HB1.out hB2)
  have hs2 : w.heap.size + 1 + 1 < w2.heap.size := HZ1.out.lt
  clear hB2 HIB HX0 HY0 HZ0 HB1 m0 m1 hs1
  have m0 := HX1.out.c0
  have m1 := HX1.out.c1
  have m2 := HY1.out.c0
  have m3 := HY1.out.c1
  have KEEP : Hid (∀ wx, Below w2.heap.size w2 wx → (wx.cell? ⟨w.heap.size, 0, none⟩ = some (.slice aa na ca') ∧ wx.cell? ⟨w.heap.size + 1, 0, none⟩ = some (.slice ab nb cb'))) := fun wx hb =>
    ⟨(HX1.out.below hb (by omega)).c0, (HY1.out.below hb (by omega)).c0⟩
  go_wp2_with fail
  go_region_held3 (fun wx => wx.cell? ⟨w.heap.size, 0, none⟩ = some (.slice aa na ca') ∧ wx.cell? ⟨w.heap.size + 1, 0, none⟩ = some (.slice ab nb cb'))
    (first
      | exact KEEP.out _ (Below.refl _ _).drew
      | exact KEEP.out _ hK9
      | exact KEEP.out _ hK8
      | exact KEEP.out _ hK7
      | exact KEEP.out _ hK6)
    (first
      | ((go_at_call 23); (with_reducible refine (HPA.out _ (below_size HB2.out (Below.refl _ _).drew)).mono ?_); (rintro e w6 ⟨u6, rfl, hI6, hB6⟩); (have hK6 : Below w2.heap.size w2 w6 := below_size (Below.refl _ _).drew hB6); (obtain ⟨a6, n6, c6, rfl⟩ : ∃ a n c, u6 = Value.slice a n c := (by obtain ⟨ao, c, e, _⟩ := hI6.form; exact ⟨_, _, _, e⟩)))
      | ((go_at_call 23); (with_reducible refine (HPB.out _ (below_size HB2.out hK6)).mono ?_); (rintro e w7 ⟨u7, rfl, hI7, hB7⟩); (have hK7 : Below w2.heap.size w2 w7 := below_size hK6 hB7); (obtain ⟨a7, n7, c7, rfl⟩ : ∃ a n c, u7 = Value.slice a n c := (by obtain ⟨ao, c, e, _⟩ := hI7.form; exact ⟨_, _, _, e⟩)))
      | (obtain ⟨v8, w8, hr8, hI8, hB8⟩ := run_appI _ 24 _ _ _ (hI6.below hB7) _ _ hI7.rd (by rw [nI_length]; omega) (by rw [nI_length]; omega) (Nat.le_trans hB6.size hB7.size)
         have hK8 : Below w2.heap.size w2 w8 := hK7.trans hB8
         refine step_of_run rfl (.tmp 20) (.tmp 23) 24 rfl _ _ (by simp [Act.eval, Act.put]) (by simp [Act.eval, Act.put]) _ _ hr8 ?_)
      | ((go_at_call 22); (with_reducible refine (s_l05From _ (Sa ++ Sb) _ (by unfold nI at *; rw [List.map_append]; exact hI8.rd) HQ.out (by rw [List.length_append]; omega)).mono ?_); (rintro e w9 ⟨u9, b9, fs, rfl, hR9, hO9, hB9⟩); (have hK9 : Below w2.heap.size w2 w9 := below_size hK8 hB9)))
  obtain ⟨a9, n9, c9, rfl⟩ : ∃ a n c, u9 = Value.slice a n c := by obtain ⟨ao, c, e, _⟩ := hR9.form; exact ⟨_, _, _, e⟩
  have HX9 := Lib.hid (HX1.out.below hK9 (by omega))
  have HY9 := Lib.hid (HY1.out.below hK9 (by omega))
  have HZ9 := Lib.hid (HZ1.out.below hK9 hs2)
  have HB9 := Lib.hid (below_size HB2.out hK9)
  have HR9 := Lib.hid hR9
  have HO9 := Lib.hid hO9
  have hs9 : w.heap.size + 1 + 1 < w9.heap.size := HZ9.out.lt
  have hs8 : w.heap.size + 1 + 1 < w8.heap.size := Nat.lt_of_lt_of_le hs2 hK8.size
  clear hI6 hB6 hK6 hI7 hB7 hK7 hr8 hI8 hB8 hK8 hR9 hO9 hB9 hK9 KEEP HX1 HY1 HZ1 HB2 hs2 HPA HPB m0 m1 m2 m3 HQ
  have m1 := HX9.out.c1
  have m3 := HY9.out.c1
  have z0 := HZ9.out.c0
  have z1 := HZ9.out.c1
  have f0 := HZ9.out.f 0
  have f1 := HZ9.out.f 1
  cases b9
  · have HNO : Hid (¬ okU (colS (Sa ++ Sb))) := by
      rcases HO9.out with ⟨_, h, _⟩ | ⟨h, _⟩
      · cases h
      · exact h
    go_wp2_with fail
    have q := HZ9.out.set (.slice none 0 0) (.int .i64 0)
    have q0 := q.c0
    have q1 := q.c1
    refine bodyPost_ret (v := .tuple #[.agg #[.slice none 0 0, .int .i64 0], .int .i64 3]) (by simp [results, Try.results10, go_sem, q0, q1]) rfl ?_
    exact ⟨_, [], 0, 3, rfl, Ints.nil _ _, SumO.perm HPM.out (sum_lim HNO.out), below_set2 HB9.out (by omega) _ _⟩
  · have HYES : Hid (okU (colS (Sa ++ Sb)) ∧ fs = (colS (Sa ++ Sb)).reverse) := by
      rcases HO9.out with ⟨h, _, h2⟩ | ⟨_, h, _⟩
      · exact ⟨h, h2⟩
      · cases h
    have W1 : IntKind.i64.wrap (ra + rb) = ra + rb := IntWalk.i64_in _ (by omega)
    have hfl : fs.length ≤ 1000000 := by
      rw [HYES.out.2, List.length_reverse]
      have := colS_len (Sa ++ Sb)
      rw [List.length_append] at this; omega
    have HM : Hid (Calls Try.prog 24 #[.slice a9 n9 c9, .int .i64 (ra + rb)] w9 (RetMade w9 (.slice a9 n9 c9) fs (ra + rb))) := s_l05Made _ fs (ra + rb) w9 HR9.out.rd (fun f hf => by
      rw [HYES.out.2] at hf
      have := HYES.out.1 f (List.mem_reverse.1 hf); omega) hfl (by omega) (by omega)
    clear hfl
    go_wp2_with fail
    refine HM.out.mono ?_
    rintro e w10 ⟨v10, f10, r10, k10, rfl, hv10, hO10, hB10⟩
    have hR10 : Ints w10 w8.heap.size v10 (nI f10) := by
      rcases hv10 with ⟨h1, h2⟩ | ⟨h1, h2⟩
      · rw [h1, h2]; exact HR9.out.below hB10
      · rw [h1, h2]; exact Ints.nil _ _
    clear hv10
    obtain ⟨a10, n10, c10, rfl⟩ : ∃ a n c, v10 = Value.slice a n c := by obtain ⟨ao, c, e, _⟩ := hR10.form; exact ⟨_, _, _, e⟩
    have HZ10 := Lib.hid (HZ9.out.below hB10 hs9)
    have HB10 := Lib.hid (below_size HB9.out hB10)
    have HR10 := Lib.hid hR10
    have HO10 : Hid (SumO (parts fa ++ parts fb) (ra + rb) f10 r10 k10) := SumO.perm HPM.out (sum_made HYES.out.1 (HYES.out.2 ▸ hO10))
    clear z0 z1 f0 f1 m1 m3 hB10 hR10 hO10 HM W1 HX9 HY9
    have z0 := HZ10.out.c0
    have z1 := HZ10.out.c1
    have f0 := HZ10.out.f 0
    have f1 := HZ10.out.f 1
    go_wp2_with fail
    have q := HZ10.out.set (.slice a10 n10 c10) (.int .i64 r10)
    have q0 := q.c0
    have q1 := q.c1
    refine bodyPost_ret (v := .tuple #[.agg #[.slice a10 n10 c10, .int .i64 r10], .int .i64 k10]) (by simp [results, Try.results10, go_sem, q0, q1]) rfl ?_
    exact ⟨_, f10, r10, k10, rfl, (HR10.out.chg (chg_set2 _ _ _ _) fun g hg => .inr (by have := (HR10.out.lt g hg).1; omega)).mono (by omega), HO10.out, below_set2 HB10.out (by omega) _ _⟩
end Go.Proofs.Ytdgjjdmodbbjhaa
