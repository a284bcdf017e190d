/-
  The laws' helpers on lists of critical pairs: comparisons, marks.
-/
import Derived.Test.YthnpndheaailjaaCrg
namespace Go.Proofs.Ythnpndheaailjaa
set_option linter.unusedVariables false
set_option linter.unusedSimpArgs false
set_option maxRecDepth 100000
open Go.RowKit

--== plain (sizes)
theorem cat_bd (b : Nat) : ∀ L : List (List Int), (∀ r ∈ L, r.length ≤ b) → (cat L).length ≤ L.length * b
  | [], _ => by simp [cat]
  | x :: L, h => by
    have h1 := cat_bd b L fun r hr => h r (List.mem_cons_of_mem _ hr)
    have h2 := h x List.mem_cons_self
    rw [show cat (x :: L) = x ++ cat L from rfl, List.length_append, List.length_cons, Nat.succ_mul]
    omega
theorem len_CriticalPairsN (p : Pres) : cpN p ≤ 1000000000 := by
  cases h : validB p with
  | false => rw [(cp_not h).1]; decide
  | true =>
    rw [(cp_yes h).1]
    have := cpL_len (validB_true.1 h).n6
    omega
theorem len_CriticalPairs (p : Pres) : (cat (cpF p)).length ≤ 1000000000 := by
  cases h : validB p with
  | false => rw [(cp_not h).2.1]; simp [cat]
  | true =>
    have hV := validB_true.1 h
    rw [(cp_yes h).2.1]
    have h1 := cpL_len hV.n6
    have h2 := cat_bd 256 (flC p (cpL p)) (fun r hr => by
      unfold flC at hr
      obtain ⟨it, hit, hr⟩ := List.mem_flatMap.1 hr
      have hg := cpL_good hV hit
      simp only [pr3, List.mem_cons, List.not_mem_nil, or_false] at hr
      rcases hr with rfl | rfl | rfl
      · have := hg.len; omega
      · exact (hg.left hV).2
      · exact (hg.right hV).2)
    rw [flC_len] at h2
    omega
--== laws.eqCriticalPair
set_option maxHeartbeats 2000000 in
theorem l_eqCriticalPair (x1 x2 x3 y1 y2 y3 : Value) (f1 f2 f3 : List Int) (w : World) (hx1 : Rd w x1 f1) (hx2 : Rd w x2 f2) (hx3 : Rd w x3 f3) (hy1 : Rd w y1 f1) (hy2 : Rd w y2 f2) (hy3 : Rd w y3 f3) :
    Calls Try.prog 124 #[.agg #[x1, x2, x3], .agg #[y1, y2, y3]] w (RetV w (.bool true)) := by
  obtain ⟨a1, c1, rfl, _, _⟩ := hx1.form
  obtain ⟨a2, c2, rfl, _, _⟩ := hx2.form
  obtain ⟨a3, c3, rfl, _, _⟩ := hx3.form
  obtain ⟨b1, d1, rfl, _, _⟩ := hy1.form
  obtain ⟨b2, d2, rfl, _, _⟩ := hy2.form
  obtain ⟨b3, d3, rfl, _, _⟩ := hy3.form
  have HX1 := Lib.hid hx1
  have HX2 := Lib.hid hx2
  have HX3 := Lib.hid hx3
  have HY1 := Lib.hid hy1
  have HY2 := Lib.hid hy2
  have HY3 := Lib.hid hy3
  obtain ⟨wb, hwb⟩ : ∃ wb, wb = (w.alloc (Obj.cells #[Value.slice a1 f1.length c1, Value.slice a2 f2.length c2, Value.slice a3 f3.length c3] 127)).alloc (Obj.cells #[Value.slice b1 f1.length d1, Value.slice b2 f2.length d2, Value.slice b3 f3.length d3] 127) := ⟨_, rfl⟩
  have G0 : Hid (Below w.heap.size w wb) := by
    show Below _ _ _
    rw [hwb]; exact (below_alloc w _).alloc (by simp) _
  have sz1 : (w.alloc (Obj.cells #[Value.slice a1 f1.length c1, Value.slice a2 f2.length c2, Value.slice a3 f3.length c3] 127)).heap.size = w.heap.size + 1 := by simp
  have XB : Hid (Bq wb w.heap.size (Value.slice a1 f1.length c1) (Value.slice a2 f2.length c2) (Value.slice a3 f3.length c3)) := by
    show Bq _ _ _ _ _
    rw [hwb]
    exact (Below.heap_alloc _ _ _ (Bq.new w _ _ _).lt).trans (Bq.new w _ _ _)
  have YB : Hid (Bq wb (w.heap.size + 1) (Value.slice b1 f1.length d1) (Value.slice b2 f2.length d2) (Value.slice b3 f3.length d3)) := by
    show Bq _ _ _ _ _
    rw [hwb, ← sz1]; exact Bq.new _ _ _ _
  have HWB := Lib.hid hwb
  clear hx1 hx2 hx3 hy1 hy2 hy3 hwb sz1
  go_enter Try.func124, Try.ntmps124
  go_wp2_with fail
  rw [← HWB.out]
  refine (l_eqInt64S_same _ _ f1 _ (HX1.out.below G0.out) (HY1.out.below G0.out)).mono ?_
  rintro e w1 ⟨rfl, hb⟩
  have H1 := Lib.hid hb
  have m1 := (XB.out.below hb XB.out.lt).c1
  have n1 := (YB.out.below hb YB.out.lt).c1
  clear hb
  go_wp2_with fail
  refine (l_eqInt64S_same _ _ f2 _ (HX2.out.below (below_size G0.out H1.out)) (HY2.out.below (below_size G0.out H1.out))).mono ?_
  rintro e w2 ⟨rfl, hb⟩
  have H2 := Lib.hid (below_size H1.out hb)
  have m2 := (XB.out.below H2.out XB.out.lt).c2
  have n2 := (YB.out.below H2.out YB.out.lt).c2
  clear hb m1 n1
  go_wp2_with fail
  refine (l_eqInt64S_same _ _ f3 _ (HX3.out.below (below_size G0.out H2.out)) (HY3.out.below (below_size G0.out H2.out))).mono ?_
  rintro e w3 ⟨rfl, hb⟩
  have H3 := Lib.hid (below_size G0.out (below_size H2.out hb))
  clear hb m2 n2
  go_wp2_with fail
  go_ret
  exact ⟨rfl, H3.out⟩
--== laws.eqCriticalPairS
set_option maxHeartbeats 2000000 in
theorem l_eqCriticalPairS (va vb : Value) (n : Nat) (F : List (List Int)) (w : World) (ha : RT w va n F) (hb : RT w vb n F) : Calls Try.prog 62 #[va, vb] w (RetV w (.bool true)) := by
  obtain ⟨aa, ca, rfl, _, _⟩ := ha.form
  obtain ⟨ab, cb, rfl, _, _⟩ := hb.form
  have HA := Lib.hid ha
  have HB := Lib.hid hb
  clear ha hb
  go_enter Try.func62, Try.ntmps62
  go_wp2_with fail
  go_loopw [5] (fun i wr => ∃ k : Nat, k ≤ n ∧ i = .int .i64 k ∧ Below w.heap.size w wr) (fun i _ => n - (intOf i).toNat)
  case atStart => exact ⟨0, Nat.zero_le _, rfl, Below.refl _ _⟩
  case round =>
    obtain ⟨k, hk, rfl, hW⟩ := hrel
    have HW := Lib.hid hW
    by_cases hlt : k < n
    · obtain ⟨b, off, rfl, hat⟩ := (HA.out.below hW).at hlt
      obtain ⟨b', off', rfl, hat'⟩ := (HB.out.below hW).at hlt
      obtain ⟨r0, hc0, hr0⟩ := hat 0 (by omega)
      obtain ⟨r1, hc1, hr1⟩ := hat 1 (by omega)
      obtain ⟨r2, hc2, hr2⟩ := hat 2 (by omega)
      obtain ⟨q0, hd0, hs0⟩ := hat' 0 (by omega)
      obtain ⟨q1, hd1, hs1⟩ := hat' 1 (by omega)
      obtain ⟨q2, hd2, hs2⟩ := hat' 2 (by omega)
      obtain ⟨f0, hf0⟩ : ∃ f, F.getD (k * 3 + 0) [] = f := ⟨_, rfl⟩
      obtain ⟨f1, hf1⟩ : ∃ f, F.getD (k * 3 + 1) [] = f := ⟨_, rfl⟩
      obtain ⟨f2, hf2⟩ : ∃ f, F.getD (k * 3 + 2) [] = f := ⟨_, rfl⟩
      rw [hf0] at hr0 hs0
      rw [hf1] at hr1 hs1
      rw [hf2] at hr2 hs2
      rw [Nat.add_zero] at hc0 hd0
      have HEQ : Hid (∀ wx, Below wr.heap.size wr wx → Calls Try.prog 124 #[.agg #[r0, r1, r2], .agg #[q0, q1, q2]] wx (RetV wx (.bool true))) := fun wx hb =>
        l_eqCriticalPair _ _ _ _ _ _ f0 f1 f2 wx (hr0.below hb) (hr1.below hb) (hr2.below hb) (hs0.below hb) (hs1.below hb) (hs2.below hb)
      have KEEP : Hid (∀ wx, Below wr.heap.size wr wx → Below wr.heap.size wr wx ∧ wx.cell? ⟨b, off + k * 3, none⟩ = some r0 ∧ wx.cell? ⟨b, off + k * 3 + 1, none⟩ = some r1 ∧ wx.cell? ⟨b, off + k * 3 + 2, none⟩ = some r2 ∧ wx.cell? ⟨b', off' + k * 3, none⟩ = some q0 ∧ wx.cell? ⟨b', off' + k * 3 + 1, none⟩ = some q1 ∧ wx.cell? ⟨b', off' + k * 3 + 2, none⟩ = some q2) := fun wx hb =>
        ⟨hb, below_cells hb _ _ hc0, below_cells hb _ _ hc1, below_cells hb _ _ hc2, below_cells hb _ _ hd0, below_cells hb _ _ hd1, below_cells hb _ _ hd2⟩
      clear hat hat' hc0 hc1 hc2 hd0 hd1 hd2 hr0 hr1 hr2 hs0 hs1 hs2 hf0 hf1 hf2 hW
      go_wp2_with fail
      go_region_held3 (fun wx => Below wr.heap.size wr wx ∧ wx.cell? ⟨b, off + k * 3, none⟩ = some r0 ∧ wx.cell? ⟨b, off + k * 3 + 1, none⟩ = some r1 ∧ wx.cell? ⟨b, off + k * 3 + 2, none⟩ = some r2 ∧ wx.cell? ⟨b', off' + k * 3, none⟩ = some q0 ∧ wx.cell? ⟨b', off' + k * 3 + 1, none⟩ = some q1 ∧ wx.cell? ⟨b', off' + k * 3 + 2, none⟩ = some q2)
        (first | exact KEEP.out _ (Below.refl _ _).drew | exact KEEP.out _ (below_size (And.left (by assumption)) (by assumption)))
        (first | ((go_at_call 124); (with_reducible refine (HEQ.out _ (And.left (by assumption))).mono ?_); (rintro e w3 ⟨rfl, hB3⟩)))
      have HB9 : Hid (Below w.heap.size w w3) := below_size HW.out (And.left (by assumption))
      clear KEEP HEQ hB3
      go_wp2_with fail
      go_roundw
      case rel => exact ⟨k + 1, by omega, by go_num, HB9.out⟩
      case measure => (simp [intOf]; try omega)
    · obtain rfl : k = n := by omega
      clear hW
      go_wp2_with fail
      go_ret
      exact ⟨rfl, HW.out⟩
--== marks
theorem OT.at0 {w : World} {S : Nat → Prop} {ao : Option Addr} {n cap : Nat} {F : List (List Int)} (h : OT w S (.slice ao n cap) n F) (hn : 0 < n) : ∃ g, ao = some ⟨g, 0, none⟩ := by
  obtain ⟨vs, T, h1, _⟩ := h
  rcases h1.2 with ⟨h2, h3⟩ | ⟨g, cap', cur, h2, _⟩
  · omega
  · simp only [Value.slice.injEq] at h2
    exact ⟨g, h2.1⟩
theorem OT.focus {w : World} {S : Nat → Prop} {g n cap : Nat} {F : List (List Int)} (h : OT w S (.slice (some ⟨g, 0, none⟩) n cap) n F) {j : Nat} (hj : j < n * 3) :
    ∃ r T, w.cell? ⟨g, j, none⟩ = some r ∧ O1 w T r (F.getD j []) ∧ (∀ k, T k → S k) ∧ ∀ w' d', ChgS T w w' → O1 w' T r d' → OT w' S (.slice (some ⟨g, 0, none⟩) n cap) n (F.set j d') := by
  obtain ⟨vs, T, h1, h0, h2, h3, h4, h5⟩ := h
  have hvl : vs.length = n * 3 := h1.1
  refine ⟨vs.getD j undef, T j, ?_, (h3 j hj).2, (h3 j hj).1, fun w' d' hC hO => ?_⟩
  · rw [h1.cellAt j hj, List.getD, List.getElem?_eq_getElem (by omega)]; rfl
  · refine ⟨vs, T, own_keepS h1 fun g' hg => hC.block g' (World.ownsRow.lt h1 g' hg).2 (h4 j hj g' hg), by rw [List.length_set]; exact h0, h2, fun i hi => ⟨(h3 i hi).1, ?_⟩, h4, h5⟩
    by_cases e : j = i
    · subst e
      rw [gset_self _ _ _ _ (by omega)]; exact hO
    · rw [gset_ne _ _ _ _ _ e]
      exact local_O1.chg (h3 i hi).2 hC fun k hk hk2 => h5 j i hj hi e k hk2 hk
theorem off2_bd {F : List (List Int)} (hc : (cat F).length ≤ 1000000000) (j : Nat) : off2 F j ≤ 1000000000 := Nat.le_trans (off2_le F j) hc
--== laws.markCriticalPairS
set_option maxHeartbeats 3000000 in
theorem l_markCriticalPairS (S : Nat → Prop) (v : Value) (n : Nat) (F : List (List Int)) (k : Int) (w : World) (hv : OT w S v n F) (hk0 : 0 ≤ k) (hk1 : k ≤ 100000000000) (hs : n ≤ 1000000000) (hc : (cat F).length ≤ 1000000000) :
    Calls Try.prog 63 #[v, .int .i64 k] w fun e w' => e = .returned (.int .i64 (k + (cat F).length)) ∧ OT w' S v n (M2 k F F.length) ∧ ChgS S w w' := by
  obtain ⟨ao, cap, rfl, _, _⟩ := hv.rt.form
  have hFl : F.length = n * 3 := by obtain ⟨_, _, _, h0, _⟩ := hv; exact h0
  have HFL := Lib.hid hFl
  have HV0 : Hid (OT w S (.slice ao n cap) n (M2 k F (0 * 3))) := by
    show OT _ _ _ _ _
    rw [Nat.zero_mul, M2_zero]; exact hv
  clear hv hFl
  go_enter Try.func63, Try.ntmps63
  go_wp2_with fail
  go_loopw [1, 5] (fun u i wr => ∃ j : Nat, j ≤ n ∧ i = .int .i64 j ∧ u = .int .i64 (k + off2 F (j * 3)) ∧ OT wr S (.slice ao n cap) n (M2 k F (j * 3)) ∧ ChgS S w wr) (fun _ i _ => n - (intOf i).toNat)
  case atStart => exact ⟨0, Nat.zero_le _, rfl, by simp [off2, cat], HV0.out, ChgS.refl _ _⟩
  case round =>
    clear HV0
    obtain ⟨j, hj, rfl, rfl, hI, hG⟩ := hrel
    have HG := Lib.hid hG
    clear hG
    by_cases hlt : j < n
    · obtain ⟨g, rfl⟩ := hI.at0 (by omega)
      have b0 := off2_bd hc (j * 3)
      have b1 := off2_bd hc (j * 3 + 1)
      have b2 := off2_bd hc (j * 3 + 2)
      have i0 : j * 3 < F.length := by have := HFL.out; omega
      have i1 : j * 3 + 1 < F.length := by have := HFL.out; omega
      have i2 : j * 3 + 2 < F.length := by have := HFL.out; omega
      have HO0 := Lib.hid (off2_succ F (j * 3) i0)
      have HO1 := Lib.hid (off2_succ F (j * 3 + 1) i1)
      have HO2 := Lib.hid (off2_succ F (j * 3 + 2) i2)
      have HM0 := Lib.hid (M2_set k F (j * 3) i0)
      have HM1 := Lib.hid (M2_set k F (j * 3 + 1) i1)
      have HM2 := Lib.hid (M2_set k F (j * 3 + 2) i2)
      have l0 := len_le_cat F (j * 3) i0
      have l1 := len_le_cat F (j * 3 + 1) i1
      have l2 := len_le_cat F (j * 3 + 2) i2
      have E0 := Lib.hid ((M2_getD k F (j * 3) (j * 3) i0).trans (if_neg (Nat.lt_irrefl _)))
      have E1 := Lib.hid ((M2_getD k F (j * 3 + 1) (j * 3 + 1) i1).trans (if_neg (Nat.lt_irrefl _)))
      have E2 := Lib.hid ((M2_getD k F (j * 3 + 2) (j * 3 + 2) i2).trans (if_neg (Nat.lt_irrefl _)))
      obtain ⟨o0, ho0⟩ : ∃ o, off2 F (j * 3) = o := ⟨_, rfl⟩
      obtain ⟨o1, ho1⟩ : ∃ o, off2 F (j * 3 + 1) = o := ⟨_, rfl⟩
      obtain ⟨o2, ho2⟩ : ∃ o, off2 F (j * 3 + 2) = o := ⟨_, rfl⟩
      obtain ⟨x0, hx0⟩ : ∃ x, F.getD (j * 3) [] = x := ⟨_, rfl⟩
      obtain ⟨x1, hx1⟩ : ∃ x, F.getD (j * 3 + 1) [] = x := ⟨_, rfl⟩
      obtain ⟨x2, hx2⟩ : ∃ x, F.getD (j * 3 + 2) [] = x := ⟨_, rfl⟩
      rw [ho0] at b0 HO0 HM0 ⊢
      rw [ho1] at b1 HO0 HO1 HM1
      rw [ho2] at b2 HO1 HO2 HM2
      rw [hx0] at HO0 HM0 l0 E0
      rw [hx1] at HO1 HM1 l1 E1
      rw [hx2] at HO2 HM2 l2 E2
      obtain ⟨r0, T0, hc0, hr0, hS0, hf0⟩ := hI.focus (j := j * 3) (by omega)
      rw [E0.out] at hr0
      have HR0 := Lib.hid hr0
      have HF0 := Lib.hid hf0
      have W0 : IntKind.i64.wrap (k + (o0 : Int)) = k + o0 := IntWalk.i64_in _ (by omega)
      clear hI hr0 hf0 ho0 ho1 ho2 hx0 hx1 hx2 i0 i1 i2
      go_wp2_with fail
      refine (l_markO1 T0 _ x0 _ _ HR0.out (by omega) (by omega) (by omega)).mono ?_
      rintro e w2 ⟨rfl, h2, hC, hsz⟩
      have hI := HF0.out _ _ hC h2
      rw [HM0.out] at hI
      have HG1 := Lib.hid (HG.out.trans hC (fun _ h => h) hS0)
      obtain ⟨r1, T1, hc1, hr1, hS1, hf1⟩ := hI.focus (j := j * 3 + 1) (by omega)
      rw [E1.out] at hr1
      have HR1 := Lib.hid hr1
      have HF1 := Lib.hid hf1
      have e1 : k + (o0 : Int) + x0.length = k + (o1 : Int) := by have := HO0.out; omega
      rw [e1]
      clear h2 hC hsz hI hr1 hf1 hc0 HR0 HF0 hS0 HG e1
      go_wp2_with fail
      refine (l_markO1 T1 _ x1 _ _ HR1.out (by omega) (by omega) (by omega)).mono ?_
      rintro e w3 ⟨rfl, h2, hC, hsz⟩
      have hI := HF1.out _ _ hC h2
      rw [HM1.out] at hI
      have HG2 := Lib.hid (HG1.out.trans hC (fun _ h => h) hS1)
      obtain ⟨r2, T2, hc2, hr2, hS2, hf2⟩ := hI.focus (j := j * 3 + 2) (by omega)
      rw [E2.out] at hr2
      have HR2 := Lib.hid hr2
      have HF2 := Lib.hid hf2
      have e1 : k + (o1 : Int) + x1.length = k + (o2 : Int) := by have := HO1.out; omega
      rw [e1]
      clear h2 hC hsz hI hr2 hf2 hc1 HR1 HF1 hS1 HG1 e1
      go_wp2_with fail
      refine (l_markO1 T2 _ x2 _ _ HR2.out (by omega) (by omega) (by omega)).mono ?_
      rintro e w4 ⟨rfl, h2, hC, hsz⟩
      have hI := HF2.out _ _ hC h2
      rw [HM2.out] at hI
      have HG3 := Lib.hid (HG2.out.trans hC (fun _ h => h) hS2)
      have HI3 : Hid (OT w4 S (.slice (some ⟨g, 0, none⟩) n cap) n (M2 k F ((j + 1) * 3))) := by
        show OT _ _ _ _ _
        rw [show (j + 1) * 3 = j * 3 + 2 + 1 by omega]; exact hI
      have e1 : k + (o2 : Int) + x2.length = k + (off2 F ((j + 1) * 3) : Int) := by
        rw [show (j + 1) * 3 = j * 3 + 2 + 1 by omega]
        have := HO2.out; omega
      rw [e1]
      have b3 := off2_bd hc ((j + 1) * 3)
      obtain ⟨o3, ho3⟩ : ∃ o, off2 F ((j + 1) * 3) = o := ⟨_, rfl⟩
      have HO3 := Lib.hid ho3
      rw [ho3] at b3 ⊢
      clear ho3 h2 hC hsz hI e1 hc2 HR2 HF2 hS2 HG2
      go_wp2_with fail
      go_roundw
      case rel => exact ⟨j + 1, by omega, by go_num, by rw [HO3.out], HI3.out, HG3.out⟩
      case measure => (simp [intOf]; try omega)
    · obtain rfl : j = n := by omega
      have HI : Hid (OT wr S (.slice ao j cap) j (M2 k F F.length)) := by
        show OT _ _ _ _ _
        rw [HFL.out]; exact hI
      have e1 : off2 F (j * 3) = (cat F).length := by rw [← HFL.out]; exact off2_all F
      rw [e1]
      clear hI e1
      go_wp2_with fail
      go_ret
      exact ⟨rfl, HI.out, HG.out⟩
--== laws.heldCriticalPairS
set_option maxHeartbeats 3000000 in
theorem l_heldCriticalPairS (v : Value) (n : Nat) (F : List (List Int)) (k : Int) (w : World) (hv : RT w v n (M2 k F F.length)) (hk0 : 0 ≤ k) (hk1 : k ≤ 100000000000) (hc : (cat F).length ≤ 1000000000) :
    Calls Try.prog 64 #[v, .int .i64 k] w fun e w' => e = .returned (.int .i64 (k + (cat F).length)) ∧ w = w' := by
  obtain ⟨ao, cap, rfl, hcap, hcap2⟩ := hv.form
  have hFl : F.length = n * 3 := by obtain ⟨_, _, _, _, _, h0, _⟩ := hv; rw [M2_length] at h0; exact h0
  have HFL := Lib.hid hFl
  have HV := Lib.hid hv
  clear hv hFl
  go_enter Try.func64, Try.ntmps64
  go_wp2_with fail
  go_loop [1, 5] (fun u i => ∃ j : Nat, j ≤ n ∧ i = .int .i64 j ∧ u = .int .i64 (k + off2 F (j * 3))) (fun _ i => n - (intOf i).toNat)
  case atStart => exact ⟨0, Nat.zero_le _, rfl, by simp [off2, cat]⟩
  case round =>
    obtain ⟨j, hj, rfl, rfl⟩ := hrel
    by_cases hlt : j < n
    · obtain ⟨b, off, rfl, hat⟩ := HV.out.at hlt
      obtain ⟨r0, hc0, hr0⟩ := hat 0 (by omega)
      obtain ⟨r1, hc1, hr1⟩ := hat 1 (by omega)
      obtain ⟨r2, hc2, hr2⟩ := hat 2 (by omega)
      rw [Nat.add_zero] at hc0 hr0
      have b0 := off2_bd hc (j * 3)
      have b1 := off2_bd hc (j * 3 + 1)
      have b2 := off2_bd hc (j * 3 + 2)
      have i0 : j * 3 < F.length := by have := HFL.out; omega
      have i1 : j * 3 + 1 < F.length := by have := HFL.out; omega
      have i2 : j * 3 + 2 < F.length := by have := HFL.out; omega
      have HO0 := Lib.hid (off2_succ F (j * 3) i0)
      have HO1 := Lib.hid (off2_succ F (j * 3 + 1) i1)
      have HO2 := Lib.hid (off2_succ F (j * 3 + 2) i2)
      have l0 := len_le_cat F (j * 3) i0
      have l1 := len_le_cat F (j * 3 + 1) i1
      have l2 := len_le_cat F (j * 3 + 2) i2
      rw [M2_getD _ _ _ _ i0, if_pos i0] at hr0
      rw [M2_getD _ _ _ _ i1, if_pos i1] at hr1
      rw [M2_getD _ _ _ _ i2, if_pos i2] at hr2
      obtain ⟨o0, ho0⟩ : ∃ o, off2 F (j * 3) = o := ⟨_, rfl⟩
      obtain ⟨o1, ho1⟩ : ∃ o, off2 F (j * 3 + 1) = o := ⟨_, rfl⟩
      obtain ⟨o2, ho2⟩ : ∃ o, off2 F (j * 3 + 2) = o := ⟨_, rfl⟩
      obtain ⟨x0, hx0⟩ : ∃ x, F.getD (j * 3) [] = x := ⟨_, rfl⟩
      obtain ⟨x1, hx1⟩ : ∃ x, F.getD (j * 3 + 1) [] = x := ⟨_, rfl⟩
      obtain ⟨x2, hx2⟩ : ∃ x, F.getD (j * 3 + 2) [] = x := ⟨_, rfl⟩
      rw [ho0] at b0 HO0 hr0 ⊢
      rw [ho1] at b1 HO0 HO1 hr1
      rw [ho2] at b2 HO1 HO2 hr2
      rw [hx0] at HO0 l0 hr0
      rw [hx1] at HO1 l1 hr1
      rw [hx2] at HO2 l2 hr2
      have HR0 := Lib.hid hr0
      have HR1 := Lib.hid hr1
      have HR2 := Lib.hid hr2
      have e1 : k + (o0 : Int) + x0.length = k + (o1 : Int) := by have := HO0.out; omega
      have E1 := Lib.hid e1
      have e2 : k + (o1 : Int) + x1.length = k + (o2 : Int) := by have := HO1.out; omega
      have E2 := Lib.hid e2
      have e3 : k + (o2 : Int) + x2.length = k + (off2 F ((j + 1) * 3) : Int) := by
        rw [show (j + 1) * 3 = j * 3 + 2 + 1 by omega]
        have := HO2.out; omega
      have E3 := Lib.hid e3
      clear hat hr0 hr1 hr2 ho0 ho1 ho2 hx0 hx1 hx2 i0 i1 i2 e1 e2 e3
      go_wp2_with fail
      refine (l_heldInt64S _ x0.length _ _ HR0.out (by omega) (by omega) (by omega)).mono ?_
      rintro e w2 ⟨rfl, rfl⟩
      rw [E1.out]
      go_wp2_with fail
      refine (l_heldInt64S _ x1.length _ _ HR1.out (by omega) (by omega) (by omega)).mono ?_
      rintro e w2 ⟨rfl, rfl⟩
      rw [E2.out]
      go_wp2_with fail
      refine (l_heldInt64S _ x2.length _ _ HR2.out (by omega) (by omega) (by omega)).mono ?_
      rintro e w2 ⟨rfl, rfl⟩
      rw [E3.out]
      have b3 := off2_bd hc ((j + 1) * 3)
      obtain ⟨o3, ho3⟩ : ∃ o, off2 F ((j + 1) * 3) = o := ⟨_, rfl⟩
      have HO3 := Lib.hid ho3
      rw [ho3] at b3 ⊢
      clear ho3
      go_wp2_with fail
      go_round
      case rel => exact ⟨j + 1, by omega, by go_num, by rw [HO3.out]⟩
      case measure => (simp [intOf]; try omega)
    · obtain rfl : j = n := by omega
      have e1 : off2 F (j * 3) = (cat F).length := by rw [← HFL.out]; exact off2_all F
      rw [e1]
      clear e1
      go_wp2_with fail
      go_ret
      exact ⟨rfl, rfl⟩
--== end
end Go.Proofs.Ythnpndheaailjaa
