/-
  Critical pairs: a word of equal letters, one pair of the reference.
-/
import Derived.Test.YthnpndheaailjaaCrc
namespace Go.Proofs.Ythnpndheaailjaa
set_option linter.unusedVariables false
set_option linter.unusedSimpArgs false
set_option maxRecDepth 100000
open Go.RowKit

--== impl.criticalPairs$2
theorem i_cpLetters (x : Int) (m : Nat) (w : World) (hm : m ≤ 1000) : Calls Try.prog 162 #[.int .i64 x, .int .i64 m] w (RetInts w (List.replicate m x)) := by
  have G0 := Lib.hid (below_alloc w (Obj.cells #[.int .i64 x] 2))
  go_enter Try.func162, Try.ntmps162
  go_wp2_with fail
  refine (f_Repeat _ [x] m _ (Rd.lit1 w x) (by simp) (by omega)).mono ?_
  rintro e w5 ⟨u5, rfl, hI, hB⟩
  rw [rep_single] at hI
  have HI := Lib.hid (hI.mono G0.out.size)
  have HB := Lib.hid (below_size G0.out hB)
  clear hI hB
  go_wp2_with fail
  go_ret
  exact ⟨_, rfl, HI.out, HB.out⟩
--== spec.l09Same
set_option maxHeartbeats 2000000 in
theorem s_l09Same (x : Int) (m : Nat) (w : World) (hm : m ≤ 1000) : Calls Try.prog 159 #[.int .i64 x, .int .i64 m] w (RetInts w (List.replicate m x)) := by
  obtain ⟨i0, hi, hz0, hz1, hz2⟩ := info_parts Try.info2
  go_enter Try.func159, Try.ntmps159
  go_wp2_with fail
  go_loopw [5, 6] (fun u t wr => ∃ k : Nat, k ≤ m ∧ t = .int .i64 k ∧ Ints wr w.heap.size u (List.replicate k x) ∧ Below w.heap.size w wr) (fun _ t _ => m - (intOf t).toNat)
  case atStart => exact ⟨0, Nat.zero_le _, rfl, Ints.empty w, below_alloc _ _⟩
  case round =>
    obtain ⟨k, hk, rfl, hI, hB⟩ := hrel
    have hS := hB.size
    by_cases hlt : k < m
    · have HS : Hid (List.replicate (k + 1) x = List.replicate k x ++ [x]) := List.replicate_succ'
      have hll : (List.replicate k x).length ≤ 1000000000 := by simp; omega
      generalize List.replicate k x = R at *
      go_wp2_with (at_builtin; refine wp_app1 _ rfl _ _ rfl w.heap.size i0 Try.underlying22 hi hz0 hz1 hz2 _ _ rfl hI x rfl hll (by omega) ?_)
      intro v' w2 hI1 hG hB1
      go_wp2
      go_roundw
      case rel => exact ⟨k + 1, by omega, by go_num, by rw [HS.out]; exact hI1, hB.trans hB1⟩
      case measure => simp [intOf]; omega
    · obtain rfl : k = m := by omega
      go_wp2
      go_ret
      exact ⟨_, rfl, hI, hB⟩
--== spec.l09Pair
section
variable {w w' : World} {b : Nat} {v1 v2 v3 : Value}
/-- the result's box: three cells of a pair -/
def Bq (w : World) (b : Nat) (v1 v2 v3 : Value) : Prop := w.heap[b]? = some (.cells #[v1, v2, v3] 127 (0, 0))
theorem Bq.lt (h : Bq w b v1 v2 v3) : b < w.heap.size := (Array.getElem?_eq_some_iff.1 h).1
theorem Bq.c0 (h : Bq w b v1 v2 v3) : w.cell? ⟨b, 0, none⟩ = some v1 := by unfold Bq at h; simp [World.cell?, h]
theorem Bq.c1 (h : Bq w b v1 v2 v3) : w.cell? ⟨b, 1, none⟩ = some v2 := by unfold Bq at h; simp [World.cell?, h]
theorem Bq.c2 (h : Bq w b v1 v2 v3) : w.cell? ⟨b, 2, none⟩ = some v3 := by unfold Bq at h; simp [World.cell?, h]
theorem Bq.fr (h : Bq w b v1 v2 v3) (o : Nat) : w.frozen? ⟨b, o, none⟩ = false := by unfold Bq at h; simp [World.frozen?, h]
theorem Bq.below {B : Nat} (h : Bq w b v1 v2 v3) (hb : Below B w w') (hB : b < B) : Bq w' b v1 v2 v3 := (hb.block b hB).trans h
theorem Bq.new (w : World) (v1 v2 v3 : Value) : Bq (w.alloc (.cells #[v1, v2, v3] 127)) w.heap.size v1 v2 v3 := heap_alloc_new w _
theorem Bq.set0 (h : Bq w b v1 v2 v3) (y : Value) : Bq (w.setCell ⟨b, 0, none⟩ y) b y v2 v3 := by
  have := heap_setCell_same w b 0 _ _ y h
  unfold Bq
  rw [this]; simp
theorem Bq.set1 (h : Bq w b v1 v2 v3) (y : Value) : Bq (w.setCell ⟨b, 1, none⟩ y) b v1 y v3 := by
  have := heap_setCell_same w b 1 _ _ y h
  unfold Bq
  rw [this]; simp
theorem Bq.set2 (h : Bq w b v1 v2 v3) (y : Value) : Bq (w.setCell ⟨b, 2, none⟩ y) b v1 v2 y := by
  have := heap_setCell_same w b 2 _ _ y h
  unfold Bq
  rw [this]; simp
end
theorem pair_out {w wb w3 w4 : World} {u3 u4 a n1 n2 n3 : Value} {l r : List Int} (hs : wb.heap.size = w.heap.size + 1 + 1) (GB : Below w.heap.size w wb) (hB3 : Below wb.heap.size wb w3) (h3 : Ints w3 wb.heap.size u3 l) (hB4 : Below w3.heap.size w3 w4) (h4 : Ints w4 w3.heap.size u4 r) (R : Bq wb (w.heap.size + 1) n1 n2 n3) :
    ∃ (x y : Value) (m : Nat), w.heap.size ≤ m ∧ m ≤ (((w4.setCell ⟨w.heap.size + 1, 0, none⟩ a).setCell ⟨w.heap.size + 1, 1, none⟩ u3).setCell ⟨w.heap.size + 1, 2, none⟩ u4).heap.size ∧
      O1 (((w4.setCell ⟨w.heap.size + 1, 0, none⟩ a).setCell ⟨w.heap.size + 1, 1, none⟩ u3).setCell ⟨w.heap.size + 1, 2, none⟩ u4) (win w.heap.size m) x l ∧
      O1 (((w4.setCell ⟨w.heap.size + 1, 0, none⟩ a).setCell ⟨w.heap.size + 1, 1, none⟩ u3).setCell ⟨w.heap.size + 1, 2, none⟩ u4) (win m (((w4.setCell ⟨w.heap.size + 1, 0, none⟩ a).setCell ⟨w.heap.size + 1, 1, none⟩ u3).setCell ⟨w.heap.size + 1, 2, none⟩ u4).heap.size) y r ∧
      Below w.heap.size w (((w4.setCell ⟨w.heap.size + 1, 0, none⟩ a).setCell ⟨w.heap.size + 1, 1, none⟩ u3).setCell ⟨w.heap.size + 1, 2, none⟩ u4) ∧
      Bq (((w4.setCell ⟨w.heap.size + 1, 0, none⟩ a).setCell ⟨w.heap.size + 1, 1, none⟩ u3).setCell ⟨w.heap.size + 1, 2, none⟩ u4) (w.heap.size + 1) a x y := by
  have z3 := hB3.size
  have z4 := hB4.size
  have hB4' := below_size hB3 hB4
  refine ⟨u3, u4, w3.heap.size, by omega, by simp; omega, ?_, ?_, ?_, (((R.below hB4' R.lt).set0 _).set1 _).set2 _⟩
  · exact local_O1.mono (Local.sets local_O1 (Local.sets local_O1 (Local.sets local_O1 (local_O1.below h3.o1 hB4) (b := w.heap.size + 1) (fun h => by have := h.1; omega) 0 _) (b := w.heap.size + 1) (fun h => by have := h.1; omega) 1 _) (b := w.heap.size + 1) (fun h => by have := h.1; omega) 2 _) (fun k _ h => ⟨by have := h.1; omega, h.2⟩)
  · exact local_O1.mono (Local.sets local_O1 (Local.sets local_O1 (Local.sets local_O1 h4.o1 (b := w.heap.size + 1) (fun h => by have := h.1; omega) 0 _) (b := w.heap.size + 1) (fun h => by have := h.1; omega) 1 _) (b := w.heap.size + 1) (fun h => by have := h.1; omega) 2 _) (fun k _ h => ⟨h.1, by simp only [World.size_setCell]; exact h.2⟩)
  · exact ((((below_size GB hB4').setCell (p := ⟨w.heap.size + 1, 0, none⟩) (Nat.le_succ _) _).setCell (p := ⟨w.heap.size + 1, 1, none⟩) (Nat.le_succ _) _).setCell (p := ⟨w.heap.size + 1, 2, none⟩) (Nat.le_succ _) _)
/-- what one pair of the reference returns -/
def RetPr (w : World) (p : Pres) (it : Itm) (vw : Value) (e : Ending) (w' : World) : Prop :=
  ∃ (u3 u4 : Value) (m : Nat), e = .returned (.agg #[vw, u3, u4]) ∧ w.heap.size ≤ m ∧ m ≤ w'.heap.size ∧ O1 w' (win w.heap.size m) u3 (stepL p it.1 0) ∧ O1 w' (win m w'.heap.size) u4 (stepL p it.1 it.2) ∧ Below w.heap.size w w'
set_option maxHeartbeats 600000 in
theorem s_l09Pair {p : Pres} (hV : ValidP p) (it : Itm) (hg : CG p it) (v1 v2 v3 vw : Value) (w : World) (hp : RdP w v1 v2 v3 p) (hx : Rd w vw it.1) :
    Calls Try.prog 158 #[.agg #[v1, v2, v3], vw, .int .i64 it.2] w (RetPr w p it vw) := by
  have HP := Lib.hid hp
  obtain ⟨p1, q1, rfl, _, _⟩ := hp.1.form
  obtain ⟨p2, q2, rfl, _, _⟩ := hp.2.1.form
  obtain ⟨p3, q3, rfl, _, _⟩ := hp.2.2.form
  obtain ⟨ax, cx, rfl, _, _⟩ := hx.form
  have HX := Lib.hid hx
  have HG := Lib.hid hg
  have sz1 : (w.alloc (Obj.cells #[Value.slice p1 p.orders.length q1, Value.slice p2 p.powers.length q2, Value.slice p3 p.conj.length q3] 32)).heap.size = w.heap.size + 1 := by simp
  obtain ⟨wb, hwb⟩ : ∃ wb, wb = (w.alloc (Obj.cells #[Value.slice p1 p.orders.length q1, Value.slice p2 p.powers.length q2, Value.slice p3 p.conj.length q3] 32)).alloc (Obj.cells #[Value.slice none 0 0, Value.slice none 0 0, Value.slice none 0 0] 127) := ⟨_, rfl⟩
  have hs2 : wb.heap.size = w.heap.size + 1 + 1 := by rw [hwb]; simp
  have HS2 := Lib.hid hs2
  have GB : Hid (Below w.heap.size w wb) := by
    show Below _ _ _
    rw [hwb]; exact (below_alloc w _).alloc (by simp) _
  have XB : Hid (Bx wb w.heap.size (Value.slice p1 p.orders.length q1) (Value.slice p2 p.powers.length q2) (Value.slice p3 p.conj.length q3)) := by
    show Bx _ _ _ _ _
    rw [hwb]; exact (Bx.new w _ _ _).old _
  have RB : Hid (Bq wb (w.heap.size + 1) (.slice none 0 0) (.slice none 0 0) (.slice none 0 0)) := by
    show Bq _ _ _ _ _
    rw [hwb, ← sz1]; exact Bq.new _ _ _ _
  have HWB := Lib.hid hwb
  have S0 : Hid (∀ wx, Below wb.heap.size wb wx → Calls Try.prog 165 #[.agg #[Value.slice p1 p.orders.length q1, Value.slice p2 p.powers.length q2, Value.slice p3 p.conj.length q3], .slice ax it.1.length cx, .int .i64 0] wx (RetInts wx (stepL p it.1 0))) := fun wx hb =>
    s_l09Step _ _ _ _ p it.1 0 wx hV (HP.out.below (below_size GB.out hb)) (HX.out.below (below_size GB.out hb)) HG.out.lt0 HG.out.pos HG.out.r0 (by have := HG.out.len; omega)
  have S1 : Hid (∀ wx, Below wb.heap.size wb wx → Calls Try.prog 165 #[.agg #[Value.slice p1 p.orders.length q1, Value.slice p2 p.powers.length q2, Value.slice p3 p.conj.length q3], .slice ax it.1.length cx, .int .i64 it.2] wx (RetInts wx (stepL p it.1 it.2))) := fun wx hb =>
    s_l09Step _ _ _ _ p it.1 it.2 wx hV (HP.out.below (below_size GB.out hb)) (HX.out.below (below_size GB.out hb)) HG.out.at' HG.out.pos HG.out.rt (by have := HG.out.len; omega)
  have c0 := XB.out.c0
  have c1 := XB.out.c1
  have c2 := XB.out.c2
  have l0 := XB.out.lt
  clear hp hx hg hwb hs2 sz1
  go_enter Try.func158, Try.ntmps158
  go_upto_region 1 with (fail)
  rw [← HWB.out]
  go_cut [] (fun wx => ∃ (u3 u4 : Value) (m : Nat), w.heap.size ≤ m ∧ m ≤ wx.heap.size ∧ O1 wx (win w.heap.size m) u3 (stepL p it.1 0) ∧ O1 wx (win m wx.heap.size) u4 (stepL p it.1 it.2) ∧ Below w.heap.size w wx ∧ Bq wx (w.heap.size + 1) (.slice ax it.1.length cx) u3 u4)
  case first =>
    go_region_law (first
      | (go_simp; go_at_call 165; (with_reducible refine (S0.out _ (Below.refl _ _).drew).mono ?_); rintro e w3 ⟨u3, rfl, hI3, hB3⟩; have hB3' : Below wb.heap.size wb w3 := below_size (Below.refl _ _).drew hB3; have hI3' : Ints w3 wb.heap.size u3 (stepL p it.1 0) := hI3; obtain ⟨a3, z3, rfl, _, _⟩ := hI3.form; have m0 := below_cells hB3' _ _ c0; have m1 := below_cells hB3' _ _ c1; have m2 := below_cells hB3' _ _ c2)
      | (go_simp; go_at_call 165; (with_reducible refine (S1.out _ hB3').mono ?_); rintro e w4 ⟨u4, rfl, hI4, hB4⟩; obtain ⟨a4, z4, rfl, _, _⟩ := hI4.form; have hB4' := below_size hB3' hB4; have R4 := RB.out.below hB4' RB.out.lt; have q0 := R4.c0; have q1 := R4.c1; have q2 := R4.c2; have f0 := R4.fr 0; have f1 := R4.fr 1; have f2 := R4.fr 2))
    all_goals (go_wp2_with fail; go_meet; exact pair_out HS2.out GB.out hB3' hI3' hB4 hI4 RB.out)
  case rest =>
    obtain ⟨u3, u4, m, h1, h2, h3, h4, h5, h6⟩ := hcut
    have p0 := h6.c0
    have p1 := h6.c1
    have p2 := h6.c2
    have HH := Lib.hid (And.intro h1 (And.intro h2 (And.intro h3 (And.intro h4 h5))))
    obtain ⟨a3, z3, rfl, _, _⟩ := h3.rd.form
    obtain ⟨a4, z4, rfl, _, _⟩ := h4.rd.form
    clear h1 h2 h3 h4 h5 h6
    go_wp2_with fail
    refine bodyPost_ret (v := .agg #[.slice ax it.1.length cx, .slice a3 (stepL p it.1 0).length z3, .slice a4 (stepL p it.1 it.2).length z4]) (by simp [results, Try.results158, go_sem, p0, p1, p2]) rfl ⟨_, _, m, rfl, HH.out.1, HH.out.2.1, HH.out.2.2.1, HH.out.2.2.2.1, HH.out.2.2.2.2⟩
--== end
end Go.Proofs.Ythnpndheaailjaa
