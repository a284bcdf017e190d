/-
  'append(v, make([]int64, k)...)' on a row that the call owns; vectors with zeros ahead and behind.
  The direct product: the program's side.
  Small functions of the draws, by shapes alone: powers of a residue, digits, rows of a product.
  Products and commutators of words.
  slices.Repeat, powers of words.
  PresentationRelators.
  The reference's direct product of presentations of which the shapes alone are known.
  AbelianPresentation.
  The prime factors of a small number.
-/
import Derived.Test.YtiikoappknejgaaZd
import Derived.Lib.AppendZerosOnto
import Derived.Deep.RegionLaw
import Derived.Deep.RegionHeld3
import Derived.Deep.DeepCutAuto
import Derived.Deep.DrawnRows
import Derived.IntWalk
import Derived.Test.YtiikoappknejgaaZa
import Derived.Shelf.Bits.Mul64
import Derived.Laws.IdiomCopy
import Derived.Test.YtiikoappknejgaaZc
namespace Go.Proofs.Ytiikoappknejgaa
set_option linter.unusedVariables false
set_option linter.unusedSimpArgs false
set_option maxRecDepth 100000
open Go.RowKit

--== zeros
theorem zeroRow (k : Nat) : (List.replicate k (0 : Int)).map (Value.int .i64) = List.replicate k (.int .i64 0) := by simp
theorem Ints.grownZ (w : World) (xs ys : List Int) (m cap : Nat) (h1 : xs.length + ys.length ≤ cap) (hc : cap ≤ maxLen) (hm : m = cap - (xs.length + ys.length)) :
    Ints (w.drew.alloc (.cells ((xs.map (Value.int .i64)).toArray ++ (ys.map (Value.int .i64)).toArray ++ Builtin.zeroCells (Value.int .i64 0).cells m) 2)) w.heap.size (.slice (some ⟨w.heap.size, 0, none⟩) (xs.length + ys.length) cap) (xs ++ ys) := by
  refine ⟨by simp, .inr ⟨w.heap.size, cap, _, by simp, Nat.le_refl _, heap_alloc_new w.drew _, by simpa using h1, hc, ?_, ?_⟩⟩
  · simp only [Array.size_append, List.size_toArray, size_zeroCells, List.length_map, show (Value.int .i64 0).cells.size = 1 from rfl]; omega
  · rw [List.map_append, Array.toList_append, Array.toList_append, List.length_append, Nat.mul_one]
    rw [List.take_left' (by simp)]
theorem run_appZ (w : World) (ty : TypeId) (B : Nat) (v : Value) (xs : List Int) (hown : Ints w B v xs) (k : Nat) (hn : xs.length ≤ 1000000) (hk : k ≤ 1000000) (hB : B ≤ w.heap.size) :
    ∃ v' w', (Builtin.append_ #[24, 3] ty #[v, .int .i64 (k : Int)]).run Try.prog w = .ok v' w' ∧ Ints w' B v' (xs ++ List.replicate k 0) ∧ Below B w w' := by
  obtain ⟨i0, hi, hz0, hz1, hz2⟩ := info_parts Try.info2
  have hw : IntKind.i64.wrap (k : Int) = k := by rw [IntKind.wrap_i64]; omega
  have hneg : ¬ ((k : Int) < 0) := by omega
  have h48i : ¬ (281474976710656 < (k : Int) * 8) := by omega
  by_cases h0 : k = 0
  · subst h0
    have hw0 : IntKind.i64.wrap 0 = 0 := by decide
    refine ⟨v, w, ?_, by simpa using hown, Below.refl _ _⟩
    rcases hown.2 with ⟨rfl, _⟩ | ⟨g, cap, cur, rfl, _, _, hnc, _⟩
    · simp [Builtin.append_, run_underlying Try.underlying24, run_underlying Try.underlying3, sizeOf, typeInfo, hi, hz1, hz2, asInt, asIntOf, hw0]
    · simp [Builtin.append_, run_underlying Try.underlying24, run_underlying Try.underlying3, sizeOf, typeInfo, hi, hz1, hz2, asInt, asIntOf, hw0, hnc, storeCells]
  rcases hown.2 with ⟨rfl, hx0⟩ | ⟨g, cap, cur, rfl, hb, hg, hnc, hcm, hcs, htake⟩
  · have hx : xs = [] := List.eq_nil_of_length_eq_zero hx0
    subst hx
    have hr := Lib.run_append_nil_zeros (P := Try.prog) w 24 3 ty 2 i0 (.int .i64 0) .i64 .i64 Try.underlying24 Try.underlying3 hi hz0 k (by omega) (by omega) (by omega) (by rw [hz2]; omega)
    have hge := grownCap_ge w k 0 2
    have hcm : grownCap w k 0 2 ≤ maxLen := grownCap_le_maxLen w k 0 2 (by unfold maxLen; omega)
    refine ⟨_, _, hr, ?_, ⟨rfl, rfl, rfl, by simp, fun j hj => Below.heap_alloc w.drew _ j (Nat.lt_of_lt_of_le hj hB)⟩⟩
    refine Ints.mono ?_ hB
    refine ⟨by simp, .inr ⟨w.heap.size, _, _, by simp, Nat.le_refl _, heap_alloc_new w.drew _, by simpa using hge, hcm, ?_, ?_⟩⟩
    · simp only [Array.size_append, size_zeroCells, show (Value.int .i64 0).cells.size = 1 from rfl]; omega
    · rw [Array.toList_append, zeroInts]
      simp
  · have hxl : xs.length = (xs.map (Value.int .i64)).length := by simp
    by_cases hroom : xs.length + k ≤ cap
    · have hcs' : cur.size = cap := by simpa using hcs
      have hst := run_storeCells_at Try.prog g xs.length 2 (List.replicate k (Value.int .i64 0)) 0 cur w hg (by simp; omega) (fun u hu => by rw [List.eq_of_mem_replicate hu]; rfl)
      simp only [Nat.add_zero] at hst
      have hzc : (Builtin.zeroCells (Value.int .i64 0).cells k).toList = List.replicate k (Value.int .i64 0) := by rw [zeroInts, zeroRow]
      have hks : ¬ (k * i0.size = 0) := by rw [hz1]; omega
      refine ⟨.slice (some ⟨g, 0, none⟩) (xs.length + k) cap, w.setRow g (cur.toList.take xs.length ++ List.replicate k (Value.int .i64 0) ++ cur.toList.drop (xs.length + k)).toArray, ?_, ?_, ?_⟩
      · simp [Builtin.append_, run_underlying Try.underlying24, run_underlying Try.underlying3, sizeOf, typeInfo, zeroValue, hi, hz0, hz1, hz2, asInt, asIntOf, hw, hneg, h48i, hroom, hks, h0, Addr.add_lit, hzc, hst]
      · have hl : (xs ++ List.replicate k (0 : Int)).length = xs.length + k := by simp
        have ht : cur.toList.take xs.length = xs.map (Value.int .i64) := by simpa using htake
        unfold Ints
        rw [hl, ht, List.map_append, zeroRow]
        refine ⟨by simp, .inr ⟨g, cap, _, rfl, hb, setRow_heap w g cur _ 2 _ hg, hroom, hcm, ?_, ?_⟩⟩
        · simp only [List.size_toArray, List.length_append, List.length_map, List.length_replicate, List.length_drop, Array.length_toList]
          omega
        · rw [Nat.mul_one, List.take_left' (by simp)]
      · exact ⟨rfl, rfl, rfl, by simp, fun j hj => setRow_other w g j _ (by omega)⟩
    · have holds : ∀ j u, (xs.map (Value.int .i64))[j]? = some u → w.drew.cell? ((⟨g, 0, none⟩ : Addr).add j) = some u := by
        have := World.ownsRow.cells (g := g) hown rfl
        simpa using this
      have hf := run_firstCells_some (P := Try.prog) w.drew i0.size xs.length ⟨g, 0, none⟩ xs.length cap (xs.map (Value.int .i64)) (by rw [hz1]; simp) holds
      have hns := nextslicecap_le (need := xs.length + k) (old := cap) (by omega)
      have hr := Lib.run_append_grow_zeros (P := Try.prog) w 24 3 ty 2 i0 (.int .i64 0) .i64 .i64 Try.underlying24 Try.underlying3 hi hz0 (some ⟨g, 0, none⟩) xs.length cap (xs.map (Value.int .i64)) hf k (by omega) (by rw [hz1]; omega) (by omega) (by omega) (by rw [hz2]; omega) (by rw [hz2]; omega)
      have hge := grownCap_ge w (xs.length + k) cap 2
      have hcm2 : grownCap w (xs.length + k) cap 2 ≤ maxLen := grownCap_le_maxLen w (xs.length + k) cap 2 (by unfold maxLen; omega)
      have hzc : Builtin.zeroCells (Value.int .i64 0).cells k = ((List.replicate k (0 : Int)).map (Value.int .i64)).toArray := by
        rw [← zeroInts]
      rw [hzc] at hr
      have hG := Ints.grownZ w xs (List.replicate k 0) _ (grownCap w (xs.length + k) cap 2) (by simpa using hge) hcm2 rfl
      simp only [List.length_replicate] at hG
      exact ⟨_, _, hr, hG.mono hB, ⟨rfl, rfl, rfl, by simp, fun j hj => Below.heap_alloc w.drew _ j (Nat.lt_of_lt_of_le hj hB)⟩⟩
theorem two_made (w : World) (n m : Nat) (hn : n ≤ 1000) (hm : m ≤ 1000) :
    Rd ((w.alloc (.cells (madeCells #[.int .i64 0] n) 2)).alloc (.cells (madeCells #[.int .i64 0] m) 2)) (.slice (some ⟨w.heap.size, 0, none⟩) n n) (List.replicate n 0) ∧
    Rd ((w.alloc (.cells (madeCells #[.int .i64 0] n) 2)).alloc (.cells (madeCells #[.int .i64 0] m) 2)) (.slice (some ⟨w.heap.size + 1, 0, none⟩) m m) (List.replicate m 0) := by
  have h1 := (made_own w n (by omega)).rd.below (below_alloc _ (.cells (madeCells #[.int .i64 0] m) 2))
  have h2 := (made_own (w.alloc (.cells (madeCells #[.int .i64 0] n) 2)) m (by omega)).rd
  rw [show (w.alloc (.cells (madeCells #[.int .i64 0] n) 2)).heap.size = w.heap.size + 1 by simp] at h2
  exact ⟨h1, h2⟩
/-- the argument of Concat, the row ahead made first -/
theorem pad_lit (w : World) (x y : Nat) {ao : Option Addr} {cap : Nat} (xs : List Int) (hv : Rd w (.slice ao xs.length cap) xs) (hx : x ≤ 1000) (hy : y ≤ 1000) :
    Rd2 ((((w.alloc (.cells (madeCells #[.int .i64 0] x) 2)).alloc (.cells (madeCells #[.int .i64 0] y) 2)).alloc (.cells #[.slice (some ⟨w.heap.size, 0, none⟩) x x, .slice ao xs.length cap, .slice (some ⟨w.heap.size + 1, 0, none⟩) y y] 24)).drew) (.slice (some ⟨w.heap.size + 1 + 1, 0, none⟩) 3 3) [List.replicate x 0, xs, List.replicate y 0] ∧
    Below w.heap.size w ((((w.alloc (.cells (madeCells #[.int .i64 0] x) 2)).alloc (.cells (madeCells #[.int .i64 0] y) 2)).alloc (.cells #[.slice (some ⟨w.heap.size, 0, none⟩) x x, .slice ao xs.length cap, .slice (some ⟨w.heap.size + 1, 0, none⟩) y y] 24)).drew) := by
  obtain ⟨h1, h2⟩ := two_made w x y hx hy
  have h3 := hv.below (below_allocs2 w (.cells (madeCells #[.int .i64 0] x) 2) (.cells (madeCells #[.int .i64 0] y) 2))
  have hl := Rd2.lit3 24 _ _ _ _ _ _ h1 h3 h2
  rw [show ((w.alloc (.cells (madeCells #[.int .i64 0] x) 2)).alloc (.cells (madeCells #[.int .i64 0] y) 2)).heap.size = w.heap.size + 1 + 1 by simp] at hl
  exact ⟨hl, (below_allocs3 w _ _ _).drew⟩
/-- the row behind made first -/
theorem pad_lit' (w : World) (x y : Nat) {ao : Option Addr} {cap : Nat} (xs : List Int) (hv : Rd w (.slice ao xs.length cap) xs) (hx : x ≤ 1000) (hy : y ≤ 1000) :
    Rd2 ((((w.alloc (.cells (madeCells #[.int .i64 0] y) 2)).alloc (.cells (madeCells #[.int .i64 0] x) 2)).alloc (.cells #[.slice (some ⟨w.heap.size + 1, 0, none⟩) x x, .slice ao xs.length cap, .slice (some ⟨w.heap.size, 0, none⟩) y y] 24)).drew) (.slice (some ⟨w.heap.size + 1 + 1, 0, none⟩) 3 3) [List.replicate x 0, xs, List.replicate y 0] ∧
    Below w.heap.size w ((((w.alloc (.cells (madeCells #[.int .i64 0] y) 2)).alloc (.cells (madeCells #[.int .i64 0] x) 2)).alloc (.cells #[.slice (some ⟨w.heap.size + 1, 0, none⟩) x x, .slice ao xs.length cap, .slice (some ⟨w.heap.size, 0, none⟩) y y] 24)).drew) := by
  obtain ⟨h1, h2⟩ := two_made w y x hy hx
  have h3 := hv.below (below_allocs2 w (.cells (madeCells #[.int .i64 0] y) 2) (.cells (madeCells #[.int .i64 0] x) 2))
  have hl := Rd2.lit3 24 _ _ _ _ _ _ h2 h3 h1
  rw [show ((w.alloc (.cells (madeCells #[.int .i64 0] y) 2)).alloc (.cells (madeCells #[.int .i64 0] x) 2)).heap.size = w.heap.size + 1 + 1 by simp] at hl
  exact ⟨hl, (below_allocs3 w _ _ _).drew⟩
--== spec.l07Shift
set_option maxHeartbeats 2000000 in
theorem s_l07Shift (v : Value) (xs : List Int) (x y : Nat) (w : World) (hv : Rd w v xs) (hx : x ≤ 1000) (hy : y ≤ 1000) (hl : xs.length ≤ 1000) :
    Calls Try.prog 77 #[.int .i64 x, v, .int .i64 y] w (RetInts w (padL x xs y)) := by
  obtain ⟨i0, hi, hz0, hz1, hz2⟩ := info_parts Try.info2
  have HV := Lib.hid hv
  obtain ⟨ao, cap, rfl, _, _⟩ := hv.form
  clear hv
  go_enter Try.func77, Try.ntmps77
  go_wp2_with (at_make; refine wp_mkInts _ rfl _ _ rfl i0 Try.underlying24 hi hz0 hz1 hz2 _ _ _ _ x rfl rfl rfl rfl (by omega) ?_)
  intro w1 hI hB hlt
  go_wp2_with (at_builtin; refine wp_appN _ rfl _ _ rfl w.heap.size i0 Try.underlying24 hi hz0 hz1 hz2 _ (List.replicate x 0) rfl hI _ xs rfl (HV.out.below hB) (by simp; omega) (by omega) (by omega) ?_)
  intro v2 w2 hI2 hG2 hB2
  have hB02 := hB.trans hB2
  obtain ⟨v3, w3, hr, hI3, hB3⟩ := run_appZ w2 24 w.heap.size v2 _ hI2 y (by simp; omega) (by omega) hB02.size
  go_wp2_with (at_builtin; refine Lib.wpList_append_run _ rfl _ _ _ _ rfl _ _ rfl rfl _ _ hr ?_)
  go_ret
  exact ⟨_, rfl, hI3, hB02.trans hB3⟩
end Go.Proofs.Ytiikoappknejgaa
namespace Go.Proofs.Ytiikoappknejgaa
set_option linter.unusedVariables false
set_option linter.unusedSimpArgs false
set_option maxRecDepth 100000
open Go.RowKit
attribute [local go_sem ↓] Go.wp_at_zero Go.wp_at_succ

theorem ballocD {w0 w : World} (h : Below w0.heap.size w0 w) (o : Obj) : Below w0.heap.size w0 (w.alloc o) := h.alloc h.size o
theorem BInv.mk1 {w wx : World} {b2 b4 : Nat} {S : Nat → Prop} {v1 v2 v3 : Value} {P : Pres} (X2 : Bx wx b2 (.slice none 0 0) (.slice none 0 0) (.slice none 0 0)) {u1 u2 u3 : Value} (X4 : Bx wx b4 u1 u2 u3) (h : OP wx S v1 v2 v3 P)
    (hS : ∀ k, S k → w.heap.size ≤ k ∧ k ≠ b2 ∧ k ≠ b4) (be : Below w.heap.size w wx) (hb4 : w.heap.size ≤ b4) (hne : b2 ≠ b4) : BInv w b2 b4 P (((wx.setCell ⟨b4, 0, none⟩ v1).setCell ⟨b4, 1, none⟩ v2).setCell ⟨b4, 2, none⟩ v3) := by
  have n4 : ¬ S b4 := fun h => (hS _ h).2.2 rfl
  exact ⟨v1, v2, v3, ((X2.other hne 0 _).other hne 1 _).other hne 2 _, ((X4.set0 _).set1 _).set2 _, OP.sub (OP.sets (OP.sets (OP.sets h n4 0 _) n4 1 _) n4 2 _) fun k _ hk => hS k hk,
    ((be.setCell (p := ⟨b4, 0, none⟩) hb4 _).setCell (p := ⟨b4, 1, none⟩) hb4 _).setCell (p := ⟨b4, 2, none⟩) hb4 _⟩
theorem BInv.mk2 {w wx : World} {b2 : Nat} {S : Nat → Prop} {v1 v2 v3 : Value} {P : Pres} (X2 : Bx wx b2 (.slice none 0 0) (.slice none 0 0) (.slice none 0 0)) (h : OP wx S v1 v2 v3 P)
    (hS : ∀ k, S k → w.heap.size ≤ k ∧ k ≠ b2) (be : Below w.heap.size w wx) : BInv w b2 wx.heap.size P (wx.alloc (.cells #[v1, v2, v3] 28)) :=
  ⟨v1, v2, v3, X2.old _, Bx.new wx _ _ _, OP.sub (OP.below (OP.sub (S' := fun k => S k ∧ k < wx.heap.size) h fun k hk hs => ⟨hs, hk⟩) (below_alloc wx _)) fun k _ hk => ⟨(hS k hk.1).1, (hS k hk.1).2, by omega⟩, be.alloc be.size _⟩
/-- the argument of Concat, in a world where the new box comes late, ahead of it, or behind it -/
theorem cat_lit1 (w : World) (o : Obj) (va vb : Value) (xs ys : List Int) (h1 : Rd w va xs) (h2 : Rd w vb ys) :
    Rd2 ((w.alloc o).alloc (.cells #[va, vb] 24)).drew.drew (.slice (some ⟨w.heap.size + 1, 0, none⟩) 2 2) [xs, ys] ∧ Below w.heap.size w ((w.alloc o).alloc (.cells #[va, vb] 24)).drew.drew := by
  have hl := Rd2.lit2 (w := w.alloc o) 24 va vb xs ys (h1.below (below_alloc w o)) (h2.below (below_alloc w o))
  rw [show (w.alloc o).heap.size = w.heap.size + 1 by simp] at hl
  exact ⟨hl, (below_allocs2 w _ _).drew.drew⟩
theorem cat_lit2 (w : World) (o o' : Obj) (va vb : Value) (xs ys : List Int) (h1 : Rd w va xs) (h2 : Rd w vb ys) :
    Rd2 (((w.alloc o).alloc o').alloc (.cells #[va, vb] 24)).drew.drew (.slice (some ⟨w.heap.size + 1 + 1, 0, none⟩) 2 2) [xs, ys] ∧ Below w.heap.size w (((w.alloc o).alloc o').alloc (.cells #[va, vb] 24)).drew.drew := by
  have hl := Rd2.lit2 (w := (w.alloc o).alloc o') 24 va vb xs ys (h1.below (below_allocs2 w o o')) (h2.below (below_allocs2 w o o'))
  rw [show ((w.alloc o).alloc o').heap.size = w.heap.size + 1 + 1 by simp] at hl
  exact ⟨hl, (below_allocs3 w _ _ _).drew.drew⟩
theorem cat_lit3 (w : World) (o o' : Obj) (va vb : Value) (xs ys : List Int) (h1 : Rd w va xs) (h2 : Rd w vb ys) :
    Rd2 (((w.alloc o).alloc (.cells #[va, vb] 24)).alloc o').drew.drew (.slice (some ⟨w.heap.size + 1, 0, none⟩) 2 2) [xs, ys] ∧ Below w.heap.size w (((w.alloc o).alloc (.cells #[va, vb] 24)).alloc o').drew.drew := by
  have hl := (cat_lit1 w o va vb xs ys h1 h2).1
  have hb : Below ((w.alloc o).alloc (.cells #[va, vb] 24)).heap.size ((w.alloc o).alloc (.cells #[va, vb] 24)) (((w.alloc o).alloc (.cells #[va, vb] 24)).alloc o').drew.drew := (below_alloc _ o').drew.drew
  exact ⟨Rd2.below (w := ((w.alloc o).alloc (.cells #[va, vb] 24))) hl hb, (below_allocs3 w _ _ _).drew.drew⟩
theorem BInv.bel {w wx : World} {b2 b4 : Nat} {P : Pres} (h : BInv w b2 b4 P wx) : Below w.heap.size w wx := by
  obtain ⟨_, _, _, _, _, _, h⟩ := h; exact h
end Go.Proofs.Ytiikoappknejgaa
namespace Go.Proofs.Ytiikoappknejgaa
set_option linter.unusedVariables false
set_option linter.unusedSimpArgs false
set_option maxRecDepth 100000
open Go.RowKit
attribute [local go_sem ↓] Go.wp_at_zero Go.wp_at_succ

--== shapes
/-- a fresh row of integers of a length -/
def RetN (w : World) (L : Nat) (e : Ending) (w' : World) : Prop := ∃ v xs, e = .returned v ∧ xs.length = L ∧ Ints w' w.heap.size v xs ∧ Below w.heap.size w w'
/-- fresh rows of integers, each of a length -/
def RetNN (w : World) (m L : Nat) (e : Ending) (w' : World) : Prop := ∃ d : List (List Int), d.length = m ∧ (∀ i, i < m → (d.getD i []).length = L) ∧ RetL2 w d e w'
def RetIn (w : World) (e : Ending) (w' : World) : Prop := ∃ r : Int, e = .returned (.int .i64 r) ∧ w' = w
--== spec.l01Power
set_option maxHeartbeats 1000000 in
theorem s_l01Power (b e m : Int) (w : World) (h0 : 0 ≤ e) (h1 : e ≤ 1000) (hm : 2 ≤ m) (hm2 : m ≤ 1000) : Calls Try.prog 81 #[.int .i64 b, .int .i64 e, .int .i64 m] w (RetIn w) := by
  go_enter Try.func81, Try.ntmps81
  go_wp2_with fail
  go_loopw [0, 1, 7] (fun b1 e1 o1 wr => ∃ b e o : Int, b1 = .int .i64 b ∧ e1 = .int .i64 e ∧ o1 = .int .i64 o ∧ 0 ≤ e ∧ e ≤ 1000 ∧ wr = w) (fun _ i _ _ => (intOf i).toNat)
  case atStart => exact ⟨b, e, _, rfl, rfl, rfl, h0, h1, rfl⟩
  case round =>
    clear h0 h1
    obtain ⟨b, e, o, rfl, rfl, rfl, h0, h1, rfl⟩ := hrel
    by_cases hlt : 0 < e
    · by_cases hp : e % 2 = 1
      · go_wp2_with fail
        go_roundw
        case rel => exact ⟨_, _, _, rfl, rfl, rfl, by omega, by omega, by first | trivial | rfl⟩
        case measure => simp [intOf]; omega
      · go_wp2_with fail
        go_roundw
        case rel => exact ⟨_, _, _, rfl, rfl, rfl, by omega, by omega, by first | trivial | rfl⟩
        case measure => simp [intOf]; omega
    · go_wp2_with fail
      go_ret
      exact ⟨_, rfl, rfl⟩
--== spec.l07Digits
set_option maxHeartbeats 1000000 in
theorem s_l07Digits (v : Value) (os : List Int) (k : Nat) (x : Int) (w : World) (hv : Rd w v os) (hp : primesB os = true) (hn : os.length ≤ 1000) (hk : k ≤ os.length) : Calls Try.prog 80 #[v, .int .i64 k, .int .i64 x] w (RetN w os.length) := by
  obtain ⟨i0, hi, hz0, hz1, hz2⟩ := info_parts Try.info2
  have HV := Lib.hid hv
  obtain ⟨ao, cap, rfl, _, _⟩ := hv.form
  clear hv
  go_enter Try.func80, Try.ntmps80
  go_wp2_with (at_make; refine wp_mkInts _ rfl _ _ rfl i0 Try.underlying24 hi hz0 hz1 hz2 _ _ _ _ os.length rfl rfl rfl rfl (by omega) ?_)
  intro w1 hI hB hlt1
  go_wp2_with fail
  go_loopw [2, 8] (fun x1 i wr => ∃ (x : Int) (j : Nat) (xs : List Int), j ≤ os.length ∧ x1 = .int .i64 x ∧ i = .int .i64 j ∧ xs.length = os.length ∧ Ints wr w.heap.size (.slice (some ⟨w.heap.size, 0, none⟩) os.length os.length) xs ∧ Below w.heap.size w wr) (fun _ i _ => os.length - (intOf i).toNat)
  case atStart => exact ⟨x, k, _, hk, rfl, rfl, by simp, hI, hB⟩
  case round =>
    clear hI hB hlt1 hk
    obtain ⟨x, j, xs, hj, rfl, rfl, hl, hI, hB⟩ := hrel
    have hS := hB.size
    by_cases hlt : j < os.length
    · have HV5 := Lib.hid (HV.out.below hB)
      obtain ⟨b, off, rfl, hcell⟩ := HV5.out.at hlt
      obtain ⟨hcell2, hfz⟩ := hI.cell hl.symm j hlt
      have hop := primesB_at hp (getD_mem hlt)
      have HL2 := Lib.hid hl
      have hset : Hid (∀ y, Ints (wr.setCell ⟨w.heap.size, j, none⟩ (.int .i64 y)) w.heap.size (.slice (some ⟨w.heap.size, 0, none⟩) os.length os.length) (xs.set j y) ∧ Below w.heap.size w (wr.setCell ⟨w.heap.size, j, none⟩ (.int .i64 y))) := fun y => ⟨(hI.set hl.symm j y).1, hB.trans ((hI.set hl.symm j y).2.below (Nat.le_refl _) hS)⟩
      have hc3 : Hid (∀ y, (wr.setCell ⟨w.heap.size, j, none⟩ (.int .i64 y)).cell? ⟨b, off + j, none⟩ = some (.int .i64 (os.getD j 0))) := fun y => by
        have := (HV.out.below (hset.out y).2).at hlt
        obtain ⟨b', off', e, hc⟩ := this
        simp only [Option.some.injEq, Addr.mk.injEq, and_true] at e
        obtain ⟨rfl, rfl⟩ := e
        exact hc
      have hc4 := hc3.out
      generalize os.getD j 0 = o at *
      clear hI hB
      go_wp2_with fail
      go_roundw
      case rel =>
        refine ⟨_, j + 1, _, by omega, rfl, by go_num, ?_, (hset.out _).1, (hset.out _).2⟩
        rw [List.length_set]; exact HL2.out
      case measure => simp [intOf]; omega
    · go_wp2_with fail
      go_ret
      exact ⟨_, _, rfl, hl, hI, hB⟩
--== spec.l02Times
set_option maxHeartbeats 2000000 in
theorem s_l02Times (p : Int) (v vr : Value) (xs : List Int) (rows : List (List Int)) (c : Nat) (w : World) (hp1 : 2 ≤ p) (hp2 : p ≤ 100) (hv : Rd w v xs) (hr : Rd2 w vr rows) (hx : xs.length = c) (hl : rows.length = c)
    (hrow : ∀ i, i < c → (rows.getD i []).length = c) (hc : c ≤ 100) : Calls Try.prog 84 #[.int .i64 p, v, vr, .int .i64 c] w (RetN w c) := by
  obtain ⟨i0, hi, hz0, hz1, hz2⟩ := info_parts Try.info2
  have HV := Lib.hid hv
  have HR := Lib.hid hr
  obtain ⟨ao, cap, rfl, _, _⟩ := hv.formN hx
  obtain ⟨ro, rap, rfl, _, _⟩ := hr.formN hl
  have HX := Lib.hid hx
  have HL := Lib.hid hl
  have HW := Lib.hid hrow
  clear hv hr hx hl hrow
  go_enter Try.func84, Try.ntmps84
  go_wp2_with (at_make; refine wp_mkInts _ rfl _ _ rfl i0 Try.underlying24 hi hz0 hz1 hz2 _ _ _ _ c rfl rfl rfl rfl (by omega) ?_)
  intro w1 hI hB hlt1
  go_wp2_with fail
  go_loopw [10] (fun i wr => ∃ (j : Nat) (ys : List Int), j ≤ c ∧ i = .int .i64 j ∧ ys.length = c ∧ Ints wr w.heap.size (.slice (some ⟨w.heap.size, 0, none⟩) c c) ys ∧ Below w.heap.size w wr) (fun i _ => c - (intOf i).toNat)
  case atStart => exact ⟨0, _, Nat.zero_le _, rfl, by simp, hI, hB⟩
  case round =>
    clear hI hB hlt1
    obtain ⟨j, ys, hj, rfl, hy, hI, hB⟩ := hrel
    by_cases hlt : j < c
    · obtain ⟨b, off, rfl, hcell⟩ := HV.out.at (by rw [HX.out]; exact hlt)
      obtain ⟨b2, off2, r, rfl, hcr, hrr⟩ := HR.out.at (by rw [HL.out]; exact hlt)
      obtain ⟨co, ccap, rfl, _, _⟩ := hrr.formN (HW.out j hlt)
      have HRR := Lib.hid hrr
      have HC1 := Lib.hid hcell
      have HC2 := Lib.hid hcr
      have HLR := Lib.hid (HW.out j hlt)
      clear hcell hcr hrr
      generalize rows.getD j [] = R at *
      generalize xs.getD j 0 = q at *
      go_wp2_with fail
      go_loopw [11] (fun i wr => ∃ (k : Nat) (ys : List Int), k ≤ c ∧ i = .int .i64 k ∧ ys.length = c ∧ Ints wr w.heap.size (.slice (some ⟨w.heap.size, 0, none⟩) c c) ys ∧ Below w.heap.size w wr) (fun i _ => c - (intOf i).toNat)
      case atStart => exact ⟨0, _, Nat.zero_le _, rfl, hy, hI, hB⟩
      case round =>
        clear hI hB hy
        obtain ⟨k, zs, hk, rfl, hy, hI, hB⟩ := hrel
        have hS := hB.size
        have hq1 := below_cells hB _ _ HC1.out
        have hq2 := below_cells hB _ _ HC2.out
        by_cases hlt2 : k < c
        · obtain ⟨b3, off3, rfl, hcell3⟩ := (HRR.out.below hB).at (by rw [HLR.out]; exact hlt2)
          obtain ⟨hcell2, hfz⟩ := hI.cell hy.symm k hlt2
          have HL2 := Lib.hid hy
          have hset : Hid (∀ y, Ints (wr.setCell ⟨w.heap.size, k, none⟩ (.int .i64 y)) w.heap.size (.slice (some ⟨w.heap.size, 0, none⟩) c c) (zs.set k y) ∧ Below w.heap.size w (wr.setCell ⟨w.heap.size, k, none⟩ (.int .i64 y))) := fun y => ⟨(hI.set hy.symm k y).1, hB.trans ((hI.set hy.symm k y).2.below (Nat.le_refl _) hS)⟩
          generalize zs.getD k 0 = o at *
          generalize R.getD k 0 = o2 at *
          have L1 : (k : Int) < (c : Int) := by omega
          have L2 : (0 : Int) ≤ (k : Int) := by omega
          have L3 : (j : Int) < (c : Int) := by omega
          have L4 : (0 : Int) ≤ (j : Int) := by omega
          have L5 : ¬ p = 0 := by omega
          clear hI hB hy
          go_wp2_with fail
          apply via
          case h =>
            go_region
            all_goals exact ⟨rfl, rfl⟩
          go_wp2_with fail
          go_roundw
          case rel =>
            refine ⟨k + 1, _, by omega, by go_num, ?_, (hset.out _).1, ?_⟩
            · rw [List.length_set]; exact HL2.out
            · first | exact (hset.out _).2 | exact (hset.out _).2.drew
          case measure => simp [intOf]; omega
        · go_wp2_with fail
          go_roundw
          case rel => exact ⟨j + 1, _, by omega, by go_num, hy, hI, hB⟩
          case measure => simp [intOf]; omega
    · obtain rfl : j = c := by omega
      have e1 := HX.out
      have e2 := HL.out
      go_wp2_with fail
      go_ret
      exact ⟨_, _, rfl, hy, hI, hB⟩
--== spec.l02Product
set_option maxHeartbeats 2000000 in
theorem s_l02Product (p : Int) (va vb : Value) (A B : List (List Int)) (c : Nat) (w : World) (hp1 : 2 ≤ p) (hp2 : p ≤ 100) (ha : Rd2 w va A) (hb : Rd2 w vb B) (hla : A.length = c) (hlb : B.length = c)
    (hra : ∀ i, i < c → (A.getD i []).length = c) (hrb : ∀ i, i < c → (B.getD i []).length = c) (hc : c ≤ 100) : Calls Try.prog 82 #[.int .i64 p, va, vb, .int .i64 c] w (RetNN w c c) := by
  have hO0 : O2 (w.alloc (Obj.cells #[] 24)) (win w.heap.size (w.alloc (Obj.cells #[] 24)).heap.size) (.slice (some ⟨w.heap.size, 0, none⟩) 0 0) [] :=
    ⟨[], fun _ _ => False, ⟨rfl, .inr ⟨w.heap.size, 0, #[], rfl, Nat.zero_le _, heap_alloc_new w _, Nat.le_refl _, by simp [maxLen], rfl, rfl⟩⟩, fun g hg => by
      obtain rfl : w.heap.size = g := by simpa [Value.ownBlock] using hg
      exact ⟨Nat.le_refl _, by simp⟩, fun i hi => by simp at hi, fun i hi => by simp at hi, fun i j hi => by simp at hi⟩
  have HO0 := Lib.hid hO0
  have HA := Lib.hid ha
  have HB := Lib.hid hb
  have HLA := Lib.hid hla
  have HRA := Lib.hid hra
  have HTM : Hid (∀ (v : Value) (xs : List Int) (wx : World), Below w.heap.size w wx → Rd wx v xs → xs.length = c → Calls Try.prog 84 #[.int .i64 p, v, vb, .int .i64 c] wx (RetN wx c)) := fun v xs wx hbx hv hx => s_l02Times p v vb xs B c wx hp1 hp2 hv (HB.out.below hbx) hx hlb hrb hc
  obtain ⟨ao, cap, rfl, _, _⟩ := ha.formN hla
  clear hO0 ha hb hla hra hlb hrb
  go_enter Try.func82, Try.ntmps82
  go_wp2_with fail
  go_loopw [9, 10] (fun u i wr => ∃ (j : Nat) (D : List (List Int)), j ≤ c ∧ i = .int .i64 j ∧ D.length = j ∧ (∀ i, i < j → (D.getD i []).length = c) ∧ O2 wr (win w.heap.size wr.heap.size) u D ∧ Below w.heap.size w wr) (fun _ i _ => c - (intOf i).toNat)
  case atStart => exact ⟨0, [], Nat.zero_le _, rfl, rfl, fun i hi => by omega, HO0.out, below_alloc _ _⟩
  case round =>
    clear HO0
    obtain ⟨j, D, hj, rfl, hD, hDr, hO, hBl⟩ := hrel
    obtain ⟨a6, c6, rfl, _, _⟩ := hO.formN hD
    have HDr := Lib.hid hDr
    have HD := Lib.hid hD
    clear hDr
    by_cases hlt : j < c
    · obtain ⟨b2, off2, r, rfl, hcr, hrr⟩ := (HA.out.below hBl).at (by rw [HLA.out]; exact hlt)
      have HRR := Lib.hid hrr
      have HRL := Lib.hid (HRA.out j hlt)
      clear hrr
      generalize A.getD j [] = R at *
      have hS := hBl.size
      go_wp2_with fail
      refine (HTM.out _ R _ hBl HRR.out HRL.out).mono ?_
      rintro e w2 ⟨u2, ys, rfl, hys, hI2, hB2⟩
      obtain ⟨u5, c5, rfl, _⟩ := hI2.rd.formN hys
      obtain ⟨v6, w6, hr6, hO6, hB6⟩ := step_rows hO hBl.size hI2 rfl hB2 (by rw [hD]; omega)
      have hB7 := (hBl.trans (hB2.mono hBl.size)).trans hB6
      have HYS := Lib.hid hys
      clear hO hI2 hB2 hBl hB6 hys
      go_wp2_with (at_builtin; refine wp_of_run _ rfl _ _ _ rfl _ _ rfl rfl _ _ hr6 ?_)
      go_roundw
      case rel => exact ⟨j + 1, _, by omega, by go_num, by rw [List.length_append, HD.out]; rfl, fun i hi => by
        by_cases h : i < j
        · rw [show (D ++ [ys]).getD i [] = D.getD i [] by rw [List.getD_eq_getElem?_getD, List.getElem?_append_left (by rw [HD.out]; exact h)]; rfl]; exact HDr.out i h
        · obtain rfl : i = j := by omega
          rw [show (D ++ [ys]).getD i [] = ys by rw [List.getD_eq_getElem?_getD, List.getElem?_append_right (by rw [HD.out]; exact Nat.le_refl _), HD.out]; simp]; exact HYS.out, hO6, hB7⟩
      case measure => simp [intOf]; omega
    · obtain rfl : j = c := by omega
      go_wp2_with fail
      go_ret
      exact ⟨D, hD, HDr.out, _, rfl, hO, hBl⟩
--== end
end Go.Proofs.Ytiikoappknejgaa
namespace Go.Proofs.Ytiikoappknejgaa
set_option linter.unusedVariables false
set_option linter.unusedSimpArgs false
set_option maxRecDepth 100000
open Go.RowKit

def okC (c0 c1 : Int) : Int := if c0 = 0 then c1 else c0
theorem okC_zero {c0 c1 : Int} (h : c0 = 0) : okC c0 c1 = c1 := if_pos h
theorem okC_ne {c0 c1 : Int} (h : ¬ c0 = 0) : okC c0 c1 = c0 := if_neg h
theorem small_append {xs ys : List Int} (h : Small xs) (h' : Small ys) : Small (xs ++ ys) := fun x hx => (List.mem_append.1 hx).elim (h x) (h' x)
theorem shortW_len (xs : List Int) : (shortW xs).length ≤ 64 := by unfold shortW; split <;> simp_all
theorem okW_short_len (c : Int) (xs : List Int) : (okW c (shortW xs)).length ≤ 1000000000 := by
  have := shortW_len xs
  unfold okW; split
  · omega
  · simp
/-- the outcome of a product: the short reduced form of the letters, and the code -/
def prodL (c0 : Int) (xs : List Int) : List Int := okW c0 (shortW (redW xs))
def prodC (c0 : Int) (xs : List Int) : Int := okC c0 (codeS (redW xs))
theorem prodL_len (c : Int) (xs : List Int) : (prodL c xs).length ≤ 1000000000 := okW_short_len _ _
theorem prodL_zero {c0 : Int} (xs : List Int) (h : c0 = 0) : prodL c0 xs = shortW (redW xs) ∧ prodC c0 xs = codeS (redW xs) := ⟨okW_zero h, okC_zero h⟩
theorem prodL_ne {c0 : Int} (xs : List Int) (h : ¬ c0 = 0) : prodL c0 xs = [] ∧ prodC c0 xs = c0 := ⟨okW_ne h, okC_ne h⟩
def commL (a b : List Int) : List Int := invW a ++ (invW b ++ (a ++ b))
theorem cat2 (a b : List Int) : cat [a, b] = a ++ b := by simp [cat]
theorem cat4 (a b c d : List Int) : cat [a, b, c, d] = a ++ (b ++ (c ++ d)) := by simp [cat]
end Go.Proofs.Ytiikoappknejgaa
namespace Go.Proofs.Ytiikoappknejgaa
set_option linter.unusedVariables false
set_option linter.unusedSimpArgs false
set_option maxRecDepth 100000
open Go.RowKit
--== 61
def Try.lays212_ren : Go.Shelf.Ren := ⟨fun | 212 => 61 | 263 => 69 | 264 => 70 | n => n, fun | 46 => 85 | 51 => 92 | 146 => 93 | 53 => 95 | 148 => 96 | n => n, fun | n => n⟩
theorem Try.lays212 : Go.Proofs.Lays.n212 Try.prog Try.lays212_ren := {
  mixed := by kernel_rfl
  f212 := Try.func61.trans (congrArg some (by kernel_rfl))
  f263 := Try.func69.trans (congrArg some (by kernel_rfl))
  f264 := Try.func70.trans (congrArg some (by kernel_rfl))
  t46 := Try.underlying85
  a46 := Try.isAgg85
  z46 := Try.sizeOf85
  v46 := Try.zeroValue85
  t51 := Try.underlying92
  a51 := Try.isAgg92
  z51 := Try.sizeOf92
  v51 := Try.zeroValue92
  t53 := Try.underlying95
  a53 := Try.isAgg95
  z53 := Try.sizeOf95
  v53 := Try.zeroValue95
  t146 := Try.underlying93
  a146 := Try.isAgg93
  z146 := Try.sizeOf93
  v146 := Try.zeroValue93
  t148 := Try.underlying96
  a148 := Try.isAgg96
  z148 := Try.sizeOf96
  v148 := Try.zeroValue96 }
theorem f_bitsMul (x y : Nat) (hx : x < 18446744073709551616) (hy : y < 18446744073709551616) (w : World) :
    Calls Try.prog 61 #[.int .u64 x, .int .u64 y] w fun e w' => e = .returned (.tuple #[.int .u64 ((x * y / 18446744073709551616 : Nat) : Int), .int .u64 ((x * y % 18446744073709551616 : Nat) : Int)]) ∧ w' = w := Any.bits_Mul Try.lays212 x y hx hy w
--== copies
theorem take_set_succ (ys : List Int) (o : Nat) (z : Int) (h : o < ys.length) : (ys.set o z).take (o + 1) = ys.take o ++ [z] := by
  rw [take_snoc _ o 0 (by simpa using h), List.take_set_of_le (Nat.le_refl _), getD_set ys o o z h, if_pos rfl]
theorem drop_set_past (ys : List Int) (o m : Nat) (z : Int) (h : o < m) : (ys.set o z).drop m = ys.drop m := List.drop_set_of_lt h
theorem setCells_ints {B g cap n : Nat} : ∀ (zs : List Int) (o : Nat) (w : World) (ys : List Int), n = ys.length → o + zs.length ≤ ys.length → Ints w B (.slice (some ⟨g, 0, none⟩) n cap) ys →
    Ints (w.setCells g o (zs.map (Value.int .i64))) B (.slice (some ⟨g, 0, none⟩) n cap) (ys.take o ++ zs ++ ys.drop (o + zs.length)) ∧ Chg g (g + 1) w (w.setCells g o (zs.map (Value.int .i64)))
  | [], o, w, ys, hn, hl, h => ⟨by simpa [World.setCells] using h, Chg.refl _ _ _⟩
  | z :: rest, o, w, ys, hn, hl, h => by
    simp only [List.length_cons] at hl
    obtain ⟨a, b⟩ := Ints.set hn h o z
    obtain ⟨c, d⟩ := setCells_ints rest (o + 1) _ (ys.set o z) (by simpa using hn) (by simp; omega) a
    rw [take_set_succ ys o z (by omega), drop_set_past ys o _ z (by omega)] at c
    refine ⟨?_, b.trans d (Nat.le_refl _) (Nat.le_refl _) (Nat.le_refl _) (Nat.le_refl _)⟩
    simp only [List.map_cons, World.setCells, List.length_cons]
    rw [show o + (rest.length + 1) = o + 1 + rest.length by omega]
    simpa using c

/-- what is copied into an owned row -/
theorem run_copyI {P : Program} (w : World) (B g cap n o dLen dCap : Nat) (ys zs cs : List Int) (v : Value) (T ty : TypeId) (hu : P.underlying T = some (.slice 2)) (hs : (P.info? 2).map (·.size) = some 1)
    (hn : n = ys.length) (hy : Ints w B (.slice (some ⟨g, 0, none⟩) n cap) ys) (hv : Rd w v zs) (ho : o + dLen = n) (hcs : cs = zs.take dLen) :
    (Builtin.copy_ #[T, T] ty #[.slice (some ⟨g, o, none⟩) dLen dCap, v]).run P w = .ok (goInt cs.length) (w.setCells g o (cs.map (Value.int .i64))) := by
  subst hcs
  obtain ⟨ao, vcap, rfl, hc1, hc2, h0, hcell⟩ := hv
  by_cases he : Nat.min zs.length dLen = 0
  · have e0 : zs.take dLen = [] := by
      apply List.eq_nil_of_length_eq_zero; rw [List.length_take]; rw [Nat.min_comm]; exact he
    rw [e0]
    exact run_copy_none w T T ty 2 _ _ _ _ _ _ hu hs he
  · have hpos : 0 < zs.length ∧ 0 < dLen := by
      constructor
      · rcases Nat.eq_zero_or_pos zs.length with h | h
        · rw [h] at he; simp at he
        · exact h
      · rcases Nat.eq_zero_or_pos dLen with h | h
        · rw [h] at he; simp at he
        · exact h
    rcases hcell with hcell | ⟨b, off, rfl, hcell⟩
    · omega
    have hm : (zs.take dLen).length = Nat.min zs.length dLen := by rw [List.length_take, Nat.min_comm]
    have hmle : (zs.take dLen).length ≤ dLen := by rw [List.length_take]; omega
    obtain ⟨g', cap', hv', _, _, _, _, hcc, hff⟩ := hy.open (by omega)
    simp only [Value.slice.injEq, Option.some.injEq, Addr.mk.injEq, and_true, true_and] at hv'
    obtain ⟨rfl, _, rfl⟩ := hv'
    have hr := run_copy_cells (P := P) w T T ty 2 g o dLen dCap ⟨b, off, none⟩ zs.length vcap ((zs.take dLen).map (Value.int .i64)) hu hs (by simpa using hm) (by
        intro j v hj
        rw [Addr.add_lit]
        have hj2 : j < (zs.take dLen).length := by have := (List.getElem?_eq_some_iff.1 hj).1; simpa using this
        rw [getD_map_int _ j hj2] at hj
        rw [List.length_take] at hj2
        rw [hcell j (by omega), ← hj]
        congr 2
        simp [List.getD, List.getElem?_take, show j < dLen by omega])
      (by intro j hj; simp only [List.length_map] at hj; rw [hcc (o + j) (by omega)]; rfl) (by intro j _; exact hff _) (by intro v hv; obtain ⟨x, _, rfl⟩ := List.mem_map.1 hv; rfl)
    simp only [List.length_map] at hr
    exact hr
theorem wpl_copy {P : Program} (w : World) {ops : Array Oper} {rest : List Oper} {o : Oper} {a : Act} {Q : Exit → Act → World → Prop} (hgd : o.guard = none) (d s : Operand) (t t' : TypeId)
    (ho : o.op = .call { callee := .builtin .copy, args := #[d, s], argTypes := #[t, t'] }) (v u : Value) (hd : a.eval d = v) (hs : a.eval s = u) {v' : Value} {w' : World}
    (hr : (Builtin.copy_ #[t, t'] o.type #[v, u]).run P w = .ok v' w') (h : wpList P ops Q rest (a.put o.dst v') w') : wpList P ops Q (o :: rest) a w :=
  wpList_plain hgd fun K hK => by
    unfold Oper.wp execOp
    simp only [ho, resolve, invoke, builtin, Sem.run_bind, Sem.run_pure, Result.andThen_ok, List.map_toArray, List.map_cons, List.map_nil, hd, hs, hr]
    exact hK _ _ h
theorem step_copyR {P : Program} {ops : Array Oper} {o : Oper} {a : Act} {w : World} {K : Act → World → Prop} {Q : Exit → Act → World → Prop} {E : Prop}
    (hg : o.guard = none) (d x : Operand) (dT sT : TypeId) (hop : o.op = Op.call { callee := Callee.builtin Builtin.copy, args := #[d, x], argTypes := #[dT, sT] })
    (v u : Value) (hd : a.eval d = v) (hx : a.eval x = u) {v' : Value} {w' : World} (hr : (Builtin.copy_ #[dT, sT] o.type #[v, u]).run P w = .ok v' w') (hK : K (a.put o.dst v') w') :
    if Region.wanted o (yielded ops a.tmps) = true then Oper.wp P o a w K Q else E := by
  have hw : Region.wanted o (yielded ops a.tmps) = true := by simp [Region.wanted, hg]
  rw [if_pos hw]
  unfold Oper.wp
  simp [execOp, hop, resolve, invoke, builtin, hd, hx, hr, Result.andThen]
  exact hK
theorem Ints.heap {w w' : World} {B : Nat} {v : Value} {xs : List Int} (h : Ints w B v xs) (he : w'.heap = w.heap) : Ints w' B v xs := own_of_block h fun g _ => by rw [he]
theorem Rd.heap {w w' : World} {v : Value} {xs : List Int} (h : Rd w v xs) (he : w'.heap = w.heap) : Rd w' v xs := h.of_cells fun a u ha => by
  rw [← ha]; unfold World.cell?; rw [he]
theorem Below.heap_eq {w w' w'' : World} {B : Nat} (h : Below B w w') (he : w''.heap = w'.heap) (h1 : w''.os = w'.os) (h2 : w''.tape = w'.tape) (h3 : w''.output = w'.output) : Below B w w'' :=
  ⟨h1.trans h.os, h2.trans h.tape, h3.trans h.output, by rw [he]; exact h.size, fun k hk => by rw [he]; exact h.block k hk⟩

/-- c times the word -/
def rep (xs : List Int) (c : Nat) : List Int := cat (List.replicate c xs)
theorem rep_length (xs : List Int) (c : Nat) : (rep xs c).length = xs.length * c := by
  induction c with
  | zero => simp [rep, cat]
  | succ c ih => simp only [rep, cat, List.replicate_succ, List.flatten_cons, List.length_append] at ih ⊢; rw [ih, Nat.mul_succ]; omega
theorem rep_add (xs : List Int) (c d : Nat) : rep xs (c + d) = rep xs c ++ rep xs d := by
  simp only [rep, cat, ← List.replicate_append_replicate, List.flatten_append]
theorem rep_succ (xs : List Int) (c : Nat) : rep xs (c + 1) = rep xs c ++ xs := by rw [rep_add]; simp [rep, cat]
theorem rep_one (xs : List Int) : rep xs 1 = xs := by simp [rep, cat]
theorem rep_zero (xs : List Int) : rep xs 0 = [] := by simp [rep, cat]
theorem rep_nil (c : Nat) : rep [] c = [] := List.eq_nil_of_length_eq_zero (by rw [rep_length]; simp)
theorem rep_take (xs : List Int) (c m : Nat) : (rep xs c).take (xs.length * m) = rep xs (min m c) := by
  rcases Nat.le_total m c with h | h
  · rw [Nat.min_eq_left h]
    obtain ⟨d, rfl⟩ := Nat.exists_eq_add_of_le h
    rw [rep_add, ← rep_length xs m, List.take_left']; rfl
  · rw [Nat.min_eq_right h, List.take_of_length_le]; rw [rep_length]; exact Nat.mul_le_mul_left _ h
theorem rep_small {xs : List Int} (h : Small xs) (c : Nat) : Small (rep xs c) := by
  intro x hx
  simp only [rep, cat, List.mem_flatten, List.mem_replicate] at hx
  obtain ⟨l, ⟨_, rfl⟩, hl⟩ := hx
  exact h x hl
/-- the row of slices.Repeat while it fills -/
def repTo (xs : List Int) (c m : Nat) : List Int := rep xs m ++ List.replicate (xs.length * (c - m)) 0
theorem repTo_length (xs : List Int) (c m : Nat) (h : m ≤ c) : (repTo xs c m).length = xs.length * c := by
  unfold repTo; rw [List.length_append, rep_length, List.length_replicate, ← Nat.mul_add]; congr 1; omega
theorem repTo_step (xs : List Int) (c m d : Nat) (h : m + d ≤ c) (zs : List Int) (hz : zs = rep xs d) :
    (repTo xs c m).take (xs.length * m) ++ zs ++ (repTo xs c m).drop (xs.length * m + zs.length) = repTo xs c (m + d) := by
  subst hz
  unfold repTo
  rw [rep_length, ← Nat.mul_add, List.take_append_of_le_length (by rw [rep_length]; exact Nat.le_refl _), List.take_of_length_le (by rw [rep_length]; exact Nat.le_refl _), rep_add]
  congr 1
  rw [List.drop_append, rep_length, List.drop_of_length_le (by rw [rep_length]; exact Nat.mul_le_mul_left _ (by omega)), List.nil_append, List.drop_replicate, ← Nat.mul_sub, ← Nat.mul_sub]
  congr 2
  omega
theorem repTo_end (xs : List Int) (c m : Nat) (h : m ≤ c) (e : xs.length * m = xs.length * c) : repTo xs c m = rep xs c := by
  unfold repTo
  rw [Nat.mul_sub, e, Nat.sub_self, List.replicate_zero, List.append_nil]
  rcases Nat.eq_zero_or_pos xs.length with h0 | h0
  · have := List.eq_nil_of_length_eq_zero h0
    subst this
    rw [rep_nil, rep_nil]
  · rw [Nat.eq_of_mul_eq_mul_left h0 e]
theorem repTo_zero (xs : List Int) (c : Nat) : repTo xs c 0 = List.replicate (xs.length * c) 0 := by simp [repTo, rep_zero]
theorem repTo_head (xs : List Int) (c m : Nat) : (repTo xs c m).take (xs.length * m) = rep xs m := by
  unfold repTo
  rw [List.take_append_of_le_length (by rw [rep_length]; exact Nat.le_refl _), List.take_of_length_le (by rw [rep_length]; exact Nat.le_refl _)]
theorem Ints.cut {w : World} {B g cap n m : Nat} {xs : List Int} (h : Ints w B (.slice (some ⟨g, 0, none⟩) n cap) xs) (hn : n = xs.length) (hm : m ≤ n) : Rd w (.slice (some ⟨g, 0, none⟩) m cap) (xs.take m) := (h.take hn hm).rd

--== slices.Repeat
theorem mul_succ_lt {l m c : Nat} (hl : 0 < l) (h : l * m < l * c) : m < c := Nat.lt_of_mul_lt_mul_left h
set_option maxHeartbeats 400000 in
theorem f_Repeat (v : Value) (xs : List Int) (c : Nat) (w : World) (hv : Rd w v xs) (hs : xs.length ≤ 10000) (hc : c ≤ 10000) :
    Calls Try.prog 42 #[v, .int .i64 c] w (RetInts w (rep xs c)) := by
  obtain ⟨i0, hi, hz0, hz1, hz2⟩ := info_parts Try.info2
  have hN : xs.length * c ≤ 100000000 := Nat.le_trans (Nat.mul_le_mul hs hc) (by omega)
  have hdiv : xs.length * c / 18446744073709551616 = 0 := Nat.div_eq_of_lt (by omega)
  have hmod : xs.length * c % 18446744073709551616 = xs.length * c := Nat.mod_eq_of_lt (by omega)
  obtain ⟨ao, cap, hform, hc1, hc2⟩ := id hv.form
  have HV := Lib.hid hv
  clear hv
  subst hform
  have hwl : IntKind.u64.wrap (xs.length : Int) = xs.length := by rw [IntKind.wrap_u64]; omega
  have hwc : IntKind.u64.wrap (c : Int) = c := by rw [IntKind.wrap_u64]; omega
  have hmul := f_bitsMul xs.length c (by omega) (by omega)
  rw [hdiv, hmod] at hmul
  clear hdiv hmod
  have HN : Hid (∀ m, m ≤ c → (repTo xs c m).length = xs.length * c) := fun m h => repTo_length xs c m h
  obtain ⟨N, hNd⟩ : ∃ N, xs.length * c = N := ⟨_, rfl⟩
  have HD := Lib.hid hNd
  rw [hNd] at hN hmul
  clear hNd
  go_enter Try.func42, Try.ntmps42
  go_wp2_with fail
  refine (hmul _).mono ?_
  rintro e w1 ⟨rfl, rfl⟩
  go_wp2_with (at_make; refine wp_mkInts _ rfl _ _ rfl i0 Try.underlying24 hi hz0 hz1 hz2 _ _ _ _ N rfl rfl rfl rfl (by omega) ?_)
  intro w2 hI hB hgt
  have hsz : (Try.prog.info? 2).map (·.size) = some 1 := by rw [hi]; simp [hz1]
  have hv2 := HV.out.below hB
  obtain ⟨d0, hd0, hd0c, hd1⟩ : ∃ d, d = min c 1 ∧ 0 + d ≤ c ∧ (c = 0 ∨ d = 1) := ⟨min c 1, rfl, by omega, by omega⟩
  have hcs : rep xs d0 = xs.take N := by
    have e := rep_take xs 1 c
    rw [rep_one, HD.out] at e
    rw [e, hd0]
  have hl0 : (rep xs d0).length = xs.length * d0 := rep_length xs d0
  have hcp : ∀ W : World, W.heap = w2.heap → (Builtin.copy_ #[24, 24] 3 #[.slice (some ⟨w1.heap.size, 0, none⟩) N N, .slice ao xs.length cap]).run Try.prog W = .ok (goInt (rep xs d0).length) (W.setCells w1.heap.size 0 ((rep xs d0).map (Value.int .i64))) := fun W hW =>
    run_copyI W w1.heap.size w1.heap.size N N 0 N N _ _ _ _ 24 3 Try.underlying24 hsz (by simp) (hI.heap hW) (hv2.heap hW) (by omega) hcs
  obtain ⟨L0, hL0⟩ : ∃ L0, xs.length * d0 = L0 := ⟨_, rfl⟩
  rw [hl0, hL0] at hcp
  obtain ⟨hI2, hC2⟩ := setCells_ints (rep xs d0) 0 w2 _ (by simp) (by rw [List.length_replicate, hl0, ← HD.out, Nat.zero_add]; exact Nat.mul_le_mul_left _ (by omega)) hI
  have e0 := repTo_step xs c 0 d0 hd0c _ rfl
  rw [Nat.mul_zero, Nat.zero_add, Nat.zero_add, repTo_zero, HD.out] at e0
  rw [Nat.zero_add, e0] at hI2
  clear hd0 e0 hl0 hcs
  go_wp2_with (at_builtin; refine wpl_copy _ rfl _ _ 24 24 rfl _ _ rfl rfl (hcp _ rfl) ?_)
  have hLN : L0 ≤ N := by rw [← hL0, ← HD.out]; exact Nat.mul_le_mul_left _ (by omega)
  have hB2 : Below w1.heap.size w1 (w2.setCells w1.heap.size 0 ((rep xs d0).map (Value.int .i64))) := hB.trans (hC2.below (Nat.le_refl _) (by omega))
  have HL0 := Lib.hid hL0
  clear hL0 hC2 hI hcp HN hmul
  go_wp2_with fail
  go_loopw [8] (fun i wr => ∃ m L : Nat, m ≤ c ∧ (c = 0 ∨ 1 ≤ m) ∧ Hid (xs.length * m = L) ∧ L ≤ N ∧ i = .int .i64 L ∧ Ints wr w1.heap.size (.slice (some ⟨w1.heap.size, 0, none⟩) N N) (repTo xs c m) ∧ Below w1.heap.size w1 wr) (fun i _ => N - (intOf i).toNat)
  case atStart => exact ⟨d0, L0, by omega, by omega, HL0, hLN, rfl, hI2, hB2⟩
  case round =>
    clear hI2 hB2 hd0c hd1 HL0 hLN hgt hv2 hB
    obtain ⟨m, L, hm, hm1, HL, hL, rfl, hI, hB⟩ := hrel
    by_cases hlt : L < N
    · have hmc : m < c := mul_succ_lt (l := xs.length) (Nat.pos_of_ne_zero fun h => by have := HD.out; rw [h, Nat.zero_mul] at this; omega) (by rw [HL.out, HD.out]; exact hlt)
      have hlp : 0 < xs.length := Nat.pos_of_ne_zero fun h => by have := HD.out; rw [h, Nat.zero_mul] at this; omega
      obtain ⟨d, hd, hdc, hd1⟩ : ∃ d, d = min m (c - m) ∧ m + d ≤ c ∧ 1 ≤ d := ⟨min m (c - m), rfl, by omega, by omega⟩
      have hsz : (Try.prog.info? 2).map (·.size) = some 1 := by rw [hi]; simp [hz1]
      have hsrc := hI.cut (repTo_length xs c m hm ▸ HD.out.symm) (m := L) (by omega)
      rw [← HL.out, repTo_head, HL.out] at hsrc
      have hcs : rep xs d = (rep xs m).take (N - L) := by
        rw [← HD.out, ← HL.out, ← Nat.mul_sub, rep_take, hd, Nat.min_comm]
      obtain ⟨K, hK⟩ : ∃ K, xs.length * d = K := ⟨_, rfl⟩
      have hlK : (rep xs d).length = K := by rw [rep_length, hK]
      have hKp : 0 < K := by rw [← hK]; exact Nat.mul_pos hlp hd1
      have hKN : L + K ≤ N := by rw [← HL.out, ← hK, ← HD.out, ← Nat.mul_add]; exact Nat.mul_le_mul_left _ hdc
      have hcp : ∀ W : World, W.heap = wr.heap → (Builtin.copy_ #[24, 24] 3 #[.slice (some ⟨w1.heap.size, L, none⟩) (N - L) (N - L), .slice (some ⟨w1.heap.size, 0, none⟩) L N]).run Try.prog W = .ok (goInt K) (W.setCells w1.heap.size L ((rep xs d).map (Value.int .i64))) := fun W hW => by
        have := run_copyI (P := Try.prog) W w1.heap.size w1.heap.size N N L (N - L) (N - L) _ _ _ _ 24 3 Try.underlying24 hsz (repTo_length xs c m hm ▸ HD.out.symm) (hI.heap hW) (hsrc.heap hW) (by omega) hcs
        rwa [hlK] at this
      have hset : ∀ W : World, W.heap = wr.heap → Ints (W.setCells w1.heap.size L ((rep xs d).map (Value.int .i64))) w1.heap.size (.slice (some ⟨w1.heap.size, 0, none⟩) N N) (repTo xs c (m + d)) ∧ Chg w1.heap.size (w1.heap.size + 1) W (W.setCells w1.heap.size L ((rep xs d).map (Value.int .i64))) := fun W hW => by
        obtain ⟨a, b⟩ := setCells_ints (rep xs d) L W _ (repTo_length xs c m hm ▸ HD.out.symm) (by rw [hlK, repTo_length xs c m hm, HD.out]; exact hKN) (hI.heap hW)
        have e := repTo_step xs c m d hdc _ rfl
        rw [HL.out] at e
        rw [e] at a
        exact ⟨a, b⟩
      have HSET := Lib.hid hset
      have hw1 : IntKind.i64.wrap ((L : Int) + (K : Int)) = (L : Int) + K := by rw [IntKind.wrap_i64]; omega
      have HK : Hid (xs.length * (m + d) = L + K) := Lib.hid (by rw [Nat.mul_add, hK, HL.out])
      have hne : ¬ N = L := by omega
      have hn1 : ((N : Int) - (L : Int)).toNat = N - L := by omega
      clear hset hI hsrc hcs hlK hK hd
      go_wp2
      have hcpd := hcp wr.drew rfl
      clear hcp
      go_region
      obtain ⟨hI3, hC3⟩ := HSET.out wr.drew rfl
      have hB3 := (Below.heap_eq hB (w'' := wr.drew) rfl rfl rfl rfl).trans (hC3.below (Nat.le_refl _) hB.size)
      go_wp2
      go_roundw
      case rel => exact ⟨m + d, L + K, hdc, Or.inr (by omega), HK, hKN, by go_num, hI3, hB3⟩
      case measure => simp [intOf]; omega
    · have hLN : L = N := by omega
      subst hLN
      rw [repTo_end xs c m hm (by rw [HL.out, HD.out])] at hI
      have hlen : L = (rep xs c).length := by rw [rep_length, HD.out]
      go_wp2
      go_ret
      exact ⟨_, rfl, by unfold Ints at hI ⊢; rw [← hlen]; rw [hlen] at hI ⊢; exact hI, hB⟩
--== words
def powCode (k : Int) (xs : List Int) (e : Int) : Int := okC (codeOf k [xs]) (if inB e (-64) 64 then 0 else 2)
def powB (xs : List Int) (e : Int) : List Int := if e < 0 then invW xs else xs
def powW (xs : List Int) (e : Int) : List Int := rep (powB xs e) e.natAbs
theorem powB_neg {xs : List Int} {e : Int} (h : e < 0) : powB xs e = invW xs := if_pos h
theorem powB_pos {xs : List Int} {e : Int} (h : ¬ e < 0) : powB xs e = xs := if_neg h
theorem powCode_ne {k : Int} {xs : List Int} {e : Int} (h : ¬ codeOf k [xs] = 0) : powCode k xs e = codeOf k [xs] := okC_ne h
theorem powCode_in {k : Int} {xs : List Int} {e : Int} (h : codeOf k [xs] = 0) (h2 : inB e (-64) 64 = true) : powCode k xs e = 0 := by rw [powCode, okC_zero h, if_pos h2]
theorem powCode_out {k : Int} {xs : List Int} {e : Int} (h : codeOf k [xs] = 0) (h2 : inB e (-64) 64 = false) : powCode k xs e = 2 := by rw [powCode, okC_zero h, if_neg (by simp [h2])]
theorem powW_neg {xs : List Int} {n : Nat} (h : 0 < n) : powW xs (-(n : Int)) = rep (invW xs) n := by unfold powW; rw [powB_neg (by omega)]; congr 1; omega
theorem powW_pos {xs : List Int} {n : Nat} : powW xs (n : Int) = rep xs n := by unfold powW; rw [powB_pos (by omega)]; congr 1
end Go.Proofs.Ytiikoappknejgaa
namespace Go.Proofs.Ytiikoappknejgaa
set_option linter.unusedVariables false
set_option linter.unusedSimpArgs false
set_option maxRecDepth 100000
open Go.RowKit

theorem run_appI (w : World) (ty : TypeId) (B : Nat) (v : Value) (xs : List Int) (hown : Ints w B v xs) (vx : Value) (ys : List Int) (hrd : Rd w vx ys) (hn : xs.length ≤ 1000000000) (hm : ys.length ≤ 1000000000) (hB : B ≤ w.heap.size) :
    ∃ v' w', (Builtin.append_ #[24, 24] ty #[v, vx]).run Try.prog w = .ok v' w' ∧ Ints w' B v' (xs ++ ys) ∧ Below B w w' := by
  obtain ⟨i0, hi, hz0, hz1, hz2⟩ := info_parts Try.info2
  obtain ⟨v', w', hr, h1, h2, h3⟩ := run_app w B 24 ty 2 i0 (.int .i64 0) 8 Try.underlying24 hi hz0 hz1 hz2 rfl v xs.length (xs.map (Value.int .i64)) hown vx (ys.map (Value.int .i64)) hrd.cells (ints_oneCell _ _) (by simp [maxLen]; omega) (by simp; omega) hB
  have hg : Grew w w' v v' := ⟨h2, h3⟩
  refine ⟨v', w', hr, ?_, hg.below hB fun g hg => (hown.lt g hg).1⟩
  unfold Ints
  rw [List.length_append, List.map_append]
  simpa using h1
theorem Rd.litI (w : World) (xs : List Int) (h : xs.length ≤ 1000) : Rd (w.alloc (.cells (xs.map (Value.int .i64)).toArray 2)) (.slice (some ⟨w.heap.size, 0, none⟩) xs.length xs.length) xs := by
  refine ⟨_, _, rfl, Nat.le_refl _, by omega, fun h => by (cases h), ?_⟩
  by_cases h0 : xs.length = 0
  · exact .inl h0
  · refine .inr ⟨_, _, rfl, fun j hj => ?_⟩
    have : (xs.map (Value.int .i64))[j]? = some (.int .i64 (xs.getD j 0)) := getD_map_int xs j hj
    simp [hj]
theorem balloc {w0 w : World} (h : Below w0.heap.size w0 w) (o : Obj) : Below w0.heap.size w0 (w.alloc o) := h.alloc h.size o
theorem Rd.lit1 (w : World) (x : Int) : Rd (w.alloc (.cells #[.int .i64 x] 2)) (.slice (some ⟨w.heap.size, 0, none⟩) 1 1) [x] :=
  ⟨_, 1, rfl, by simp, by simp, fun h => by (cases h), .inr ⟨_, _, rfl, fun j hj => by
    obtain rfl : j = 0 := by simpa using hj
    simp⟩⟩
theorem rep_single (x : Int) (m : Nat) : rep [x] m = List.replicate m x := by
  induction m with
  | zero => simp [rep, cat]
  | succ m ih => unfold rep cat at *; rw [List.replicate_succ, List.flatten_cons, ih]; rfl
theorem Ints.lit3 (w : World) (a b c : Int) : Ints (w.alloc (.cells #[.int .i64 a, .int .i64 b, .int .i64 c] 2)) w.heap.size (.slice (some ⟨w.heap.size, 0, none⟩) 3 3) [a, b, c] :=
  ⟨rfl, .inr ⟨w.heap.size, 3, #[.int .i64 a, .int .i64 b, .int .i64 c], rfl, Nat.le_refl _, heap_alloc_new w _, by simp, by simp [maxLen], by simp, by simp⟩⟩
theorem Rd.drew {w : World} {v : Value} {xs : List Int} (h : Rd w v xs) : Rd w.drew v xs := h
def rel1 (p : Pres) (i : Nat) : List Int := List.replicate (p.r i).toNat ((i : Int) + 1) ++ invW (nwL (p.P i))
def rel2 (p : Pres) (i k : Nat) : List Int := [-((i : Int) + 1), (i : Int) + k + 2, (i : Int) + 1] ++ invW (nwL ((p.conj.getD i []).getD k []))
def rels1 (p : Pres) (j : Nat) : List (List Int) := (List.range j).map (rel1 p)
def rels2 (p : Pres) (i m : Nat) : List (List Int) := (List.range m).map (rel2 p i)
def rels2s (p : Pres) (j : Nat) : List (List Int) := (List.range j).flatMap fun i => rels2 p i (p.conj.getD i []).length
def relL (p : Pres) : List (List Int) := rels1 p p.n ++ rels2s p p.n
theorem rels1_succ (p : Pres) (j : Nat) : rels1 p (j + 1) = rels1 p j ++ [rel1 p j] := by simp [rels1, List.range_succ]
theorem rels2_succ (p : Pres) (i m : Nat) : rels2 p i (m + 1) = rels2 p i m ++ [rel2 p i m] := by simp [rels2, List.range_succ]
theorem rels2s_succ (p : Pres) (j : Nat) : rels2s p (j + 1) = rels2s p j ++ rels2 p j (p.conj.getD j []).length := by simp [rels2s, List.range_succ]
theorem rels1_len (p : Pres) (j : Nat) : (rels1 p j).length = j := by simp [rels1]
theorem ValidP.smP {p : Pres} (h : ValidP p) {i : Nat} (hi : i < p.n) : SmE (p.P i) := tailB_sm (ordB_true h.ord).1 h.n6 (rowB_true (h.row i hi)).1
theorem ValidP.smC {p : Pres} (h : ValidP p) {i k : Nat} (hi : i < p.n) (hk : k < (p.conj.getD i []).length) : SmE ((p.conj.getD i []).getD k []) := tailB_sm (ordB_true h.ord).1 h.n6 ((rowB_true (h.row i hi)).2.2 k hk)
theorem rels2s_len {p : Pres} (h : ValidP p) (j : Nat) (hj : j ≤ p.n) : (rels2s p j).length ≤ 6 * j := by
  induction j with
  | zero => simp [rels2s]
  | succ j ih =>
    have := ih (by omega)
    have := h.clen j (by omega)
    have := h.n6
    rw [rels2s_succ, List.length_append]
    have e : (rels2 p j (p.conj.getD j []).length).length = (p.conj.getD j []).length := by simp [rels2]
    omega
--== exported
def okXX (c : Bool) (xs : List (List Int)) : List (List Int) := if c then xs else []
/-- what a call leaves that returns a list of lists and a code -/
def RetO2c (w : World) (d : List (List Int)) (c : Int) (e : Ending) (w' : World) : Prop := ∃ v, e = .returned (.tuple #[v, .int .i64 c]) ∧ O2 w' (win w.heap.size w'.heap.size) v d ∧ Below w.heap.size w w'
end Go.Proofs.Ytiikoappknejgaa
namespace Go.Proofs.Ytiikoappknejgaa
set_option linter.unusedVariables false
set_option linter.unusedSimpArgs false
set_option maxRecDepth 100000
open Go.RowKit
attribute [local go_sem ↓] Go.wp_at_zero Go.wp_at_succ

--== shapes
theorem ws_stP {n : Nat} {p : Pres} (h : WS n p) {i : Nat} {v : List Int} (hi : i < n) (hv : v.length = n) : WS n (stP p i v) := ws_set (r := (i, none, v)) h ⟨hi, hv⟩
theorem ws_stC {n : Nat} {p : Pres} (h : WS n p) {i j : Nat} {v : List Int} (hj : j < n - (i + 1)) (hv : v.length = n) : WS n (stC p i j v) := by
  have := ws_set (r := (i + 1 + j, some i, v)) h ⟨by omega, by omega, hv⟩
  have e : setR p (i + 1 + j, some i, v) = stC p i j v := by
    show (⟨_, _, p.conj.set i ((p.conj.getD i []).set (i + 1 + j - i - 1) v)⟩ : Pres) = _
    rw [show i + 1 + j - i - 1 = j by omega]; rfl
  rwa [e] at this
theorem ws_dcTo {n : Nat} {p : Pres} (h : WS n p) {L : List (List Int)} {x y i : Nat} (hL : ∀ k, k < L.length → x + (L.getD k []).length + y = n) : ∀ k, k ≤ L.length → k ≤ n - (i + 1) → WS n (dcTo L x y i p k)
  | 0, _, _ => h
  | k + 1, h1, h2 => ws_stC (ws_dcTo h hL k (by omega) (by omega)) (by omega) (by rw [padL_len]; exact hL k (by omega))
theorem ws_dpTo {n : Nat} {a p : Pres} (h : WS n p) (ha : WS a.n a) {x y o : Nat} (hn : x + a.n + y = n) (ho : o + a.n ≤ n) : ∀ i, i ≤ a.n → WS n (dpTo a x y o p i)
  | 0, _ => h
  | i + 1, h1 => by
    rw [dpTo_succ]
    refine ws_dcTo (ws_stP (ws_dpTo h ha hn ho i (by omega)) (by omega) (by rw [padL_len, ha.pv i (by omega)]; exact hn)) (fun k hk => ?_) _ (Nat.le_refl _) ?_
    · rw [ha.rl i (by omega)] at hk
      rw [ha.cv i k (by omega) hk]; exact hn
    · rw [ha.rl i (by omega)]; omega
theorem primesB_app {a b : List Int} (ha : primesB a = true) (hb : primesB b = true) : primesB (a ++ b) = true := by
  unfold primesB at *
  rw [List.all_append, ha, hb]; rfl
theorem ws_dirP {a b : Pres} (ha : WS a.n a) (hb : WS b.n b) : WS (a.n + b.n) (dirP a b) := by
  have h0 : WS (a.n + b.n) (triv (a.orders ++ b.orders)) := by
    have := ws_triv (primesB_app ha.pr hb.pr)
    rwa [List.length_append] at this
  exact ws_dpTo (ws_dpTo h0 ha (by omega) (by omega) _ (Nat.le_refl _)) hb (by omega) (by omega) _ (Nat.le_refl _)
theorem run_appB (w : World) (ty : TypeId) (B : Nat) (v : Value) (xs : List Int) (hown : Ints w B v xs) (vx : Value) (ys : List Int) (hrd : Rd w vx ys) (hn : xs.length ≤ 1000000000) (hm : ys.length ≤ 1000000000) (hB : B ≤ w.heap.size) :
    ∃ v' w', (Builtin.append_ #[24, 24] ty #[v, vx]).run Try.prog w = .ok v' w' ∧ Ints w' B v' (xs ++ ys) ∧ Below B w w' ∧ ∀ c, c < w.heap.size → v.ownBlock ≠ some c → w'.heap[c]? = w.heap[c]? := by
  obtain ⟨i0, hi, hz0, hz1, hz2⟩ := info_parts Try.info2
  obtain ⟨v', w', hr, h1, h2, h3⟩ := run_app w B 24 ty 2 i0 (.int .i64 0) 8 Try.underlying24 hi hz0 hz1 hz2 rfl v xs.length (xs.map (Value.int .i64)) hown vx (ys.map (Value.int .i64)) hrd.cells (ints_oneCell _ _) (by simp [maxLen]; omega) (by simp; omega) hB
  have hg : Grew w w' v v' := ⟨h2, h3⟩
  refine ⟨v', w', hr, ?_, hg.below hB fun g hg => (hown.lt g hg).1, fun c hc hv => h2.block c hc (fun e => hv e.symm)⟩
  unfold Ints
  rw [List.length_append, List.map_append]
  simpa using h1
--== spec.l07Shift, twice
theorem s_shF (v : Value) (xs : List Int) (y : Nat) (w : World) (hv : Rd w v xs) (hy : y ≤ 1000) (hl : xs.length ≤ 1000) :
    Calls Try.prog 77 #[.int .i64 0, v, .int .i64 y] w (RetInts w (padL 0 xs y)) := s_l07Shift v xs 0 y w hv (by omega) hy hl
theorem s_shB (v : Value) (xs : List Int) (x : Nat) (w : World) (hv : Rd w v xs) (hx : x ≤ 1000) (hl : xs.length ≤ 1000) :
    Calls Try.prog 77 #[.int .i64 x, v, .int .i64 0] w (RetInts w (padL x xs 0)) := s_l07Shift v xs x 0 w hv hx (by omega) hl
--== spec.l07Both
set_option maxHeartbeats 16000000 in
theorem s_bothW {a b : Pres} (hA : WS a.n a) (hB : WS b.n b) (hna : a.n ≤ 6) (hnb : b.n ≤ 6) (a1 a2 a3 b1 b2 b3 : Value) (w : World) (hpa : RdP w a1 a2 a3 a) (hpb : RdP w b1 b2 b3 b) :
    Calls Try.prog 66 #[.agg #[a1, a2, a3], .agg #[b1, b2, b3]] w (RetP w (dirP a b)) := by
  obtain ⟨RA1, RA2, RA3⟩ := hpa
  obtain ⟨RB1, RB2, RB3⟩ := hpb
  obtain ⟨ao1, aq1, rfl, _, _⟩ := RA1.formN (n := a.n) rfl
  obtain ⟨ao2, aq2, rfl, _, _⟩ := RA2.formN hA.pl
  obtain ⟨ao3, aq3, rfl, _, _⟩ := RA3.formN hA.cl
  obtain ⟨bo1, bq1, rfl, _, _⟩ := RB1.formN (n := b.n) rfl
  obtain ⟨bo2, bq2, rfl, _, _⟩ := RB2.formN hB.pl
  obtain ⟨bo3, bq3, rfl, _, _⟩ := RB3.formN hB.cl
  have g2 := below_allocs2 w (Obj.cells #[Value.slice ao1 a.n aq1, Value.slice ao2 a.n aq2, Value.slice ao3 a.n aq3] 28) (Obj.cells #[Value.slice bo1 b.n bq1, Value.slice bo2 b.n bq2, Value.slice bo3 b.n bq3] 28)
  have HXA := (Bx.new w (Value.slice ao1 a.n aq1) (Value.slice ao2 a.n aq2) (Value.slice ao3 a.n aq3)).old (Obj.cells #[Value.slice bo1 b.n bq1, Value.slice bo2 b.n bq2, Value.slice bo3 b.n bq3] 28)
  have HXB := Bx.new (w.alloc (Obj.cells #[Value.slice ao1 a.n aq1, Value.slice ao2 a.n aq2, Value.slice ao3 a.n aq3] 28)) (Value.slice bo1 b.n bq1) (Value.slice bo2 b.n bq2) (Value.slice bo3 b.n bq3)
  rw [show (w.alloc (Obj.cells #[Value.slice ao1 a.n aq1, Value.slice ao2 a.n aq2, Value.slice ao3 a.n aq3] 28)).heap.size = w.heap.size + 1 by simp] at HXB
  have z2 : ((w.alloc (Obj.cells #[Value.slice ao1 a.n aq1, Value.slice ao2 a.n aq2, Value.slice ao3 a.n aq3] 28)).alloc (Obj.cells #[Value.slice bo1 b.n bq1, Value.slice bo2 b.n bq2, Value.slice bo3 b.n bq3] 28)).heap.size = w.heap.size + 1 + 1 := by simp
  have HRA1 := Lib.hid (RA1.below g2)
  have HRA2 := Lib.hid (RA2.below g2)
  have HRA3 := Lib.hid (RA3.below g2)
  have HRB1 := Lib.hid (RB1.below g2)
  have HRB2 := Lib.hid (RB2.below g2)
  have HRB3 := Lib.hid (RB3.below g2)
  clear RA1 RA2 RA3 RB1 RB2 RB3
  have HG2 := Lib.hid g2
  clear g2
  go_enter Try.func66, Try.ntmps66
  go_wp2_with fail
  generalize (w.alloc (Obj.cells #[Value.slice ao1 a.n aq1, Value.slice ao2 a.n aq2, Value.slice ao3 a.n aq3] 28)).alloc (Obj.cells #[Value.slice bo1 b.n bq1, Value.slice bo2 b.n bq2, Value.slice bo3 b.n bq3] 28) = w2 at *
  rw [← z2]
  have HZ2 : Hid (w.heap.size ≤ w2.heap.size) := by show _ ≤ _; omega
  generalize w.heap.size + 1 = pb at *
  obtain ⟨pa, hpa⟩ : ∃ x, x = w.heap.size := ⟨_, rfl⟩
  rw [← hpa] at HXA ⊢
  clear hpa
  have g0 := below_alloc w2 (Obj.cells #[Value.slice none 0 0, Value.slice none 0 0, Value.slice none 0 0] 28)
  have x0 := Bx.new w2 (Value.slice none 0 0) (Value.slice none 0 0) (Value.slice none 0 0)
  have z0 : (w2.alloc (Obj.cells #[Value.slice none 0 0, Value.slice none 0 0, Value.slice none 0 0] 28)).heap.size = w2.heap.size + 1 := by simp
  have ca1 := HXA.c0
  have cb1 := HXB.c0
  have CA2 := Lib.hid HXA.c1
  have CA3 := Lib.hid HXA.c2
  have CB2 := Lib.hid HXB.c1
  have CB3 := Lib.hid HXB.c2
  have ea1 := below_cells g0 _ _ ca1
  have eb1 := below_cells g0 _ _ cb1
  have HG := Lib.hid g0
  have HX := Lib.hid x0
  have HZ := Lib.hid z0
  have KEEP : Hid (∀ wx, Below w2.heap.size w2 wx → Below w2.heap.size w2 wx ∧ wx.cell? ⟨pa, 0, none⟩ = some (.slice ao1 a.n aq1) ∧ wx.cell? ⟨pb, 0, none⟩ = some (.slice bo1 b.n bq1)) := fun wx hb => ⟨hb, below_cells hb _ _ ca1, below_cells hb _ _ cb1⟩
  clear g0 x0 z0 z2
  apply via
  case h =>
    go_region
    all_goals exact ⟨rfl, rfl⟩
  go_upto_region 2 with (fail)
  go_cut [7] (fun v wx => ∃ b4, v = .pointer (some ⟨b4, 0, none⟩) ∧ w2.heap.size < b4 ∧ BInv w2 w2.heap.size b4 (triv (a.orders ++ b.orders)) wx)
  case first =>
    have L1 := Lib.hid (HG.out)
    have L2 := Lib.hid (ballocD HG.out (Obj.cells #[Value.slice none 0 0, Value.slice none 0 0, Value.slice none 0 0] 28))
    have Y2 : Hid (Bx ((w2.alloc (Obj.cells #[Value.slice none 0 0, Value.slice none 0 0, Value.slice none 0 0] 28)).alloc (Obj.cells #[Value.slice none 0 0, Value.slice none 0 0, Value.slice none 0 0] 28)) (w2.heap.size + 1) (.slice none 0 0) (.slice none 0 0) (.slice none 0 0)) := by
      have := Bx.new (w2.alloc (Obj.cells #[Value.slice none 0 0, Value.slice none 0 0, Value.slice none 0 0] 28)) (.slice none 0 0) (.slice none 0 0) (.slice none 0 0)
      rw [HZ.out] at this
      exact this
    have HLA : Hid (a.orders.length ≤ 100 ∧ b.orders.length ≤ 100) := by
      have e1 : a.orders.length = a.n := rfl
      have e2 : b.orders.length = b.n := rfl
      exact ⟨by omega, by omega⟩
    have HL12 : Hid ((a.orders ++ b.orders).length ≤ 100) := by
      have e1 : a.orders.length = a.n := rfl
      have e2 : b.orders.length = b.n := rfl
      show _ ≤ _
      rw [List.length_append]; omega
    go_region_held3 (fun wx => Below w2.heap.size w2 wx ∧ wx.cell? ⟨pa, 0, none⟩ = some (.slice ao1 a.n aq1) ∧ wx.cell? ⟨pb, 0, none⟩ = some (.slice bo1 b.n bq1))
      (first
        | exact KEEP.out _ HG.out.drew.drew
        | exact KEEP.out _ (ballocD HG.out _).drew.drew
        | exact KEEP.out _ (set3 hW6 (by omega) _ _ _)
        | exact KEEP.out _ hW6
        | exact KEEP.out _ (ballocD hW6 _)
        | exact KEEP.out _ hW4
        | exact KEEP.out _ (ballocD hW4 _)
        | exact KEEP.out _ hW5
        | exact KEEP.out _ hW3
        | exact KEEP.out _ (ballocD hW3 _))
      (first
        | ((go_at_call 52); (with_reducible refine (s_l01Own _ a.orders (w2.alloc (Obj.cells #[Value.slice none 0 0, Value.slice none 0 0, Value.slice none 0 0] 28)).drew.drew (HRA1.out.below HG.out.drew.drew) (by have := HLA.out.1; omega)).mono ?_); (rintro e w3 ⟨u3, rfl, hI3, hB3⟩); (have hW3 := below_size HG.out.drew.drew hB3); (have X23 := ((HX.out).drew.drew).below hB3 ((HX.out).drew.drew).lt);  (obtain ⟨u4, w4, hr4, hI4, hB4, hk4⟩ := run_appB w3 24 _ u3 a.orders hI3 _ b.orders (HRB1.out.below hW3) (by have := HLA.out.1; omega) (by have := HLA.out.2; omega) hB3.size); (obtain ⟨u5, w5, hr5, hI5, hB5, hk5⟩ := run_appB (w3.alloc (Obj.cells #[Value.slice none 0 0, Value.slice none 0 0, Value.slice none 0 0] 28)) 24 _ u3 a.orders (hI3.below (below_alloc w3 _)) _ b.orders (HRB1.out.below (ballocD hW3 _)) (by have := HLA.out.1; omega) (by have := HLA.out.2; omega) (Nat.le_trans hB3.size (below_alloc w3 _).size)); (have hW4 := hW3.trans (hB4.mono (by simp <;> omega))); (have hW5 := (ballocD hW3 (Obj.cells #[Value.slice none 0 0, Value.slice none 0 0, Value.slice none 0 0] 28)).trans (hB5.mono (by simp <;> omega))); (have X24 := X23.below hB4 (by simp <;> omega)); (have X25 := (X23.old (Obj.cells #[Value.slice none 0 0, Value.slice none 0 0, Value.slice none 0 0] 28)).below hB5 (by simp <;> omega)); (have X45 : Bx w5 w3.heap.size (.slice none 0 0) (.slice none 0 0) (.slice none 0 0) := (hk5 w3.heap.size (by simp) (fun e => Nat.lt_irrefl _ ((hI3.lt _ e).2))).trans (Bx.new w3 _ _ _)) )
        | ((go_at_call 52); (with_reducible refine (s_l01Own _ a.orders ((w2.alloc (Obj.cells #[Value.slice none 0 0, Value.slice none 0 0, Value.slice none 0 0] 28)).alloc (Obj.cells #[Value.slice none 0 0, Value.slice none 0 0, Value.slice none 0 0] 28)).drew.drew (HRA1.out.below (ballocD HG.out _).drew.drew) (by have := HLA.out.1; omega)).mono ?_); (rintro e w3 ⟨u3, rfl, hI3, hB3⟩); (have hW3 := below_size (ballocD HG.out _).drew.drew hB3); (have X23 := ((HX.out.old (Obj.cells #[Value.slice none 0 0, Value.slice none 0 0, Value.slice none 0 0] 28)).drew.drew).below hB3 ((HX.out.old (Obj.cells #[Value.slice none 0 0, Value.slice none 0 0, Value.slice none 0 0] 28)).drew.drew).lt); (have X43 := (Y2.out.drew.drew).below hB3 (Y2.out.drew.drew).lt); (obtain ⟨u4, w4, hr4, hI4, hB4, hk4⟩ := run_appB w3 24 _ u3 a.orders hI3 _ b.orders (HRB1.out.below hW3) (by have := HLA.out.1; omega) (by have := HLA.out.2; omega) hB3.size); (obtain ⟨u5, w5, hr5, hI5, hB5, hk5⟩ := run_appB (w3.alloc (Obj.cells #[Value.slice none 0 0, Value.slice none 0 0, Value.slice none 0 0] 28)) 24 _ u3 a.orders (hI3.below (below_alloc w3 _)) _ b.orders (HRB1.out.below (ballocD hW3 _)) (by have := HLA.out.1; omega) (by have := HLA.out.2; omega) (Nat.le_trans hB3.size (below_alloc w3 _).size)); (have hW4 := hW3.trans (hB4.mono (by simp <;> omega))); (have hW5 := (ballocD hW3 (Obj.cells #[Value.slice none 0 0, Value.slice none 0 0, Value.slice none 0 0] 28)).trans (hB5.mono (by simp <;> omega))); (have X24 := X23.below hB4 (by simp <;> omega)); (have X25 := (X23.old (Obj.cells #[Value.slice none 0 0, Value.slice none 0 0, Value.slice none 0 0] 28)).below hB5 (by simp <;> omega)); (have X45 : Bx w5 w3.heap.size (.slice none 0 0) (.slice none 0 0) (.slice none 0 0) := (hk5 w3.heap.size (by simp) (fun e => Nat.lt_irrefl _ ((hI3.lt _ e).2))).trans (Bx.new w3 _ _ _)) ; (have X44 := X43.below hB4 (by simp <;> omega)))
        | ((refine step_of_run rfl (.tmp 20) (.tmp 22) 24 rfl _ _ (by simp [Act.eval, Act.put]) (by simp [Act.eval, Act.put]) _ _ hr4 ?_))
        | ((refine step_of_run rfl (.tmp 20) (.tmp 22) 24 rfl _ _ (by simp [Act.eval, Act.put]) (by simp [Act.eval, Act.put]) _ _ hr5 ?_))
        | ((go_at_call 67); (with_reducible refine (s_l07Trivial _ _ _ hI4.rd HL12.out).mono ?_); (rintro e w6 ⟨v1, v2, v3, rfl, hP6, hB6⟩); (obtain ⟨⟨d1, e1, rfl⟩, ⟨d2, e2, rfl⟩, ⟨d3, e3, rfl⟩⟩ := hP6.forms); (have hW6 := below_size hW4 hB6); (have X26 := X24.below hB6 X24.lt); (have X46 := X44.below hB6 X44.lt); (have m0 := X46.c0); (have m1 := X46.c1); (have m2 := X46.c2); (have z0 := X46.fr 0); (have z1 := X46.fr 1); (have z2 := X46.fr 2); (have hl4 := X44.lt); (have hl2 := X24.lt))
        | ((go_at_call 67); (with_reducible refine (s_l07Trivial _ _ _ hI4.rd HL12.out).mono ?_); (rintro e w6 ⟨v1, v2, v3, rfl, hP6, hB6⟩); (obtain ⟨⟨d1, e1, rfl⟩, ⟨d2, e2, rfl⟩, ⟨d3, e3, rfl⟩⟩ := hP6.forms); (have hW6 := below_size hW4 hB6); (have X26 := X24.below hB6 X24.lt); (have hl2 := X24.lt))
        | ((go_at_call 67); (with_reducible refine (s_l07Trivial _ _ _ (hI4.rd.below (below_alloc w4 _)) HL12.out).mono ?_); (rintro e w6 ⟨v1, v2, v3, rfl, hP6, hB6⟩); (obtain ⟨⟨d1, e1, rfl⟩, ⟨d2, e2, rfl⟩, ⟨d3, e3, rfl⟩⟩ := hP6.forms); (have hW6 := below_size (ballocD hW4 _) hB6); (have X26 := (X24.old (Obj.cells #[Value.slice none 0 0, Value.slice none 0 0, Value.slice none 0 0] 28)).below hB6 (X24.old (Obj.cells #[Value.slice none 0 0, Value.slice none 0 0, Value.slice none 0 0] 28)).lt); (have X46 := (Bx.new w4 (.slice none 0 0) (.slice none 0 0) (.slice none 0 0)).below hB6 (Bx.new w4 _ _ _).lt); (have m0 := X46.c0); (have m1 := X46.c1); (have m2 := X46.c2); (have z0 := X46.fr 0); (have z1 := X46.fr 1); (have z2 := X46.fr 2); (have hl4 : w4.heap.size ≤ w4.heap.size := Nat.le_refl _); (have hl2 := X24.lt))
        | ((go_at_call 67); (with_reducible refine (s_l07Trivial _ _ _ hI5.rd HL12.out).mono ?_); (rintro e w6 ⟨v1, v2, v3, rfl, hP6, hB6⟩); (obtain ⟨⟨d1, e1, rfl⟩, ⟨d2, e2, rfl⟩, ⟨d3, e3, rfl⟩⟩ := hP6.forms); (have hW6 := below_size hW5 hB6); (have X26 := X25.below hB6 X25.lt); (have X46 := X45.below hB6 X45.lt); (have m0 := X46.c0); (have m1 := X46.c1); (have m2 := X46.c2); (have z0 := X46.fr 0); (have z1 := X46.fr 1); (have z2 := X46.fr 2); (have hl4 := X45.lt); (have hl2 := X25.lt); (have hl3 := X23.lt)))
    all_goals (go_wp2_with fail; go_meet; first | exact ⟨_, rfl, by omega, BInv.mk1 (w := w2) X26 X46 hP6 (fun k hk => by have h1 := hk.1; (try simp at h1); exact ⟨by omega, by omega, by omega⟩) hW6 (by omega) (by omega)⟩ | exact ⟨_, rfl, X26.lt, BInv.mk2 X26 hP6 (fun k hk => by have h1 := hk.1; exact ⟨by omega, by omega⟩) hW6⟩)
  case rest =>
    obtain ⟨b4, rfl, hb4, hI⟩ := hcut
    have SH0 : Hid (Shp (a.n + b.n) (triv (a.orders ++ b.orders))) := by
      have := shp_triv (a.orders ++ b.orders)
      rw [List.length_append] at this
      exact this
    have d2 := below_cells hI.bel _ _ CA2.out
    have d3 := below_cells hI.bel _ _ CA3.out
    have hp0 : Hid (dpTo a 0 b.n 0 (triv (a.orders ++ b.orders)) 0 = triv (a.orders ++ b.orders)) := rfl
    rw [← hp0.out] at hI
    clear hp0
    go_wp2_with fail
    go_loopw [8] (fun i wr => ∃ j : Nat, j ≤ a.n ∧ i = .int .i64 j ∧ BInv w2 w2.heap.size b4 (dpTo a 0 b.n 0 (triv (a.orders ++ b.orders)) j) wr) (fun i _ => a.n - (intOf i).toNat)
    case atStart => exact ⟨0, Nat.zero_le _, rfl, hI⟩
    case round =>
      clear hI d2 d3
      obtain ⟨j, hj, rfl, hI⟩ := hrel
      have SHj : Hid (Shp (a.n + b.n) (dpTo a 0 b.n 0 (triv (a.orders ++ b.orders)) j)) := SH0.out.dpTo _ _ _ _ _
      by_cases hlt : j < a.n
      · obtain ⟨p1, o1, p2, c2, p3, c3, hBO⟩ := hI.open SHj.out.pl SHj.out.cl
        have HW := Lib.hid hBO.be
        obtain ⟨bz, oz, r, ez, hcz0, hrz0⟩ := HRA2.out.at (show j < a.powers.length by rw [hA.pl]; exact hlt)
        have hcz := below_cells HW.out _ _ hcz0
        have dP := below_cells HW.out _ _ CA2.out
        have HRZ := Lib.hid hrz0
        obtain ⟨bc, oc, rc, ec, hcc0, hrc0⟩ := HRA3.out.at (show j < a.conj.length by rw [hA.cl]; exact hlt)
        have HRC := Lib.hid hrc0
        have HCC := Lib.hid hcc0
        have HLP : Hid ((a.powers.getD j []).length = a.n) := hA.pv j hlt
        have HLC : Hid ((a.conj.getD j []).length = a.n - 1 - j) := by have := hA.rl j hlt; show _ = _; omega
        have hlc := HLC.out
        have hrow : Hid (∀ k, k < (a.conj.getD j []).length → ((a.conj.getD j []).getD k []).length = a.n) := fun k hk => hA.cv j k hlt (by rw [hA.rl j hlt] at hk; exact hk)
        have HP := Lib.hid (dpTo_succ a 0 b.n 0 (triv (a.orders ++ b.orders)) j)
        rw [Nat.zero_add] at HP
        subst ez ec
        generalize dpTo a 0 b.n 0 (triv (a.orders ++ b.orders)) j = Pj at *
        generalize a.powers.getD j [] = row at *
        generalize a.conj.getD j [] = L at *
        obtain ⟨ar, cr, rfl, _, _⟩ := HRZ.out.formN HLP.out
        obtain ⟨ac, cc, rfl, _, _⟩ := HRC.out.form
        obtain ⟨g, rfl, hset⟩ := hBO.set_pow (i := j) (by omega)
        have HSET := Lib.hid hset
        have m1 := hBO.x4.c1
        have hj0 : (0 : Int) ≤ (j : Int) := by omega
        have hj1 : (j : Int) < (a.n : Int) + (b.n : Int) := by omega
        clear hset hBO hI hcz0 hrz0 hcc0 hrc0
        go_upto_region 6 with (fail)
        go_cut [] (fun wx => BInv w2 w2.heap.size b4 (stP Pj j (padL 0 row b.n)) wx)
        case first =>
          go_region_law (go_simp; go_at_call 77; go_must (refine (s_shF _ row b.n _ (HRZ.out.below HW.out.drew) (by omega) (by rw [HLP.out]; omega)).mono ?_); rintro e w3 ⟨u3, rfl, hI3, hB3⟩; obtain ⟨hm1, ⟨r3, hr3⟩, hf3, hs3⟩ := HSET.out w3 (below_size (Below.refl _ _).drew hB3); obtain ⟨a9, c9, rfl, _, _⟩ := hI3.form; have hq := hs3 _ _ hI3)
          all_goals (go_wp2_with fail; go_meet; exact hq)
        case rest =>
          have hI := hcut
          have SHs : Hid (Shp (a.n + b.n) (stP Pj j (padL 0 row b.n))) := SHj.out.stP _ _
          have d3 := below_cells hI.bel _ _ CA3.out
          have d4 := below_cells hI.bel _ _ HCC.out
          generalize stP Pj j (padL 0 row b.n) = Q0 at *
          have hD0 : Hid (dcTo L 0 b.n j Q0 0 = Q0) := rfl
          rw [← hD0.out] at hI
          clear hcut hD0 m1 hcz dP HSET HW
          go_wp2_with fail
          go_loopw [9] (fun i wr2 => ∃ k : Nat, k ≤ L.length ∧ i = .int .i64 k ∧ BInv w2 w2.heap.size b4 (dcTo L 0 b.n j Q0 k) wr2) (fun i _ => L.length - (intOf i).toNat)
          case atStart => exact ⟨0, Nat.zero_le _, rfl, hI⟩
          case round =>
            clear hI d3 d4
            obtain ⟨k, hk, rfl, hI⟩ := hrel
            have d3 := below_cells hI.bel _ _ CA3.out
            have d4 := below_cells hI.bel _ _ HCC.out
            have SHk : Hid (Shp (a.n + b.n) (dcTo L 0 b.n j Q0 k)) := SHs.out.dcTo _ _ _ _ _
            by_cases hlk : k < L.length
            · obtain ⟨p1, o1, p2, c2, p3, c3, hBO⟩ := hI.open SHk.out.pl SHk.out.cl
              have HW := Lib.hid hBO.be
              obtain ⟨bx, ox, rx, ex, hcx0, hrx0⟩ := HRC.out.at hlk
              have hcx := below_cells HW.out _ _ hcx0
              have HRX := Lib.hid hrx0
              have HLX := Lib.hid (hrow.out k hlk)
              have HD := Lib.hid (dcTo_succ L 0 b.n j Q0 k)
              subst ex
              obtain ⟨ax, cx, rfl, _, _⟩ := HRX.out.formN HLX.out
              generalize L.getD k [] = xrow at *
              generalize dcTo L 0 b.n j Q0 k = Qk at *
              obtain ⟨g, g2, cap2, rfl, hset⟩ := hBO.set_conj (i := j) (j := k) (m := a.n + b.n - 1 - j) (by omega) (SHk.out.row j (by omega)) (by omega)
              have HSET := Lib.hid hset
              obtain ⟨m2, m3, _, _, _⟩ := hset _ (Below.refl _ _)
              have hk0 : (0 : Int) ≤ (k : Int) := by omega
              have hk1 : k < a.n + b.n - 1 - j := by omega
              clear hset hBO hI hcx0 hrx0
              go_wp2_with fail
              go_region_law (go_simp; go_at_call 77; go_must (refine (s_shF _ xrow b.n _ (HRX.out.below HW.out.drew) (by omega) (by rw [HLX.out]; omega)).mono ?_); rintro e w3 ⟨u3, rfl, hI3, hB3⟩; obtain ⟨hm1, hm2, ⟨r3, hr3⟩, hf3, hs3⟩ := HSET.out w3 (below_size (Below.refl _ _).drew hB3); obtain ⟨a9, c9, rfl, _, _⟩ := hI3.form; have hq := Lib.hid (hs3 _ _ hI3))
              all_goals
                go_wp2_with fail
                go_roundw
                case rel => exact ⟨k + 1, by omega, by go_num, by rw [HD.out]; exact hq.out⟩
                case measure => simp [intOf]; omega
            · obtain rfl : k = L.length := by omega
              go_wp2_with fail
              go_roundw
              case rel => exact ⟨j + 1, by omega, by go_num, by rw [HP.out]; exact hI⟩
              case measure => simp [intOf]; omega
      · obtain rfl : j = a.n := by omega
        have d2 := below_cells hI.bel _ _ CB2.out
        have hp1 : Hid (dpTo b a.n 0 a.n (dpTo a 0 b.n 0 (triv (a.orders ++ b.orders)) a.n) 0 = dpTo a 0 b.n 0 (triv (a.orders ++ b.orders)) a.n) := rfl
        have HDP : Hid (dirP a b = dpTo b a.n 0 a.n (dpTo a 0 b.n 0 (triv (a.orders ++ b.orders)) a.n) b.n) := rfl
        rw [← hp1.out] at hI
        generalize dpTo a 0 b.n 0 (triv (a.orders ++ b.orders)) a.n = A0 at *
        clear hp1 hj hlt
        go_wp2_with fail
        go_loopw [10] (fun i wt => ∃ j : Nat, j ≤ b.n ∧ i = .int .i64 j ∧ BInv w2 w2.heap.size b4 (dpTo b a.n 0 a.n A0 j) wt) (fun i _ => b.n - (intOf i).toNat)
        case atStart => exact ⟨0, Nat.zero_le _, rfl, hI⟩
        case round =>
          clear hI d2
          obtain ⟨j, hj, rfl, hI⟩ := hrel
          have SHj2 : Hid (Shp (a.n + b.n) (dpTo b a.n 0 a.n A0 j)) := SHj.out.dpTo _ _ _ _ _
          by_cases hlt : j < b.n
          · obtain ⟨p1, o1, p2, c2, p3, c3, hBO⟩ := hI.open SHj2.out.pl SHj2.out.cl
            have HW := Lib.hid hBO.be
            obtain ⟨bz, oz, r, ez, hcz0, hrz0⟩ := HRB2.out.at (show j < b.powers.length by rw [hB.pl]; exact hlt)
            have hcz := below_cells HW.out _ _ hcz0
            have dP := below_cells HW.out _ _ CB2.out
            have HRZ := Lib.hid hrz0
            obtain ⟨bc, oc, rc, ec, hcc0, hrc0⟩ := HRB3.out.at (show j < b.conj.length by rw [hB.cl]; exact hlt)
            have HRC := Lib.hid hrc0
            have HCC := Lib.hid hcc0
            have HLP : Hid ((b.powers.getD j []).length = b.n) := hB.pv j hlt
            have HLC : Hid ((b.conj.getD j []).length = b.n - 1 - j) := by have := hB.rl j hlt; show _ = _; omega
            have hlc := HLC.out
            have hrow : Hid (∀ k, k < (b.conj.getD j []).length → ((b.conj.getD j []).getD k []).length = b.n) := fun k hk => hB.cv j k hlt (by rw [hB.rl j hlt] at hk; exact hk)
            have HP := Lib.hid (dpTo_succ b a.n 0 a.n A0 j)
            subst ez ec
            generalize dpTo b a.n 0 a.n A0 j = Pj at *
            generalize b.powers.getD j [] = row at *
            generalize b.conj.getD j [] = L at *
            obtain ⟨ar, cr, rfl, _, _⟩ := HRZ.out.formN HLP.out
            obtain ⟨ac, cc, rfl, _, _⟩ := HRC.out.form
            obtain ⟨g, rfl, hset⟩ := hBO.set_pow (i := a.n + j) (by omega)
            have HSET := Lib.hid hset
            have m1 := hBO.x4.c1
            have hj0 : (0 : Int) ≤ (a.n : Int) + (j : Int) := by omega
            have hj1 : (a.n : Int) + (j : Int) < (a.n : Int) + (b.n : Int) := by omega
            have W1 : IntKind.i64.wrap ((a.n : Int) + (j : Int)) = (a.n : Int) + (j : Int) := IntWalk.i64_in _ (by omega)
            have T1 : ((a.n : Int) + (j : Int)).toNat = a.n + j := by omega
            clear hset hBO hI hcz0 hrz0 hcc0 hrc0
            go_upto_region 14 with (fail)
            go_cut [] (fun wx => BInv w2 w2.heap.size b4 (stP Pj (a.n + j) (padL a.n row 0)) wx)
            case first =>
              go_region_law (go_simp; go_at_call 77; go_must (refine (s_shB _ row a.n _ (HRZ.out.below HW.out.drew) (by omega) (by rw [HLP.out]; omega)).mono ?_); rintro e w3 ⟨u3, rfl, hI3, hB3⟩; obtain ⟨hm1, ⟨r3, hr3⟩, hf3, hs3⟩ := HSET.out w3 (below_size (Below.refl _ _).drew hB3); obtain ⟨a9, c9, rfl, _, _⟩ := hI3.form; have hq := hs3 _ _ hI3)
              all_goals (go_wp2_with fail; go_meet; exact hq)
            case rest =>
              have hI := hcut
              have SHs : Hid (Shp (a.n + b.n) (stP Pj (a.n + j) (padL a.n row 0))) := SHj2.out.stP _ _
              have d3 := below_cells hI.bel _ _ CB3.out
              have d4 := below_cells hI.bel _ _ HCC.out
              generalize stP Pj (a.n + j) (padL a.n row 0) = Q0 at *
              have hD0 : Hid (dcTo L a.n 0 (a.n + j) Q0 0 = Q0) := rfl
              rw [← hD0.out] at hI
              clear hcut hD0 m1 hcz dP HSET HW W1 T1 hj0 hj1
              go_wp2_with fail
              go_loopw [11] (fun i wr2 => ∃ k : Nat, k ≤ L.length ∧ i = .int .i64 k ∧ BInv w2 w2.heap.size b4 (dcTo L a.n 0 (a.n + j) Q0 k) wr2) (fun i _ => L.length - (intOf i).toNat)
              case atStart => exact ⟨0, Nat.zero_le _, rfl, hI⟩
              case round =>
                clear hI d3 d4
                obtain ⟨k, hk, rfl, hI⟩ := hrel
                have d3 := below_cells hI.bel _ _ CB3.out
                have d4 := below_cells hI.bel _ _ HCC.out
                have SHk : Hid (Shp (a.n + b.n) (dcTo L a.n 0 (a.n + j) Q0 k)) := SHs.out.dcTo _ _ _ _ _
                by_cases hlk : k < L.length
                · obtain ⟨p1, o1, p2, c2, p3, c3, hBO⟩ := hI.open SHk.out.pl SHk.out.cl
                  have HW := Lib.hid hBO.be
                  obtain ⟨bx, ox, rx, ex, hcx0, hrx0⟩ := HRC.out.at hlk
                  have hcx := below_cells HW.out _ _ hcx0
                  have HRX := Lib.hid hrx0
                  have HLX := Lib.hid (hrow.out k hlk)
                  have HD := Lib.hid (dcTo_succ L a.n 0 (a.n + j) Q0 k)
                  subst ex
                  obtain ⟨ax, cx, rfl, _, _⟩ := HRX.out.formN HLX.out
                  generalize L.getD k [] = xrow at *
                  generalize dcTo L a.n 0 (a.n + j) Q0 k = Qk at *
                  obtain ⟨g, g2, cap2, rfl, hset⟩ := hBO.set_conj (i := a.n + j) (j := k) (m := b.n - 1 - j) (by omega) (by rw [SHk.out.row (a.n + j) (by omega)]; omega) (by omega)
                  have HSET := Lib.hid hset
                  obtain ⟨m2, m3, _, _, _⟩ := hset _ (Below.refl _ _)
                  have hk0 : (0 : Int) ≤ (k : Int) := by omega
                  have hk1 : k < b.n - 1 - j := by omega
                  have hj0 : (0 : Int) ≤ (a.n : Int) + (j : Int) := by omega
                  have hj1 : (a.n : Int) + (j : Int) < (a.n : Int) + (b.n : Int) := by omega
                  have W1 : IntKind.i64.wrap ((a.n : Int) + (j : Int)) = (a.n : Int) + (j : Int) := IntWalk.i64_in _ (by omega)
                  have T1 : ((a.n : Int) + (j : Int)).toNat = a.n + j := by omega
                  clear hset hBO hI hcx0 hrx0
                  go_wp2_with fail
                  go_region_law (go_simp; go_at_call 77; go_must (refine (s_shB _ xrow a.n _ (HRX.out.below HW.out.drew) (by omega) (by rw [HLX.out]; omega)).mono ?_); rintro e w3 ⟨u3, rfl, hI3, hB3⟩; obtain ⟨hm1, hm2, ⟨r3, hr3⟩, hf3, hs3⟩ := HSET.out w3 (below_size (Below.refl _ _).drew hB3); obtain ⟨a9, c9, rfl, _, _⟩ := hI3.form; have hq := Lib.hid (hs3 _ _ hI3))
                  all_goals
                    clear W1 T1
                    go_wp2_with fail
                    go_roundw
                    case rel => exact ⟨k + 1, by omega, by go_num, by rw [HD.out]; exact hq.out⟩
                    case measure => simp [intOf]; omega
                · obtain rfl : k = L.length := by omega
                  go_wp2_with fail
                  go_roundw
                  case rel => exact ⟨j + 1, by omega, by go_num, by rw [HP.out]; exact hI⟩
                  case measure => simp [intOf]; omega
          · obtain rfl : j = b.n := by omega
            obtain ⟨p1, o1, p2, c2, p3, c3, hBO⟩ := hI.open SHj2.out.pl SHj2.out.cl
            have HF := Lib.hid (hBO.out (Nat.le_refl _))
            rw [SHj2.out.ol] at HF
            have n0 := hBO.x4.c0
            have n1 := hBO.x4.c1
            have n2 := hBO.x4.c2
            have q0 := hBO.x2.c0
            have q1 := hBO.x2.c1
            have q2 := hBO.x2.c2
            have f0 := hBO.x2.fr 0
            have f1 := hBO.x2.fr 1
            have f2 := hBO.x2.fr 2
            rw [SHj2.out.ol] at n0
            clear hBO hI
            go_wp2_with fail
            refine bodyPost_ret (v := .agg #[Value.slice p1 (a.n + b.n) o1, Value.slice p2 (a.n + b.n) c2, Value.slice p3 (a.n + b.n) c3]) (by simp [results, Try.results66, go_sem, q0, q1, q2]) rfl ?_
            rw [HDP.out]
            exact ⟨_, _, _, rfl, OP.sub HF.out.1 (fun k hk hh => ⟨Nat.le_trans HZ2.out hh.1, hk⟩), HG2.out.trans (HF.out.2.mono HZ2.out)⟩
end Go.Proofs.Ytiikoappknejgaa
namespace Go.Proofs.Ytiikoappknejgaa
set_option linter.unusedVariables false
set_option linter.unusedSimpArgs false
set_option maxRecDepth 100000
open Go.RowKit

def abC (os : List Int) : Int := if os.length ≤ 6 then (if primesB os then (if prodS os ≤ 729 then 0 else 3) else 2) else 3
theorem abC_len {os : List Int} (h : ¬ os.length ≤ 6) : abC os = 3 := if_neg h
theorem abC_prime {os : List Int} (h : os.length ≤ 6) (h2 : primesB os = false) : abC os = 2 := by simp [abC, h, h2]
theorem abC_big {os : List Int} (h : os.length ≤ 6) (h2 : primesB os = true) (h3 : ¬ prodS os ≤ 729) : abC os = 3 := by simp [abC, h, h2, h3]
theorem abC_ok {os : List Int} (h : os.length ≤ 6) (h2 : primesB os = true) (h3 : prodS os ≤ 729) : abC os = 0 := by simp [abC, h, h2, h3]
theorem prodO_le7 (l : List Int) : primesB l = true → prodO l ≤ 7 ^ l.length := by
  refine snoc_ind (P := fun l => primesB l = true → prodO l ≤ 7 ^ l.length) ?_ ?_ l
  · intro _; simp [prodO]
  · intro l o ih h
    rw [primesB_snoc, Bool.and_eq_true] at h
    have h1 := ih h.1
    have ho := primeB_true.1 h.2
    have h0 := (prod_both l h.1).1
    rw [prodO_snoc, List.length_append, List.length_cons, List.length_nil, Nat.zero_add, Int.pow_succ]
    generalize prodO l = x at *
    generalize (7 : Int) ^ l.length = y at *
    rcases ho with rfl | rfl | rfl | rfl <;> omega
theorem prodO_take_bd {os : List Int} {j : Nat} (h : primesB (os.take j) = true) (hl : os.length ≤ 6) : 1 ≤ prodO (os.take j) ∧ prodO (os.take j) ≤ 117649 := by
  have h1 := prodO_le7 _ h
  have h2 : (os.take j).length ≤ 6 := by rw [List.length_take]; omega
  have h3 : (7 : Int) ^ (os.take j).length ≤ 7 ^ 6 := by
    generalize (os.take j).length = n at h2
    match n, h2 with
    | 0, _ => decide
    | 1, _ => decide
    | 2, _ => decide
    | 3, _ => decide
    | 4, _ => decide
    | 5, _ => decide
    | 6, _ => decide
  have h4 := (prod_both _ h).1
  omega
--== size of the trivial one
theorem triv_size (os : List Int) (h : os.length ≤ 6) : psize (triv os) ≤ 1000000000 := by
  have h1 : ∀ n j, (cat (trivPow n j)).length = n * j := by
    intro n j
    induction j with
    | zero => simp [cat, trivPow]
    | succ j ih => rw [trivPow_succ]; unfold cat at *; simp [zrow, ih, Nat.mul_succ]
  have h2 : ∀ n i m, (cat (trivRow n i m)).length = n * m := by
    intro n i m
    induction m with
    | zero => simp [cat, trivRow]
    | succ m ih => rw [trivRow_succ]; unfold cat at *; simp [unitL_length, ih, Nat.mul_succ]
  have h3 : ∀ n j, n ≤ 6 → tot size2 (trivConj n j) ≤ 42 * j := by
    intro n j hn
    induction j with
    | zero => simp [tot, trivConj]
    | succ j ih =>
      have e : size2 (trivRow n j (n - 1 - j)) ≤ 42 := by
        unfold size2; rw [h2, trivRow_len]
        have : n * (n - 1 - j) ≤ 6 * 6 := Nat.mul_le_mul hn (by omega)
        omega
      rw [trivConj_succ]; unfold tot at *; simp only [List.map_append, List.sum_append, List.map_cons, List.map_nil, List.sum_cons, List.sum_nil]; omega
  have h4 := h3 os.length os.length h
  have h5 : os.length * os.length ≤ 6 * 6 := Nat.mul_le_mul h h
  unfold psize size2 size3 triv trivP
  simp only
  rw [h1, trivPow_len, trivConj_len]; omega
theorem noP_size : psize noP ≤ 1000000000 := by simp [psize, noP, size2, size3, cat, tot]
theorem abC_six {os : List Int} (h : abC os = 0) : os.length ≤ 6 := by
  by_cases h6 : os.length ≤ 6
  · exact h6
  · rw [abC_len h6] at h; omega
theorem len_AbelianPresentation (os : List Int) : psize (okP (abC os) (triv os)) ≤ 1000000000 := by
  by_cases h : abC os = 0
  · rw [h]; exact triv_size os (abC_six h)
  · rw [okP_ne _ h]; exact noP_size
end Go.Proofs.Ytiikoappknejgaa
namespace Go.Proofs.Ytiikoappknejgaa
set_option linter.unusedVariables false
set_option linter.unusedSimpArgs false
set_option maxRecDepth 100000
open Go.RowKit

--== factors
def dv : Nat → Nat → Nat → Nat → Nat × Nat
  | 0, n, _, c => (n, c)
  | f + 1, n, d, c => if n % d = 0 then dv f (n / d) d (c + 1) else (n, c)
def dnext (n d : Nat) : Nat := if n < d * d then n else d
def facI : Nat → Nat → Nat → List Int → List Int → List Int × List Int
  | 0, _, _, ps, cs => (ps, cs)
  | f + 1, n, d, ps, cs => if 1 < n then
      (if 0 < (dv 10 n (dnext n d) 0).2 then facI f (dv 10 n (dnext n d) 0).1 (dnext n d + 1) (ps ++ [((dnext n d : Nat) : Int)]) (cs ++ [(((dv 10 n (dnext n d) 0).2 : Nat) : Int)])
       else facI f (dv 10 n (dnext n d) 0).1 (dnext n d + 1) ps cs)
    else (ps, cs)
theorem facI_one (f d : Nat) (ps cs : List Int) : facI f 1 d ps cs = (ps, cs) := by cases f <;> simp [facI]
theorem div_pos' {n d : Nat} (hn : 1 ≤ n) (h : n % d = 0) : 1 ≤ n / d := by
  rcases Nat.eq_zero_or_pos (n / d) with h0 | h0
  · have := Nat.div_add_mod n d; rw [h0, h, Nat.mul_zero] at this; omega
  · exact h0
theorem div_half {n d : Nat} (hd : 2 ≤ d) : n / d ≤ n / 2 := Nat.div_le_div_left hd (by omega)
theorem dv_ge (f : Nat) : ∀ n d c, 1 ≤ n → 2 ≤ d → 1 ≤ (dv f n d c).1 ∧ (dv f n d c).1 ≤ n := by
  induction f with
  | zero => intro n d c h _; exact ⟨h, Nat.le_refl _⟩
  | succ f ih =>
    intro n d c h hd
    unfold dv
    split
    · next h1 => have := ih (n / d) d (c + 1) (div_pos' h h1) hd; exact ⟨this.1, Nat.le_trans this.2 (Nat.div_le_self _ _)⟩
    · exact ⟨h, Nat.le_refl _⟩
theorem dv_self (n : Nat) (h : 2 ≤ n) : dv 10 n n 0 = (1, 1) := by
  rw [dv, if_pos (Nat.mod_self n), Nat.div_self (by omega), dv, if_neg (by rw [Nat.mod_eq_of_lt (by omega)]; omega)]
def dvS : Nat → Nat → Nat → List Int → Nat × List Int
  | 0, n, _, o => (n, o)
  | f + 1, n, d, o => if n % d = 0 then dvS f (n / d) d (o ++ [(d : Int)]) else (n, o)
def facS : Nat → Nat → Nat → List Int → Nat × List Int
  | 0, n, _, o => (n, o)
  | f + 1, n, d, o => if primeB (d : Int) = true then facS f (dvS 10 n d o).1 (d + 1) (dvS 10 n d o).2 else facS f n (d + 1) o
def flatTo (ps cs : List Int) (j : Nat) : List Int := (List.range j).flatMap fun i => rep [ps.getD i 0] (cs.getD i 0).toNat
theorem flatTo_succ (ps cs : List Int) (j : Nat) : flatTo ps cs (j + 1) = flatTo ps cs j ++ rep [ps.getD j 0] (cs.getD j 0).toNat := by simp [flatTo, List.range_succ]
def facs (n : Nat) : List Int × List Int := facI 40 n 2 [] []
def facT (n : Nat) : Nat × List Int := facS 6 n 2 []
def facOK (n : Nat) : Bool := (decide ((facT n).1 = 1) == primesB (facs n).1) && ((primesB (facs n).1 == false || decide (flatTo (facs n).1 (facs n).2 (facs n).1.length = (facT n).2)) && (decide ((facs n).1.length = (facs n).2.length) && (decide ((facs n).1.length ≤ 10) && (decide ((facT n).2.length ≤ 9) && (facs n).2.all fun c => decide (0 ≤ c ∧ c ≤ 9)))))
theorem facOK_all : ∀ n, n < 730 → 1 ≤ n → facOK n = true := by decide +kernel
def mFac (n d : Int) : Nat := if n ≤ 1 then 0 else 1001 - d.toNat
theorem mFac_lt {n d m e : Int} (h : 1 < n) (h2 : m ≤ 1 ∨ (d < e ∧ 0 ≤ d)) (h3 : d ≤ 1000) : mFac m e < mFac n d := by
  unfold mFac
  rw [if_neg (show ¬ n ≤ 1 by omega)]
  split <;> omega
def pow2 (g : Nat) : Nat := 2 ^ g
theorem Grew.ints' {w w' : World} {v v' u : Value} {B : Nat} {xs : List Int} (h : Grew w w' v v') (hu : Ints w B u xs) (hd : ∀ g, u.ownBlock = some g → ¬ v.ownBlock = some g) : Ints w' B u xs := Grew.own h hu hd
theorem Grew.apart {w w' : World} {v v' u : Value} {B : Nat} {xs : List Int} (h : Grew w w' v v') (hu : Ints w B u xs) (hd : ∀ g, u.ownBlock = some g → ¬ v.ownBlock = some g) : ∀ g, u.ownBlock = some g → ¬ v'.ownBlock = some g := by
  intro g hg hg'
  rcases h.moved g hg' with hm | hm
  · exact hd g hg hm
  · have := (hu.lt g hg).2; omega
theorem sq_lt {n d : Nat} (h : n < d * d) (hd : d ≤ 28) : (n : Int) < (d : Int) * (d : Int) := by exact_mod_cast h
theorem sq_ge {n d : Nat} (h : ¬ n < d * d) : (d : Int) * (d : Int) ≤ (n : Int) := by exact_mod_cast Nat.le_of_not_lt h
theorem sq_bd {d : Nat} (hd : d ≤ 28) : 0 ≤ (d : Int) * (d : Int) ∧ (d : Int) * (d : Int) ≤ 784 := by
  have : d * d ≤ 28 * 28 := Nat.mul_le_mul hd hd
  exact ⟨by exact_mod_cast Nat.zero_le _, by exact_mod_cast this⟩
theorem sq_small {n d : Nat} (h : ¬ n < d * d) (hn : n ≤ 729) : d ≤ 27 := by
  apply Classical.byContradiction
  intro hd
  have : 28 * 28 ≤ d * d := Nat.mul_le_mul (by omega) (by omega)
  omega
def Ret2Ints (w : World) (xs ys : List Int) (e : Ending) (w' : World) : Prop := ∃ v1 v2, e = .returned (.tuple #[v1, v2]) ∧ Ints w' w.heap.size v1 xs ∧ Ints w' w.heap.size v2 ys ∧ Below w.heap.size w w'
--== spec.l07Factors
def RetIB (w : World) (xs : List Int) (b : Bool) (e : Ending) (w' : World) : Prop := ∃ v, e = .returned (.tuple #[v, .bool b]) ∧ Ints w' w.heap.size v xs ∧ Below w.heap.size w w'
set_option maxHeartbeats 2000000 in
theorem s_l07Factors (n0 : Nat) (w : World) (h0 : 1 ≤ n0) (h1 : n0 ≤ 729) :
    Calls Try.prog 79 #[.int .i64 n0] w (RetIB w (facT n0).2 (decide ((facT n0).1 = 1))) := by
  obtain ⟨i0, hi, hz0, hz1, hz2⟩ := info_parts Try.info2
  have E0 := Ints.empty w
  have g0 := below_alloc w (.cells #[] 2)
  go_enter Try.func79, Try.ntmps79
  go_wp2_with fail
  go_loopw [0, 4, 5] (fun nv u dv wr => ∃ n d : Nat, nv = .int .i64 n ∧ dv = .int .i64 d ∧ 1 ≤ n ∧ n ≤ n0 ∧ 2 ≤ d ∧ d ≤ 8 ∧ ∃ f os, f + d = 8 ∧ facS f n d os = facT n0 ∧ os.length ≤ 1000 + 10 * d ∧ Ints wr w.heap.size u os ∧ Below w.heap.size w wr) (fun _ _ dv _ => 8 - (intOf dv).toNat)
  case atStart => exact ⟨n0, 2, rfl, rfl, h0, Nat.le_refl _, Nat.le_refl _, by omega, 6, [], rfl, rfl, by simp, E0, g0⟩
  case round =>
    obtain ⟨n, d, rfl, rfl, hn1, hn2, hd1, hd2, f, os, hfd, hF', hos, hI, hB⟩ := hrel
    have hF := Lib.hid hF'
    have hS := hB.size
    clear hF' E0 g0
    by_cases hlt : d ≤ 7
    · obtain ⟨f, rfl⟩ : ∃ k, f = k + 1 := ⟨f - 1, by omega⟩
      have hd0 : (1 : Int) ≤ (d : Int) := by omega
      have hdt : decide ((d : Int) ≤ 7) = true := by simp; omega
      by_cases hp : primeB (d : Int) = true
      · go_wp2_with fail
        go_loopw [0, 4] (fun nv u wr2 => ∃ m g R, nv = .int .i64 ((m : Nat) : Int) ∧ 1 ≤ m ∧ m ≤ n ∧ m < pow2 g ∧ dvS g m d R = dvS 10 n d os ∧ R.length + g ≤ 1010 + 10 * d ∧ g ≤ 10 ∧ Ints wr2 w.heap.size u R ∧ Below w.heap.size w wr2) (fun nv _ _ => (intOf nv).toNat)
        case atStart => exact ⟨n, 10, os, rfl, hn1, Nat.le_refl _, by rw [pow2]; omega, rfl, by omega, by omega, hI, hB⟩
        case round =>
          clear hI hB hS
          obtain ⟨m, g, R, rfl, hm1, hmn, hmg, hdv, hR, hg, hI, hB⟩ := hrel
          have hS := hB.size
          by_cases hz : m % d = 0
          · have hz' : ((m : Int) % (d : Int)) = 0 := by rw [← Int.natCast_emod, hz]; rfl
            have hq0 : (m : Int) / (d : Int) = ((m / d : Nat) : Int) := (Int.natCast_ediv m d).symm
            have hq1 := div_pos' hm1 hz
            have hq2 := div_half (n := m) (d := d) (by omega)
            have HG : Hid (∃ g', g = g' + 1 ∧ m / d < pow2 g' ∧ dvS g' (m / d) d (R ++ [(d : Int)]) = dvS 10 n d os) := by
              cases g with
              | zero => simp [pow2] at hmg; omega
              | succ g' => exact ⟨g', rfl, by rw [pow2, Nat.pow_succ] at hmg; rw [pow2]; omega, by rw [← hdv]; conv => rhs; rw [dvS, if_pos hz]⟩
            clear hmg hdv
            generalize m / d = q at *
            go_wp2_with (first
              | (go_at_call 43; refine (s_l01Prime _ _).mono ?_; rintro e w' ⟨rfl, rfl⟩; rw [hp])
              | (at_builtin; refine wp_app1 _ rfl _ _ rfl w.heap.size i0 Try.underlying24 hi hz0 hz1 hz2 _ _ rfl hI (d : Int) rfl (by omega) (by omega) ?_))
            intro v' w1 hI1 hG1 hB1
            go_wp2_with fail
            obtain ⟨g', rfl, hg1, hg2⟩ := HG.out
            go_roundw
            case rel => exact ⟨q, g', _, by go_num, hq1, by omega, hg1, hg2, by simp; omega, by omega, hI1, hB.trans hB1⟩
            case measure => simp [intOf]; omega
          · have hz' : ¬ ((m : Int) % (d : Int)) = 0 := by rw [← Int.natCast_emod]; exact fun h => hz (by exact_mod_cast h)
            have HV : Hid (dvS 10 n d os = (m, R)) := by
              show _ = _
              rw [← hdv]
              cases g with
              | zero => rfl
              | succ g' => rw [dvS, if_neg hz]
            clear hdv hmg hz
            go_wp2_with (go_at_call 43; refine (s_l01Prime _ _).mono ?_; rintro e w' ⟨rfl, rfl⟩; rw [hp])
            go_roundw
            case rel => exact ⟨m, d + 1, by go_num, by go_num, hm1, by omega, by omega, by omega, f, R, by omega, by have h := hF.out; rw [facS, if_pos hp, HV.out] at h; exact h, by omega, hI, hB⟩
            case measure => simp [intOf]; omega
      · have hp' : primeB (d : Int) = false := by simpa using hp
        go_wp2_with fail
        try rw [hdt]
        go_loopw [0, 4] (fun nv u wr2 => nv = .int .i64 (n : Int) ∧ Ints wr2 w.heap.size u os ∧ Below w.heap.size w wr2) (fun nv _ _ => (intOf nv).toNat)
        case atStart => exact ⟨rfl, hI, hB⟩
        case round =>
          clear hI hB hS
          obtain ⟨rfl, hI, hB⟩ := hrel
          go_wp2_with (go_at_call 43; refine (s_l01Prime _ _).mono ?_; rintro e w' ⟨rfl, rfl⟩; rw [hp'])
          go_roundw
          case rel => exact ⟨n, d + 1, by go_num, by go_num, hn1, by omega, by omega, by omega, f, os, by omega, by have h := hF.out; rw [facS, if_neg hp] at h; exact h, by omega, hI, hB⟩
          case measure => simp [intOf]; omega
    · obtain rfl : d = 8 := by omega
      obtain rfl : f = 0 := by omega
      go_wp2_with fail
      refine bodyPost_ret (v := .tuple #[_, .bool (decide ((n : Int) = 1))]) (by simp [results, Try.results79, go_sem]; exact ⟨rfl, rfl⟩) rfl ?_
      rw [← hF.out]
      have e : (decide ((n : Int) = 1)) = decide (n = 1) := by simp only [decide_eq_decide]; omega
      exact ⟨_, by rw [e]; rfl, hI, hB⟩
end Go.Proofs.Ytiikoappknejgaa
