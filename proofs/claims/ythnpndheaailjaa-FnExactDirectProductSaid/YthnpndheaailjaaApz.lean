/-
  'append(v, make([]int64, k)...)' on a row that the call owns; vectors with zeros ahead and behind.
-/
import Derived.Test.YthnpndheaailjaaDst
import Derived.Test.YthnpndheaailjaaCut
import Derived.Lib.AppendZerosOnto
import Derived.Deep.RegionLaw
import Derived.Deep.RegionHeld3
namespace Go.Proofs.Ythnpndheaailjaa
set_option linter.unusedVariables false
set_option linter.unusedSimpArgs false
set_option maxRecDepth 100000
open Go.RowKit

--== zeros
theorem zeroRow (k : Nat) : (List.replicate k (0 : Int)).map (Value.int .i64) = List.replicate k (.int .i64 0) := by simp
theorem Ints.grownZ (w : World) (xs ys : List Int) (m cap : Nat) (h1 : xs.length + ys.length ≤ cap) (hc : cap ≤ maxLen) (hm : m = cap - (xs.length + ys.length)) :
    Ints (w.drew.alloc (.cells ((xs.map (Value.int .i64)).toArray ++ (ys.map (Value.int .i64)).toArray ++ Builtin.zeroCells (Value.int .i64 0).cells m) 2)) w.heap.size (.slice (some ⟨w.heap.size, 0, none⟩) (xs.length + ys.length) cap) (xs ++ ys) := by
  refine ⟨by simp, .inr ⟨w.heap.size, cap, _, by simp, Nat.le_refl _, heap_alloc_new w.drew _, by simpa using h1, hc, ?_, ?_⟩⟩
  · simp only [Array.size_append, List.size_toArray, size_zeroCells, List.length_map, show (Value.int .i64 0).cells.size = 1 from rfl]; omega
  · rw [List.map_append, Array.toList_append, Array.toList_append, List.length_append, Nat.mul_one]
    rw [List.take_left' (by simp)]
theorem run_appZ (w : World) (ty : TypeId) (B : Nat) (v : Value) (xs : List Int) (hown : Ints w B v xs) (k : Nat) (hn : xs.length ≤ 1000000) (hk : k ≤ 1000000) (hB : B ≤ w.heap.size) :
    ∃ v' w', (Builtin.append_ #[22, 3] ty #[v, .int .i64 (k : Int)]).run Try.prog w = .ok v' w' ∧ Ints w' B v' (xs ++ List.replicate k 0) ∧ Below B w w' := by
  obtain ⟨i0, hi, hz0, hz1, hz2⟩ := info_parts Try.info2
  have hw : IntKind.i64.wrap (k : Int) = k := by rw [IntKind.wrap_i64]; omega
  have hneg : ¬ ((k : Int) < 0) := by omega
  have h48i : ¬ (281474976710656 < (k : Int) * 8) := by omega
  by_cases h0 : k = 0
  · subst h0
    have hw0 : IntKind.i64.wrap 0 = 0 := by decide
    refine ⟨v, w, ?_, by simpa using hown, Below.refl _ _⟩
    rcases hown.2 with ⟨rfl, _⟩ | ⟨g, cap, cur, rfl, _, _, hnc, _⟩
    · simp [Builtin.append_, run_underlying Try.underlying22, run_underlying Try.underlying3, sizeOf, typeInfo, hi, hz1, hz2, asInt, asIntOf, hw0]
    · simp [Builtin.append_, run_underlying Try.underlying22, run_underlying Try.underlying3, sizeOf, typeInfo, hi, hz1, hz2, asInt, asIntOf, hw0, hnc, storeCells]
  rcases hown.2 with ⟨rfl, hx0⟩ | ⟨g, cap, cur, rfl, hb, hg, hnc, hcm, hcs, htake⟩
  · have hx : xs = [] := List.eq_nil_of_length_eq_zero hx0
    subst hx
    have hr := Lib.run_append_nil_zeros (P := Try.prog) w 22 3 ty 2 i0 (.int .i64 0) .i64 .i64 Try.underlying22 Try.underlying3 hi hz0 k (by omega) (by omega) (by omega) (by rw [hz2]; omega)
    have hge := grownCap_ge w k 0 2
    have hcm : grownCap w k 0 2 ≤ maxLen := grownCap_le_maxLen w k 0 2 (by unfold maxLen; omega)
    refine ⟨_, _, hr, ?_, ⟨rfl, rfl, rfl, by simp, fun j hj => Below.heap_alloc w.drew _ j (Nat.lt_of_lt_of_le hj hB)⟩⟩
    refine Ints.mono ?_ hB
    refine ⟨by simp, .inr ⟨w.heap.size, _, _, by simp, Nat.le_refl _, heap_alloc_new w.drew _, by simpa using hge, hcm, ?_, ?_⟩⟩
    · simp only [Array.size_append, size_zeroCells, show (Value.int .i64 0).cells.size = 1 from rfl]; omega
    · rw [Array.toList_append, zeroInts]
      simp
  · have hxl : xs.length = (xs.map (Value.int .i64)).length := by simp
    by_cases hroom : xs.length + k ≤ cap
    · have hcs' : cur.size = cap := by simpa using hcs
      have hst := run_storeCells_at Try.prog g xs.length 2 (List.replicate k (Value.int .i64 0)) 0 cur w hg (by simp; omega) (fun u hu => by rw [List.eq_of_mem_replicate hu]; rfl)
      simp only [Nat.add_zero] at hst
      have hzc : (Builtin.zeroCells (Value.int .i64 0).cells k).toList = List.replicate k (Value.int .i64 0) := by rw [zeroInts, zeroRow]
      have hks : ¬ (k * i0.size = 0) := by rw [hz1]; omega
      refine ⟨.slice (some ⟨g, 0, none⟩) (xs.length + k) cap, w.setRow g (cur.toList.take xs.length ++ List.replicate k (Value.int .i64 0) ++ cur.toList.drop (xs.length + k)).toArray, ?_, ?_, ?_⟩
      · simp [Builtin.append_, run_underlying Try.underlying22, run_underlying Try.underlying3, sizeOf, typeInfo, zeroValue, hi, hz0, hz1, hz2, asInt, asIntOf, hw, hneg, h48i, hroom, hks, h0, Addr.add_lit, hzc, hst]
      · have hl : (xs ++ List.replicate k (0 : Int)).length = xs.length + k := by simp
        have ht : cur.toList.take xs.length = xs.map (Value.int .i64) := by simpa using htake
        unfold Ints
        rw [hl, ht, List.map_append, zeroRow]
        refine ⟨by simp, .inr ⟨g, cap, _, rfl, hb, setRow_heap w g cur _ 2 _ hg, hroom, hcm, ?_, ?_⟩⟩
        · simp only [List.size_toArray, List.length_append, List.length_map, List.length_replicate, List.length_drop, Array.length_toList]
          omega
        · rw [Nat.mul_one, List.take_left' (by simp)]
      · exact ⟨rfl, rfl, rfl, by simp, fun j hj => setRow_other w g j _ (by omega)⟩
    · have holds : ∀ j u, (xs.map (Value.int .i64))[j]? = some u → w.drew.cell? ((⟨g, 0, none⟩ : Addr).add j) = some u := by
        have := World.ownsRow.cells (g := g) hown rfl
        simpa using this
      have hf := run_firstCells_some (P := Try.prog) w.drew i0.size xs.length ⟨g, 0, none⟩ xs.length cap (xs.map (Value.int .i64)) (by rw [hz1]; simp) holds
      have hns := nextslicecap_le (need := xs.length + k) (old := cap) (by omega)
      have hr := Lib.run_append_grow_zeros (P := Try.prog) w 22 3 ty 2 i0 (.int .i64 0) .i64 .i64 Try.underlying22 Try.underlying3 hi hz0 (some ⟨g, 0, none⟩) xs.length cap (xs.map (Value.int .i64)) hf k (by omega) (by rw [hz1]; omega) (by omega) (by omega) (by rw [hz2]; omega) (by rw [hz2]; omega)
      have hge := grownCap_ge w (xs.length + k) cap 2
      have hcm2 : grownCap w (xs.length + k) cap 2 ≤ maxLen := grownCap_le_maxLen w (xs.length + k) cap 2 (by unfold maxLen; omega)
      have hzc : Builtin.zeroCells (Value.int .i64 0).cells k = ((List.replicate k (0 : Int)).map (Value.int .i64)).toArray := by
        rw [← zeroInts]
      rw [hzc] at hr
      have hG := Ints.grownZ w xs (List.replicate k 0) _ (grownCap w (xs.length + k) cap 2) (by simpa using hge) hcm2 rfl
      simp only [List.length_replicate] at hG
      exact ⟨_, _, hr, hG.mono hB, ⟨rfl, rfl, rfl, by simp, fun j hj => Below.heap_alloc w.drew _ j (Nat.lt_of_lt_of_le hj hB)⟩⟩
theorem two_made (w : World) (n m : Nat) (hn : n ≤ 1000) (hm : m ≤ 1000) :
    Rd ((w.alloc (.cells (madeCells #[.int .i64 0] n) 2)).alloc (.cells (madeCells #[.int .i64 0] m) 2)) (.slice (some ⟨w.heap.size, 0, none⟩) n n) (List.replicate n 0) ∧
    Rd ((w.alloc (.cells (madeCells #[.int .i64 0] n) 2)).alloc (.cells (madeCells #[.int .i64 0] m) 2)) (.slice (some ⟨w.heap.size + 1, 0, none⟩) m m) (List.replicate m 0) := by
  have h1 := (made_own w n (by omega)).rd.below (below_alloc _ (.cells (madeCells #[.int .i64 0] m) 2))
  have h2 := (made_own (w.alloc (.cells (madeCells #[.int .i64 0] n) 2)) m (by omega)).rd
  rw [show (w.alloc (.cells (madeCells #[.int .i64 0] n) 2)).heap.size = w.heap.size + 1 by simp] at h2
  exact ⟨h1, h2⟩
/-- the argument of Concat, the row ahead made first -/
theorem pad_lit (w : World) (x y : Nat) {ao : Option Addr} {cap : Nat} (xs : List Int) (hv : Rd w (.slice ao xs.length cap) xs) (hx : x ≤ 1000) (hy : y ≤ 1000) :
    Rd2 ((((w.alloc (.cells (madeCells #[.int .i64 0] x) 2)).alloc (.cells (madeCells #[.int .i64 0] y) 2)).alloc (.cells #[.slice (some ⟨w.heap.size, 0, none⟩) x x, .slice ao xs.length cap, .slice (some ⟨w.heap.size + 1, 0, none⟩) y y] 22)).drew) (.slice (some ⟨w.heap.size + 1 + 1, 0, none⟩) 3 3) [List.replicate x 0, xs, List.replicate y 0] ∧
    Below w.heap.size w ((((w.alloc (.cells (madeCells #[.int .i64 0] x) 2)).alloc (.cells (madeCells #[.int .i64 0] y) 2)).alloc (.cells #[.slice (some ⟨w.heap.size, 0, none⟩) x x, .slice ao xs.length cap, .slice (some ⟨w.heap.size + 1, 0, none⟩) y y] 22)).drew) := by
  obtain ⟨h1, h2⟩ := two_made w x y hx hy
  have h3 := hv.below (below_allocs2 w (.cells (madeCells #[.int .i64 0] x) 2) (.cells (madeCells #[.int .i64 0] y) 2))
  have hl := Rd2.lit3 22 _ _ _ _ _ _ h1 h3 h2
  rw [show ((w.alloc (.cells (madeCells #[.int .i64 0] x) 2)).alloc (.cells (madeCells #[.int .i64 0] y) 2)).heap.size = w.heap.size + 1 + 1 by simp] at hl
  exact ⟨hl, (below_allocs3 w _ _ _).drew⟩
/-- the row behind made first -/
theorem pad_lit' (w : World) (x y : Nat) {ao : Option Addr} {cap : Nat} (xs : List Int) (hv : Rd w (.slice ao xs.length cap) xs) (hx : x ≤ 1000) (hy : y ≤ 1000) :
    Rd2 ((((w.alloc (.cells (madeCells #[.int .i64 0] y) 2)).alloc (.cells (madeCells #[.int .i64 0] x) 2)).alloc (.cells #[.slice (some ⟨w.heap.size + 1, 0, none⟩) x x, .slice ao xs.length cap, .slice (some ⟨w.heap.size, 0, none⟩) y y] 22)).drew) (.slice (some ⟨w.heap.size + 1 + 1, 0, none⟩) 3 3) [List.replicate x 0, xs, List.replicate y 0] ∧
    Below w.heap.size w ((((w.alloc (.cells (madeCells #[.int .i64 0] y) 2)).alloc (.cells (madeCells #[.int .i64 0] x) 2)).alloc (.cells #[.slice (some ⟨w.heap.size + 1, 0, none⟩) x x, .slice ao xs.length cap, .slice (some ⟨w.heap.size, 0, none⟩) y y] 22)).drew) := by
  obtain ⟨h1, h2⟩ := two_made w y x hy hx
  have h3 := hv.below (below_allocs2 w (.cells (madeCells #[.int .i64 0] y) 2) (.cells (madeCells #[.int .i64 0] x) 2))
  have hl := Rd2.lit3 22 _ _ _ _ _ _ h2 h3 h1
  rw [show ((w.alloc (.cells (madeCells #[.int .i64 0] y) 2)).alloc (.cells (madeCells #[.int .i64 0] x) 2)).heap.size = w.heap.size + 1 + 1 by simp] at hl
  exact ⟨hl, (below_allocs3 w _ _ _).drew⟩
--== impl.padded
set_option maxHeartbeats 4000000 in
theorem i_padded (v : Value) (xs : List Int) (x y : Nat) (w : World) (hv : Rd w v xs) (hx : x ≤ 1000) (hy : y ≤ 1000) (hl : xs.length ≤ 1000) :
    Calls Try.prog 139 #[v, .int .i64 x, .int .i64 y] w (RetInts w (padL x xs y)) := by
  have hmx := run_makeInts x (by omega)
  have hmy := run_makeInts y (by omega)
  have HV := Lib.hid hv
  have HC := Lib.hid (padL_cat x xs y)
  have HLEN : Hid ((cat [List.replicate x 0, xs, List.replicate y 0]).length ≤ 100000000) := by show _ ≤ _; rw [padL_cat, padL_len]; omega
  obtain ⟨ao, cap, rfl, _, _⟩ := hv.form
  have HL1 := Lib.hid (pad_lit w x y xs hv (by omega) (by omega))
  have HL2 := Lib.hid (pad_lit' w x y xs hv (by omega) (by omega))
  clear hv
  go_enter Try.func139, Try.ntmps139
  go_wp2_with fail
  go_region_law (first
    | (go_simp; go_at_call 114; (with_reducible refine (f_Concat _ _ _ HL1.out.1 HLEN.out).mono ?_); rintro e w5 ⟨u5, rfl, hI5, hB5⟩; have hB6 := below_size HL1.out.2 hB5; have hI6 := hI5.mono HL1.out.2.size)
    | (go_simp; go_at_call 114; (with_reducible refine (f_Concat _ _ _ HL2.out.1 HLEN.out).mono ?_); rintro e w5 ⟨u5, rfl, hI5, hB5⟩; have hB6 := below_size HL2.out.2 hB5; have hI6 := hI5.mono HL2.out.2.size))
  all_goals
    rw [HC.out] at hI6
    go_wp2_with fail
    go_ret
    exact ⟨_, rfl, hI6, hB6⟩
--== spec.l07Shift
set_option maxHeartbeats 2000000 in
theorem s_l07Shift (v : Value) (xs : List Int) (x y : Nat) (w : World) (hv : Rd w v xs) (hx : x ≤ 1000) (hy : y ≤ 1000) (hl : xs.length ≤ 1000) :
    Calls Try.prog 138 #[.int .i64 x, v, .int .i64 y] w (RetInts w (padL x xs y)) := by
  obtain ⟨i0, hi, hz0, hz1, hz2⟩ := info_parts Try.info2
  have HV := Lib.hid hv
  obtain ⟨ao, cap, rfl, _, _⟩ := hv.form
  clear hv
  go_enter Try.func138, Try.ntmps138
  go_wp2_with (at_make; refine wp_mkInts _ rfl _ _ rfl i0 Try.underlying22 hi hz0 hz1 hz2 _ _ _ _ x rfl rfl rfl rfl (by omega) ?_)
  intro w1 hI hB hlt
  go_wp2_with (at_builtin; refine wp_appN _ rfl _ _ rfl w.heap.size i0 Try.underlying22 hi hz0 hz1 hz2 _ (List.replicate x 0) rfl hI _ xs rfl (HV.out.below hB) (by simp; omega) (by omega) (by omega) ?_)
  intro v2 w2 hI2 hG2 hB2
  have hB02 := hB.trans hB2
  obtain ⟨v3, w3, hr, hI3, hB3⟩ := run_appZ w2 22 w.heap.size v2 _ hI2 y (by simp; omega) (by omega) hB02.size
  go_wp2_with (at_builtin; refine Lib.wpList_append_run _ rfl _ _ _ _ rfl _ _ rfl rfl _ _ hr ?_)
  go_ret
  exact ⟨_, rfl, hI3, hB02.trans hB3⟩
end Go.Proofs.Ythnpndheaailjaa
