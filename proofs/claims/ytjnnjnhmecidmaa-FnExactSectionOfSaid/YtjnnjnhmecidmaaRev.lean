/-
  slices.Reverse in place.
-/
import Derived.Test.YtjnnjnhmecidmaaLeaf
namespace Go.Proofs.Ytjnnjnhmecidmaa
set_option linter.unusedVariables false
set_option linter.unusedSimpArgs false
set_option maxRecDepth 100000
open Go.RowKit

def revTo (xs : List Int) (j : Nat) : List Int := (List.range xs.length).map fun t => if t < j ∨ xs.length ≤ t + j then xs.getD (xs.length - 1 - t) 0 else xs.getD t 0
theorem revTo_length (xs : List Int) (j : Nat) : (revTo xs j).length = xs.length := by simp [revTo]
theorem revTo_getD (xs : List Int) (j t : Nat) (h : t < xs.length) : (revTo xs j).getD t 0 = if t < j ∨ xs.length ≤ t + j then xs.getD (xs.length - 1 - t) 0 else xs.getD t 0 := by
  unfold revTo
  rw [List.getD_eq_getElem?_getD, List.getElem?_map, List.getElem?_range h]
  rfl
theorem ext_getD {xs ys : List Int} (hl : xs.length = ys.length) (h : ∀ j, j < xs.length → xs.getD j 0 = ys.getD j 0) : xs = ys := all_eq hl h
theorem getD_set (xs : List Int) (i t : Nat) (y : Int) (h : t < xs.length) : (xs.set i y).getD t 0 = if i = t then y else xs.getD t 0 := by
  rw [List.getD_eq_getElem?_getD, List.getElem?_set]
  by_cases e : i = t
  · subst e; simp [h]
  · simp [e, List.getD_eq_getElem?_getD]
theorem getD_reverse (xs : List Int) (t : Nat) (h : t < xs.length) : xs.reverse.getD t 0 = xs.getD (xs.length - 1 - t) 0 := by
  rw [List.getD_eq_getElem?_getD, List.getElem?_reverse h, List.getD_eq_getElem?_getD]
theorem revTo_zero (xs : List Int) : revTo xs 0 = xs := by
  refine ext_getD (revTo_length _ _) fun t ht => ?_
  rw [revTo_length] at ht
  rw [revTo_getD _ _ _ ht, if_neg (by omega)]
theorem revTo_end (xs : List Int) (j : Nat) (h : xs.length ≤ 2 * j + 1) : revTo xs j = xs.reverse := by
  refine ext_getD (by rw [revTo_length, List.length_reverse]) fun t ht => ?_
  rw [revTo_length] at ht
  rw [revTo_getD _ _ _ ht, getD_reverse _ _ ht]
  by_cases h1 : t < j ∨ xs.length ≤ t + j
  · rw [if_pos h1]
  · rw [if_neg h1]
    congr 1
    omega
theorem revTo_step (xs : List Int) (j : Nat) (h : 2 * j + 1 < xs.length) :
    ((revTo xs j).set j (xs.getD (xs.length - 1 - j) 0)).set (xs.length - 1 - j) (xs.getD j 0) = revTo xs (j + 1) := by
  refine ext_getD (by simp [revTo_length]) fun t ht => ?_
  rw [List.length_set, List.length_set, revTo_length] at ht
  rw [getD_set _ _ _ _ (by rw [List.length_set, revTo_length]; exact ht), getD_set _ _ _ _ (by rw [revTo_length]; exact ht), revTo_getD _ _ _ ht, revTo_getD _ _ _ ht]
  by_cases e1 : xs.length - 1 - j = t
  · rw [if_pos e1, if_pos (by omega)]
    congr 1; omega
  · rw [if_neg e1]
    by_cases e2 : j = t
    · rw [if_pos e2, if_pos (by omega), e2]
    · rw [if_neg e2]
      by_cases h1 : t < j ∨ xs.length ≤ t + j
      · rw [if_pos h1, if_pos (by omega)]
      · rw [if_neg h1, if_neg (by omega)]

--== slices.Reverse
set_option maxHeartbeats 1000000 in
theorem f_Reverse (B : Nat) (v : Value) (xs : List Int) (w : World) (hv : Ints w B v xs) (hs : xs.length ≤ 1000000000) :
    Calls Try.prog 184 #[v] w fun e w' => e = .returned (.tuple #[]) ∧ Ints w' B v xs.reverse ∧ Grew w w' v v ∧ w'.heap.size = w.heap.size := by
  obtain ⟨ao, cap, rfl, hc1, hc2, hA⟩ := hv.form'
  go_enter Try.func184, Try.ntmps184
  go_wp2
  go_loopw [2, 3] (fun i k wr => ∃ j : Nat, 2 * j ≤ xs.length ∧ i = .int .i64 j ∧ k = .int .i64 ((xs.length : Int) - 1 - j) ∧ Ints wr B (.slice ao xs.length cap) (revTo xs j) ∧ Grew w wr (.slice ao xs.length cap) (.slice ao xs.length cap) ∧ wr.heap.size = w.heap.size) (fun i _ _ => xs.length - (intOf i).toNat)
  case atStart => exact ⟨0, by omega, rfl, by go_num, by rw [revTo_zero]; exact hv, Grew.refl _ _, rfl⟩
  case round =>
    clear hv
    obtain ⟨j, hj, rfl, rfl, hI, hG, hS⟩ := hrel
    have hS' := Lib.hid hS
    clear hS
    by_cases hlt : 2 * j + 1 < xs.length
    · rcases hA with hA | ⟨g, rfl⟩
      · omega
      obtain ⟨hcell, hfz⟩ := hI.cell (revTo_length _ _).symm j (by omega)
      obtain ⟨hcell2, hfz2⟩ := hI.cell (revTo_length _ _).symm (xs.length - 1 - j) (by omega)
      rw [revTo_getD _ _ _ (by omega), if_neg (by omega)] at hcell hcell2
      obtain ⟨h1, h2⟩ := hI.set (revTo_length _ _).symm j (xs.getD (xs.length - 1 - j) 0)
      obtain ⟨h3, h4⟩ := h1.set (by rw [List.length_set, revTo_length]) (xs.length - 1 - j) (xs.getD j 0)
      rw [revTo_step xs j hlt] at h3
      have hG2 := hG.trans ((Grew.of_chg (n := xs.length) (c := cap) h2).trans (Grew.of_chg (n := xs.length) (c := cap) h4))
      clear hI h1 h2 h4 hG
      generalize xs.getD j 0 = x at *
      generalize xs.getD (xs.length - 1 - j) 0 = y at *
      have hlt' : (j : Int) < (xs.length : Int) - 1 - j := by omega
      go_wp2
      go_region
      go_wp2
      go_roundw
      case rel => exact ⟨j + 1, by omega, by go_num, by go_num, h3, ⟨⟨hG2.grown.os, hG2.grown.tape, hG2.grown.output, hG2.grown.size, hG2.grown.block⟩, hG2.moved⟩, by simpa using hS'.out⟩
      case measure => simp [intOf]; omega
    · rw [revTo_end xs j (by omega)] at hI
      have hge : ¬ ((j : Int) < (xs.length : Int) - 1 - j) := by omega
      go_wp2
      go_end0
      exact ⟨rfl, hI, hG, hS'.out⟩
end Go.Proofs.Ytjnnjnhmecidmaa
