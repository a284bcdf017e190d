/-
  The relators of a valid presentation are words over its generators (plain part).
-/
import Derived.Test.YthnpndheaailjaaRel
import Derived.Test.YthnpndheaailjaaFre
namespace Go.Proofs.Ythnpndheaailjaa
set_option linter.unusedVariables false
set_option linter.unusedSimpArgs false
set_option maxRecDepth 100000
open Go.RowKit

theorem nwTo_len6 {xs : List Int} (h : ∀ j, j < xs.length → 0 ≤ xs.getD j 0 ∧ xs.getD j 0 ≤ 6) (i : Nat) (hi : i ≤ xs.length) : (nwTo xs i).length ≤ 6 * i := by
  induction i with
  | zero => simp [nwTo]
  | succ i ih =>
    have h1 := h i (by omega)
    rw [nwTo_succ xs i (xs.getD i 0).toNat (by omega), List.length_append, List.length_replicate]
    have := ih (by omega)
    omega
theorem nw_word {p : Pres} (hV : ValidP p) {v : List Int} {z : Nat} (h : tailB p.orders v z = true) : wordB p.n (nwL v) = true ∧ (nwL v).length ≤ 36 := by
  obtain ⟨hl, h1⟩ := tailB_true h
  have hn : v.length = p.n := hl
  have hn6 := hV.n6
  have h6 : ∀ j, j < v.length → 0 ≤ v.getD j 0 ∧ v.getD j 0 ≤ 6 := fun j hj => by
    have a := h1 j (by omega)
    have b := primesB_at (ordB_true hV.ord).1 (getD_mem (xs := p.orders) (k := j) (by omega))
    omega
  have hlen : (nwL v).length ≤ 36 := by
    have := nwTo_len6 h6 v.length (Nat.le_refl _)
    rw [nwTo_all] at this
    omega
  refine ⟨wordB_iff.2 ⟨List.all_eq_true.2 fun x hx => ?_, by omega⟩, hlen⟩
  unfold nwL at hx
  obtain ⟨k, hk, rfl⟩ := List.mem_map.1 hx
  have := mem_lw hk
  have h0 : (((k : Int) + 1) != 0) = true := by simp; omega
  rw [letB, h0, Bool.true_and]
  exact inB_true.2 (by omega)
theorem rel1_word {p : Pres} (hV : ValidP p) {i : Nat} (hi : i < p.n) : wordB p.n (rel1 p i) = true := by
  obtain ⟨w1, w2⟩ := nw_word hV (rowB_true (hV.row i hi)).1
  have h1 := wordB_iff.1 (wordB_inv w1)
  have hr := hV.rk i hi
  refine wordB_iff.2 ⟨?_, ?_⟩
  · unfold rel1
    rw [List.all_append, h1.1, Bool.and_true]
    refine List.all_eq_true.2 fun x hx => ?_
    have := List.eq_of_mem_replicate hx
    subst this
    have h0 : (((i : Int) + 1) != 0) = true := by simp; omega
    rw [letB, h0, Bool.true_and]
    exact inB_true.2 (by omega)
  · rw [rel1, List.length_append, List.length_replicate, invW_length]; omega
theorem rel2_word {p : Pres} (hV : ValidP p) {i k : Nat} (hi : i < p.n) (hk : k < (p.conj.getD i []).length) : wordB p.n (rel2 p i k) = true := by
  obtain ⟨w1, w2⟩ := nw_word hV ((rowB_true (hV.row i hi)).2.2 k hk)
  have h1 := wordB_iff.1 (wordB_inv w1)
  have hc := hV.clen i hi
  refine wordB_iff.2 ⟨?_, ?_⟩
  · unfold rel2
    rw [List.all_append, h1.1, Bool.and_true]
    refine List.all_eq_true.2 fun x hx => ?_
    simp only [List.mem_cons, List.not_mem_nil, or_false] at hx
    have h0 : (x != 0) = true := by simp; omega
    rw [letB, h0, Bool.true_and]
    exact inB_true.2 (by omega)
  · rw [rel2, List.length_append, invW_length]
    simp only [List.length_cons, List.length_nil]
    omega
theorem rel_word {p : Pres} (hV : ValidP p) {x : List Int} (hx : x ∈ relL p) : wordB p.n x = true := by
  unfold relL at hx
  rcases List.mem_append.1 hx with h | h
  · unfold rels1 at h
    obtain ⟨i, hi, rfl⟩ := List.mem_map.1 h
    exact rel1_word hV (List.mem_range.1 hi)
  · unfold rels2s at h
    obtain ⟨i, hi, h⟩ := List.mem_flatMap.1 h
    unfold rels2 at h
    obtain ⟨k, hk, rfl⟩ := List.mem_map.1 h
    exact rel2_word hV (List.mem_range.1 hi) (List.mem_range.1 hk)
theorem rel_at {p : Pres} (hV : ValidP p) {j : Nat} (hj : j < (relL p).length) : wordB p.n ((relL p).getD j []) = true := rel_word hV (getL_mem hj)
theorem rel_none {p : Pres} (h : p.n = 0) : relL p = [] := by simp [relL, rels1, rels2s, h]
theorem relL_len {p : Pres} (hV : ValidP p) : (relL p).length ≤ 42 := by
  have h1 := rels2s_len hV p.n (Nat.le_refl _)
  have h2 := hV.n6
  unfold relL
  rw [List.length_append, rels1_len]
  omega
end Go.Proofs.Ythnpndheaailjaa
