/-
  Plain lists: the product of the primary parts of a group is the group.
-/
import Derived.Test.YtnedihpppbjmdaaGreatDoorPrc
namespace Go.Proofs.YtnedihpppbjmdaaGreatDoor
set_option linter.unusedVariables false
set_option linter.unusedSimpArgs false
set_option maxRecDepth 100000

theorem prm_dvd_prodN {p : Nat} (hp : Prm p) : ∀ {l : List Nat}, p ∣ prodN l → ∃ x ∈ l, p ∣ x
  | [], h => (hp.ndvd1 h).elim
  | a :: l, h => by
    simp only [prodN, List.foldr_cons] at h
    rcases hp.mul h with h1 | h1
    · exact ⟨a, by simp, h1⟩
    · obtain ⟨x, hx, h2⟩ := prm_dvd_prodN hp (l := l) h1
      exact ⟨x, List.mem_cons_of_mem _ hx, h2⟩
theorem prod_dvd {g : Nat → Nat} {n : Nat} : ∀ (ps : List Nat), ps.Nodup → (∀ p ∈ ps, g p = 1 ∨ (Prm p ∧ (∃ e, g p = p ^ e) ∧ g p ∣ n)) → prodN (ps.map g) ∣ n
  | [], _, _ => Nat.one_dvd _
  | a :: ps, hn, h => by
    obtain ⟨h1, h2⟩ := List.nodup_cons.1 hn
    have ih := prod_dvd ps h2 fun p hp => h p (List.mem_cons_of_mem _ hp)
    have e : prodN ((a :: ps).map g) = g a * prodN (ps.map g) := rfl
    rw [e]
    rcases h a (by simp) with h3 | ⟨hp, ⟨k, h3⟩, h4⟩
    · rw [h3, Nat.one_mul]; exact ih
    · refine Nat.Coprime.mul_dvd_of_dvd_of_dvd ?_ h4 ih
      rw [h3]
      refine Nat.Coprime.pow_left k (hp.cop fun hd => ?_)
      obtain ⟨x, hx, hd2⟩ := prm_dvd_prodN hp hd
      obtain ⟨q, hq, rfl⟩ := List.mem_map.1 hx
      rcases h q (List.mem_cons_of_mem _ hq) with h5 | ⟨hq2, ⟨k2, h5⟩, _⟩
      · rw [h5] at hd2; exact hp.ndvd1 hd2
      · rw [h5] at hd2
        exact h1 (hp.pow hq2 hd2 ▸ hq)
theorem maxN_lt {l : List Nat} {k : Nat} (h : k < maxN l) : ∃ x ∈ l, k < x := by
  induction l with
  | nil => simp [maxN] at h
  | cons a l ih =>
    simp only [maxN, List.foldr_cons] at h ih
    by_cases h1 : k < a
    · exact ⟨a, by simp, h1⟩
    · obtain ⟨x, hx, h2⟩ := ih (by omega)
      exact ⟨x, List.mem_cons_of_mem _ hx, h2⟩
theorem mem_getD1 {C : List Nat} {x : Nat} (h : x ∈ C) : ∃ k, k < C.length ∧ x = C.getD k 1 := by
  obtain ⟨k, hk, rfl⟩ := List.getElem_of_mem h
  exact ⟨k, hk, by rw [List.getD_eq_getElem?_getD, List.getElem?_eq_getElem hk]; rfl⟩
theorem col_two {S : List Nat} (hS : ∀ q ∈ S, PPw q) (ps : List Nat) : ∀ x ∈ foldU (ps.map fun p => (grp S p).reverse), 2 ≤ x := by
  intro x hx
  obtain ⟨k, hk, rfl⟩ := mem_getD1 hx
  rw [foldU_length] at hk
  obtain ⟨m, hm, hkm⟩ := maxN_lt hk
  obtain ⟨l, hl, rfl⟩ := List.mem_map.1 hm
  rw [foldU_getD]
  have hge : ∀ l' ∈ ps.map (fun p => (grp S p).reverse), ∀ y ∈ l', 2 ≤ y := fun l' hl' y hy => by
    obtain ⟨p', _, e⟩ := List.mem_map.1 hl'
    rw [← e] at hy
    exact (hS _ (grp_mem (List.mem_reverse.1 hy))).two
  generalize ps.map (fun p => (grp S p).reverse) = Ls at *
  have h2 : 2 ≤ l.getD k 1 := by
    rw [List.getD_eq_getElem?_getD, List.getElem?_eq_getElem hkm]
    exact hge l hl _ (List.getElem_mem hkm)
  have h3 := dvd_prodN (l := Ls.map fun l => l.getD k 1) (x := l.getD k 1) (List.mem_map.2 ⟨l, hl, rfl⟩)
  have h4 : 1 ≤ prodN (Ls.map fun l => l.getD k 1) := prodN_pos fun y hy => by
    obtain ⟨l', hl', e⟩ := List.mem_map.1 hy
    rw [← e]
    exact getD_ge1 (fun q hq => by have := hge l' hl' q hq; omega) k
  exact Nat.le_trans h2 (Nat.le_of_dvd h4 h3)
theorem colS_two {S : List Nat} (hS : ∀ q ∈ S, PPw q) : ∀ x ∈ colS S, 2 ≤ x := col_two hS allP
/-- a group is the product of its parts -/
theorem col_parts {fa : List Nat} (ha : Chn fa) : (colS (parts fa)).reverse = fa := by
  have hS := parts_ppw ha.1
  have h : colS (parts fa) = fa.reverse := by
    refine ext_getD1 (colS_two hS) (fun y hy => (ha.1 y (List.mem_reverse.1 hy)).1) fun j => ?_
    refine Nat.dvd_antisymm ?_ (at_le_col ha hS (fun p f => Nat.le_refl _) j)
    unfold colS
    rw [foldU_getD, List.map_map]
    refine prod_dvd allP allP_nodup fun p _ => ?_
    by_cases hp : Prm p
    · right
      have e : (grp (parts fa) p).reverse.getD j 1 = ppt p (fa.reverse.getD j 1) := grp_at ha hp j
      have hpos := atD_pos ha.1 j
      refine ⟨hp, ?_, ?_⟩
      · obtain ⟨k, _, h1, _⟩ := ppt_spec hp.1 hpos
        exact ⟨k, e.trans h1⟩
      · show (grp (parts fa) p).reverse.getD j 1 ∣ _
        rw [e]; exact ppt_dvd hp.1 hpos
    · left
      show (grp (parts fa) p).reverse.getD j 1 = 1
      rw [grp_none ha.1 hp]; rfl
  rw [h, List.reverse_reverse]
end Go.Proofs.YtnedihpppbjmdaaGreatDoor
