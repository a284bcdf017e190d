/-
  What makes a presentation valid, as a truth value; and what follows from it.
-/
import Derived.Test.YthnpndheaailjaaLeaf
import Derived.Test.YthnpndheaailjaaExt
namespace Go.Proofs.Ythnpndheaailjaa
set_option linter.unusedVariables false
set_option linter.unusedSimpArgs false
set_option maxRecDepth 100000

def primeB (n : Int) : Bool := n == 2 || (n == 3 || (n == 5 || n == 7))
theorem primeB_true {n : Int} : primeB n = true ↔ n = 2 ∨ n = 3 ∨ n = 5 ∨ n = 7 := by simp [primeB]
theorem primeB_false {n : Int} : primeB n = false ↔ ¬ n = 2 ∧ ¬ n = 3 ∧ ¬ n = 5 ∧ ¬ n = 7 := by simp [primeB]

def prodO (os : List Int) : Int := os.foldl (fun out o => out * o) 1
def prodS (os : List Int) : Int := os.foldl (fun out o => if out ≤ 729 then out * o else out) 1
theorem prodO_snoc (os : List Int) (o : Int) : prodO (os ++ [o]) = prodO os * o := by simp [prodO]
theorem prodS_snoc (os : List Int) (o : Int) : prodS (os ++ [o]) = if prodS os ≤ 729 then prodS os * o else prodS os := by unfold prodS; rw [List.foldl_append]; rfl
def primesB (os : List Int) : Bool := os.all primeB
theorem primesB_at {os : List Int} (h : primesB os = true) {o : Int} (ho : o ∈ os) : 2 ≤ o ∧ o ≤ 7 := by
  have := primeB_true.1 (List.all_eq_true.1 h o ho); omega
theorem primesB_snoc {os : List Int} {o : Int} : primesB (os ++ [o]) = (primesB os && primeB o) := by simp [primesB]
theorem snoc_ind {P : List Int → Prop} (h0 : P []) (hs : ∀ l o, P l → P (l ++ [o])) (l : List Int) : P l := by
  have : ∀ n (l : List Int), l.length = n → P l := by
    intro n
    induction n with
    | zero => intro l hl; rw [List.eq_nil_of_length_eq_zero hl]; exact h0
    | succ n ih =>
      intro l hl
      have hne : l ≠ [] := by intro h; rw [h] at hl; simp at hl
      rw [← List.dropLast_concat_getLast hne]
      exact hs _ _ (ih _ (by simp; omega))
  exact this _ l rfl
theorem prod_both (os : List Int) : primesB os = true → 1 ≤ prodO os ∧ 1 ≤ prodS os ∧ prodS os ≤ 5103 ∧ (prodS os = prodO os ∨ 729 < prodS os ∧ 729 < prodO os) := by
  refine snoc_ind (P := fun os => primesB os = true → 1 ≤ prodO os ∧ 1 ≤ prodS os ∧ prodS os ≤ 5103 ∧ (prodS os = prodO os ∨ 729 < prodS os ∧ 729 < prodO os)) ?_ ?_ os
  · intro _; simp [prodO, prodS]
  · intro l o ih h
    rw [primesB_snoc, Bool.and_eq_true] at h
    obtain ⟨a1, a2, a3, a4⟩ := ih h.1
    have ho := primeB_true.1 h.2
    rw [prodO_snoc, prodS_snoc]
    generalize prodO l = x at *
    generalize prodS l = y at *
    split
    · rcases ho with rfl | rfl | rfl | rfl <;> omega
    · rcases ho with rfl | rfl | rfl | rfl <;> omega
theorem prodO_take {os : List Int} (h : primesB os = true) (k : Nat) : prodO (os.take k) ≤ prodO os := by
  have : ∀ l : List Int, primesB l = true → ∀ a : Int, 1 ≤ a → a ≤ l.foldl (fun out o => out * o) a := by
    intro l
    induction l with
    | nil => intro _ a _; exact Int.le_refl _
    | cons o l ih =>
      intro hl a ha
      have ho := primesB_at hl (o := o) List.mem_cons_self
      have hl' : primesB l = true := by simp only [primesB, List.all_cons, Bool.and_eq_true] at hl ⊢; exact hl.2
      have h1 : a * 1 ≤ a * o := Int.mul_le_mul_of_nonneg_left (by omega) (by omega)
      have := ih hl' (a * o) (by omega)
      simp only [List.foldl_cons]
      omega
  have hd : os = os.take k ++ os.drop k := (List.take_append_drop k os).symm
  have hp : primesB (os.take k) = true ∧ primesB (os.drop k) = true := by
    have h' := h
    rw [hd, primesB, List.all_append, Bool.and_eq_true] at h'
    exact h'
  have e : prodO os = (os.drop k).foldl (fun out o => out * o) (prodO (os.take k)) := by
    conv => lhs; rw [hd]
    unfold prodO
    rw [List.foldl_append]
  rw [e]
  exact this _ hp.2 _ (prod_both _ hp.1).1
def ordB (os : List Int) : Bool := primesB os && decide (prodS os ≤ 729)
theorem ordB_true {os : List Int} (h : ordB os = true) : primesB os = true ∧ prodS os = prodO os ∧ 1 ≤ prodO os ∧ prodO os ≤ 729 := by
  simp only [ordB, Bool.and_eq_true, decide_eq_true_eq] at h
  obtain ⟨a1, a2, a3, a4⟩ := prod_both os h.1
  exact ⟨h.1, by omega, a1, by omega⟩
theorem ordB_of {os : List Int} (h : primesB os = true) (h2 : prodO os ≤ 729) : ordB os = true := by
  obtain ⟨a1, a2, a3, a4⟩ := prod_both os h
  simp only [ordB, Bool.and_eq_true, decide_eq_true_eq]
  exact ⟨h, by omega⟩
theorem ordB_no1 {os : List Int} {k : Nat} (hk : k < os.length) (h : primeB (os.getD k 0) = false) : primesB os = false := by
  rw [primesB, List.all_eq_false]; exact ⟨os.getD k 0, getD_mem hk, by rw [h]; exact Bool.false_ne_true⟩
theorem ordB_no2 {os : List Int} (h : primesB os = false) : ordB os = false := by simp [ordB, h]
theorem ordB_no3 {os : List Int} {k : Nat} (h : 729 < prodO (os.take k)) : ordB os = false := by
  by_cases hp : primesB os = true
  · have := prodO_take hp k
    obtain ⟨a1, a2, a3, a4⟩ := prod_both os hp
    simp only [ordB, Bool.and_eq_false_iff, decide_eq_false_iff_not]
    exact .inr (by omega)
  · exact ordB_no2 (by simpa using hp)
theorem ordB_no4 {os : List Int} (h : 729 < prodS os) : ordB os = false := by
  simp only [ordB, Bool.and_eq_false_iff, decide_eq_false_iff_not]
  exact .inr (by omega)

/-! ### exponent vectors -/
def expAt (os v : List Int) (z i : Nat) : Bool := inB (v.getD i 0) 0 (os.getD i 0 - 1) && (decide (z ≤ i) || v.getD i 0 == 0)
def tailB (os v : List Int) (z : Nat) : Bool := decide (v.length = os.length) && (List.range v.length).all (expAt os v z)
theorem tailB_no {os v : List Int} {z : Nat} (h : ¬ v.length = os.length) : tailB os v z = false := by simp [tailB, h]
theorem tailB_no2 {os v : List Int} {z i : Nat} (hi : i < v.length) (h : expAt os v z i = false) : tailB os v z = false := by
  rw [tailB, Bool.and_eq_false_iff]
  exact .inr (List.all_eq_false.2 ⟨i, List.mem_range.2 hi, by simp [h]⟩)
theorem tailB_of {os v : List Int} {z : Nat} (hl : v.length = os.length) (h : ∀ i, i < v.length → expAt os v z i = true) : tailB os v z = true := by
  rw [tailB, Bool.and_eq_true]
  exact ⟨by simpa using hl, List.all_eq_true.2 fun i hi => h i (List.mem_range.1 hi)⟩
theorem expAt_true {os v : List Int} {z i : Nat} : expAt os v z i = true ↔ (0 ≤ v.getD i 0 ∧ v.getD i 0 ≤ os.getD i 0 - 1) ∧ (z ≤ i ∨ v.getD i 0 = 0) := by
  simp [expAt, inB_true]
theorem tailB_true {os v : List Int} {z : Nat} (h : tailB os v z = true) : v.length = os.length ∧ ∀ i, i < os.length → (0 ≤ v.getD i 0 ∧ v.getD i 0 < os.getD i 0) ∧ (i < z → v.getD i 0 = 0) := by
  rw [tailB, Bool.and_eq_true] at h
  have hl : v.length = os.length := by simpa using h.1
  refine ⟨hl, fun i hi => ?_⟩
  have := expAt_true.1 (List.all_eq_true.1 h.2 i (List.mem_range.2 (by omega)))
  omega
def zeroB (v : List Int) : Bool := v.all (· == 0)
theorem zeroB_true {v : List Int} : zeroB v = true ↔ ∀ i, i < v.length → v.getD i 0 = 0 := by
  constructor
  · intro h i hi; have := List.all_eq_true.1 h _ (getD_mem hi); simpa using this
  · intro h; refine List.all_eq_true.2 fun x hx => ?_
    obtain ⟨k, hk, rfl⟩ := mem_getD hx
    simpa using h k hk
theorem zeroB_false {v : List Int} {i : Nat} (hi : i < v.length) (h : v.getD i 0 ≠ 0) : zeroB v = false := by
  rw [zeroB, List.all_eq_false]; exact ⟨v.getD i 0, getD_mem hi, by simpa using h⟩
theorem take_getD (v : List Int) (z i : Nat) (h : i < z) : (v.take z).getD i 0 = v.getD i 0 := by
  simp [List.getD_eq_getElem?_getD, List.getElem?_take, h]
theorem tailB_split {os v : List Int} {z : Nat} : tailB os v z = (tailB os v 0 && zeroB (v.take z)) := by
  rw [Bool.eq_iff_iff, Bool.and_eq_true]
  constructor
  · intro h
    obtain ⟨hl, h1⟩ := tailB_true h
    refine ⟨tailB_of hl fun i hi => expAt_true.2 ⟨by have := h1 i (by omega); omega, .inl (Nat.zero_le _)⟩, zeroB_true.2 fun i hi => ?_⟩
    rw [List.length_take] at hi
    rw [take_getD _ _ _ (by omega)]
    exact (h1 i (by omega)).2 (by omega)
  · rintro ⟨h, h2⟩
    obtain ⟨hl, h1⟩ := tailB_true h
    refine tailB_of hl fun i hi => expAt_true.2 ⟨by have := h1 i (by omega); omega, ?_⟩
    by_cases hz : z ≤ i
    · exact .inl hz
    · have := zeroB_true.1 h2 i (by rw [List.length_take]; omega)
      rw [take_getD _ _ _ (by omega)] at this
      exact .inr this
theorem tailB_VI {p : Pres} {v : List Int} {z : Nat} (hz : z ≤ p.n) : tailB p.orders v z = true ↔ VI p z v := by
  constructor
  · intro h
    obtain ⟨hl, h1⟩ := tailB_true h
    exact ⟨hl, fun k hk => (h1 k hk).1.1, fun k hk => (h1 k hk).1.2, fun k hk => (h1 k (by unfold Pres.n at hz; omega)).2 hk⟩
  · intro h
    refine tailB_of h.len fun i hi => expAt_true.2 ?_
    rw [h.len] at hi
    have a := h.lo i hi
    have b := h.hi i hi
    unfold Pres.r at b
    refine ⟨by omega, ?_⟩
    by_cases hz : z ≤ i
    · exact .inl hz
    · exact .inr (h.zero i (by omega))

/-! ### valid presentations -/
def rowB (p : Pres) (i : Nat) : Bool := tailB p.orders (p.P i) (i + 1) && (decide ((p.conj.getD i []).length + 1 + i = p.n) && (p.conj.getD i []).all fun v => tailB p.orders v (i + 1))
def validB (p : Pres) : Bool := (decide (p.n ≤ 6) && (decide (p.powers.length = p.n) && decide (p.conj.length = p.n))) && (ordB p.orders && (List.range p.n).all (rowB p))
structure ValidP (p : Pres) : Prop where
  n6 : p.n ≤ 6
  pl : p.powers.length = p.n
  cl : p.conj.length = p.n
  ord : ordB p.orders = true
  row : ∀ i, i < p.n → rowB p i = true
theorem validB_true {p : Pres} : validB p = true ↔ ValidP p := by
  constructor
  · intro h
    simp only [validB, Bool.and_eq_true, decide_eq_true_eq] at h
    exact ⟨h.1.1, h.1.2.1, h.1.2.2, h.2.1, fun i hi => List.all_eq_true.1 h.2.2 i (List.mem_range.2 hi)⟩
  · intro h
    simp only [validB, Bool.and_eq_true, decide_eq_true_eq]
    exact ⟨⟨h.n6, h.pl, h.cl⟩, h.ord, List.all_eq_true.2 fun i hi => h.row i (List.mem_range.1 hi)⟩
theorem validB_size {p : Pres} (h : ¬ (p.n ≤ 6 ∧ p.powers.length = p.n ∧ p.conj.length = p.n)) : validB p = false := by
  cases h' : validB p
  · rfl
  · have := validB_true.1 h'; exact absurd ⟨this.n6, this.pl, this.cl⟩ h
theorem validB_ord {p : Pres} (h : ordB p.orders = false) : validB p = false := by
  cases h' : validB p
  · rfl
  · have := (validB_true.1 h').ord; rw [h] at this; cases this
theorem validB_row {p : Pres} {i : Nat} (hi : i < p.n) (h : rowB p i = false) : validB p = false := by
  cases h' : validB p
  · rfl
  · have := (validB_true.1 h').row i hi; rw [h] at this; cases this
theorem rowB_pow {p : Pres} {i : Nat} (h : tailB p.orders (p.P i) (i + 1) = false) : rowB p i = false := by simp [rowB, h]
theorem rowB_len {p : Pres} {i : Nat} (h : ¬ (p.conj.getD i []).length + 1 + i = p.n) : rowB p i = false := by rw [rowB, decide_eq_false h, Bool.false_and, Bool.and_false]
theorem getL_mem {β : Type} {l : List (List β)} {j : Nat} (hj : j < l.length) : l.getD j [] ∈ l := by
  have : l.getD j [] = l[j] := by simp [List.getD, hj]
  rw [this]; exact List.getElem_mem hj
theorem rowB_conj {p : Pres} {i j : Nat} (hj : j < (p.conj.getD i []).length) (h : tailB p.orders ((p.conj.getD i []).getD j []) (i + 1) = false) : rowB p i = false := by
  have : ((p.conj.getD i []).all fun v => tailB p.orders v (i + 1)) = false := List.all_eq_false.2 ⟨_, getL_mem hj, by rw [h]; exact Bool.false_ne_true⟩
  rw [rowB, this, Bool.and_false, Bool.and_false]
theorem rowB_of {p : Pres} {i : Nat} (h1 : tailB p.orders (p.P i) (i + 1) = true) (h2 : (p.conj.getD i []).length + 1 + i = p.n) (h3 : ∀ j, j < (p.conj.getD i []).length → tailB p.orders ((p.conj.getD i []).getD j []) (i + 1) = true) : rowB p i = true := by
  simp only [rowB, Bool.and_eq_true, decide_eq_true_eq]
  refine ⟨h1, h2, List.all_eq_true.2 fun v hv => ?_⟩
  obtain ⟨k, hk, rfl⟩ := List.mem_iff_getElem.1 hv
  have := h3 k hk
  rwa [List.getD_eq_getElem?_getD, List.getElem?_eq_getElem hk] at this
theorem rowB_true {p : Pres} {i : Nat} (h : rowB p i = true) : tailB p.orders (p.P i) (i + 1) = true ∧ (p.conj.getD i []).length + 1 + i = p.n ∧ ∀ j, j < (p.conj.getD i []).length → tailB p.orders ((p.conj.getD i []).getD j []) (i + 1) = true := by
  simp only [rowB, Bool.and_eq_true, decide_eq_true_eq] at h
  refine ⟨h.1, h.2.1, fun j hj => List.all_eq_true.1 h.2.2 _ (getL_mem hj)⟩
theorem ValidP.rk {p : Pres} (h : ValidP p) (k : Nat) (hk : k < p.n) : 2 ≤ p.r k ∧ p.r k ≤ 7 := primesB_at (ordB_true h.ord).1 (getD_mem hk)
theorem ValidP.valid {p : Pres} (h : ValidP p) : Valid p := by
  refine ⟨fun k hk => (h.rk k hk).1, fun i hi => (tailB_VI hi).1 (rowB_true (h.row i hi)).1, fun i j hij hj => ?_⟩
  obtain ⟨_, h2, h3⟩ := rowB_true (h.row i (by omega))
  exact (tailB_VI (by omega)).1 (h3 (j - i - 1) (by omega))
theorem ValidP.clen {p : Pres} (h : ValidP p) (i : Nat) (hi : i < p.n) : (p.conj.getD i []).length + 1 + i = p.n := (rowB_true (h.row i hi)).2.1
end Go.Proofs.Ythnpndheaailjaa
