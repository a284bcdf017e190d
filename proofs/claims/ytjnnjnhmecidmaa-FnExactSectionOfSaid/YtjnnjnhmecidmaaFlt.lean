/-
  The first fault of a level, and the least index from which on the tails are groups: no program in sight.
-/
import Derived.Test.YtjnnjnhmecidmaaCon
namespace Go.Proofs.Ytjnnjnhmecidmaa
set_option linter.unusedVariables false
set_option linter.unusedSimpArgs false
set_option maxRecDepth 100000

/-- the first of lo .. lo+m-1 for which q holds -/
def fst (q : Nat → Bool) (lo : Nat) : Nat → Option Nat
  | 0 => none
  | m + 1 => if q lo then some lo else fst q (lo + 1) m
theorem fst_some {q : Nat → Bool} : ∀ {lo m j : Nat}, lo ≤ j → j < lo + m → q j = true → (∀ t, lo ≤ t → t < j → q t = false) → fst q lo m = some j := by
  intro lo m
  induction m generalizing lo with
  | zero => intro j h1 h2; omega
  | succ m ih =>
    intro j h1 h2 hq hl
    unfold fst
    by_cases h : j = lo
    · subst h; rw [if_pos hq]
    · rw [if_neg (by rw [hl lo (Nat.le_refl _) (by omega)]; decide)]
      exact ih (by omega) (by omega) hq fun t h3 h4 => hl t (by omega) h4
theorem fst_none {q : Nat → Bool} : ∀ {lo m : Nat}, (∀ t, lo ≤ t → t < lo + m → q t = false) → fst q lo m = none := by
  intro lo m
  induction m generalizing lo with
  | zero => intro _; rfl
  | succ m ih =>
    intro hl
    unfold fst
    rw [if_neg (by rw [hl lo (Nat.le_refl _) (by omega)]; decide)]
    exact ih fun t h3 h4 => hl t (by omega) (by omega)
theorem fst_is {q : Nat → Bool} : ∀ {lo m j : Nat}, fst q lo m = some j → lo ≤ j ∧ j < lo + m ∧ q j = true := by
  intro lo m
  induction m generalizing lo with
  | zero => intro j h; simp [fst] at h
  | succ m ih =>
    intro j h
    unfold fst at h
    by_cases hq : q lo = true
    · rw [if_pos hq] at h; cases h; exact ⟨Nat.le_refl _, by omega, hq⟩
    · rw [if_neg hq] at h
      have := ih h
      exact ⟨by omega, by omega, this.2.2⟩
theorem fst_no {q : Nat → Bool} : ∀ {lo m : Nat}, fst q lo m = none → ∀ t, lo ≤ t → t < lo + m → q t = false := by
  intro lo m
  induction m generalizing lo with
  | zero => intro _ t h1 h2; omega
  | succ m ih =>
    intro h t h1 h2
    unfold fst at h
    by_cases hq : q lo = true
    · rw [if_pos hq] at h; cases h
    · rw [if_neg hq] at h
      by_cases ht : t = lo
      · subst ht; simpa using hq
      · exact ih h t (by omega) (by omega)

section
variable (p : Pres) (i : Nat)
def f1 (j : Nat) : Bool := !decide (pw (p.at (i + 1)) p.zv (p.C i j) (p.r j).toNat = p.img i (p.P j))
def f2 (j k : Nat) : Bool := !decide (p.at (i + 1) (p.C i k) (p.C i j) = p.at (i + 1) (p.C i j) (p.img i (p.C j k)))
def f3 : Bool := !decide (p.img i (p.P i) = p.P i)
def f4 (j : Nat) : Bool := !decide (p.at (i + 1) (p.P i) (itf (p.img i) (p.r i).toNat (p.uv j)) = p.at (i + 1) (p.uv j) (p.P i))
def f2r (j : Nat) : Option Nat := fst (f2 p i j) (j + 1) (p.n - (j + 1))
/-- kind, first, second -/
def lvF : Int × Int × Int :=
  match fst (f1 p i) (i + 1) (p.n - (i + 1)) with
  | some j => (1, j, 0)
  | none =>
    match fst (fun j => (f2r p i j).isSome) (i + 1) (p.n - (i + 1)) with
    | some j => (2, j, (f2r p i j).getD 0)
    | none =>
      if f3 p i then (3, 0, 0) else
      match fst (f4 p i) (i + 1) (p.n - (i + 1)) with
      | some j => (4, j, 0)
      | none => (0, 0, 0)
end
section
variable {p : Pres} {i : Nat}
/-- no fault of the first kind up to j -/
def ok1 (p : Pres) (i j : Nat) : Prop := ∀ t, i + 1 ≤ t → t < j → f1 p i t = false
def ok2 (p : Pres) (i j : Nat) : Prop := ∀ t, i + 1 ≤ t → t < j → f2r p i t = none
def ok2r (p : Pres) (i j k : Nat) : Prop := ∀ t, j + 1 ≤ t → t < k → f2 p i j t = false
def ok4 (p : Pres) (i j : Nat) : Prop := ∀ t, i + 1 ≤ t → t < j → f4 p i t = false
theorem ok1_succ {j : Nat} (h : ok1 p i j) (hj : f1 p i j = false) : ok1 p i (j + 1) := fun t h1 h2 => by
  by_cases ht : t = j
  · subst ht; exact hj
  · exact h t h1 (by omega)
theorem ok4_succ {j : Nat} (h : ok4 p i j) (hj : f4 p i j = false) : ok4 p i (j + 1) := fun t h1 h2 => by
  by_cases ht : t = j
  · subst ht; exact hj
  · exact h t h1 (by omega)
theorem ok2r_succ {j k : Nat} (h : ok2r p i j k) (hj : f2 p i j k = false) : ok2r p i j (k + 1) := fun t h1 h2 => by
  by_cases ht : t = k
  · subst ht; exact hj
  · exact h t h1 (by omega)
theorem ok2_succ {j : Nat} (h : ok2 p i j) (hj : ok2r p i j p.n) : ok2 p i (j + 1) := fun t h1 h2 => by
  by_cases ht : t = j
  · subst ht; exact fst_none fun u h3 h4 => hj u h3 (by omega)
  · exact h t h1 (by omega)
theorem ok1_zero : ok1 p i (i + 1) := fun t h1 h2 => by omega
theorem ok2_zero : ok2 p i (i + 1) := fun t h1 h2 => by omega
theorem ok4_zero : ok4 p i (i + 1) := fun t h1 h2 => by omega
theorem ok2r_zero {j : Nat} : ok2r p i j (j + 1) := fun t h1 h2 => by omega
theorem lvF_1 {j : Nat} (h : ok1 p i j) (h1 : i < j) (h2 : j < p.n) (hj : f1 p i j = true) : lvF p i = (1, (j : Int), 0) := by
  unfold lvF; rw [fst_some (by omega) (by omega) hj h]
theorem lvF_2 {j k : Nat} (h : ok1 p i p.n) (g : ok2 p i j) (h1 : i < j) (g3 : ok2r p i j k) (h2 : j < k) (h3 : k < p.n) (hk : f2 p i j k = true) : lvF p i = (2, (j : Int), (k : Int)) := by
  have e1 : f2r p i j = some k := fst_some (by omega) (by omega) hk g3
  unfold lvF
  rw [fst_none (fun t a b => h t a (by omega))]
  simp only
  rw [fst_some (q := fun j => (f2r p i j).isSome) (j := j) (by omega) (by omega) (by simp [e1]) (fun t a b => by simp [g t a b])]
  simp [e1]
theorem lvF_3 (h : ok1 p i p.n) (g : ok2 p i p.n) (h3 : f3 p i = true) : lvF p i = (3, 0, 0) := by
  unfold lvF
  rw [fst_none (fun t a b => h t a (by omega))]
  simp only
  rw [fst_none (q := fun j => (f2r p i j).isSome) (fun t a b => by simp [g t a (by omega)])]
  simp [h3]
theorem lvF_4 {j : Nat} (h : ok1 p i p.n) (g : ok2 p i p.n) (h3 : f3 p i = false) (h4 : ok4 p i j) (h1 : i < j) (h2 : j < p.n) (hj : f4 p i j = true) : lvF p i = (4, (j : Int), 0) := by
  unfold lvF
  rw [fst_none (fun t a b => h t a (by omega))]
  simp only
  rw [fst_none (q := fun j => (f2r p i j).isSome) (fun t a b => by simp [g t a (by omega)])]
  simp only [h3]
  rw [fst_some (by omega) (by omega) hj h4]
  rfl
theorem lvF_0 (h : ok1 p i p.n) (g : ok2 p i p.n) (h3 : f3 p i = false) (h4 : ok4 p i p.n) : lvF p i = (0, 0, 0) := by
  unfold lvF
  rw [fst_none (fun t a b => h t a (by omega))]
  simp only
  rw [fst_none (q := fun j => (f2r p i j).isSome) (fun t a b => by simp [g t a (by omega)])]
  simp only [h3]
  rw [fst_none (fun t a b => h4 t a (by omega))]
  rfl
theorem bne_f {a b : List Int} : (!decide (a = b)) = false ↔ a = b := by simp
/-- no fault: the level's conditions hold -/
theorem lvF_ok (h : (lvF p i).1 = 0) : LevelOK p i := by
  unfold lvF at h
  cases e1 : fst (f1 p i) (i + 1) (p.n - (i + 1)) with
  | some j => rw [e1] at h; simp at h
  | none =>
    rw [e1] at h
    simp only at h
    cases e2 : fst (fun j => (f2r p i j).isSome) (i + 1) (p.n - (i + 1)) with
    | some j => rw [e2] at h; simp at h
    | none =>
      rw [e2] at h
      simp only at h
      cases e3 : f3 p i with
      | true => rw [e3] at h; simp at h
      | false =>
        rw [e3] at h
        cases e4 : fst (f4 p i) (i + 1) (p.n - (i + 1)) with
        | some j => rw [e4] at h; simp at h
        | none =>
          refine ⟨fun j h1 h2 => ?_, fun j k h1 h2 h3 => ?_, ?_, fun j h1 h2 => ?_⟩
          · have := fst_no e1 j (by omega) (by omega); unfold f1 at this; exact bne_f.1 this
          · have := fst_no e2 j (by omega) (by omega)
            have h4 : f2r p i j = none := by simpa using this
            have := fst_no h4 k (by omega) (by omega); unfold f2 at this; exact bne_f.1 this
          · unfold f3 at e3; exact bne_f.1 e3
          · have := fst_no e4 j (by omega) (by omega); unfold f4 at this; exact bne_f.1 this
end

/-- the least index from which on no level has a fault, scanning down from i -/
def cfD (p : Pres) : Nat → Nat
  | 0 => 0
  | i + 1 => if (lvF p i).1 = 0 then cfD p i else i + 1
def cf (p : Pres) : Nat := cfD p p.n
/-- the levels from s on have no fault -/
def cfOK (p : Pres) (s : Nat) : Prop := s ≤ p.n ∧ ∀ i, s ≤ i → i < p.n → (lvF p i).1 = 0
section
variable {p : Pres}
theorem cfOK_top (p : Pres) : cfOK p p.n := ⟨Nat.le_refl _, fun i h1 h2 => by omega⟩
theorem cfOK.down {i : Nat} (h : cfOK p (i + 1)) (hi : (lvF p i).1 = 0) : cfOK p i := ⟨by have := h.1; omega, fun t h1 h2 => by
  by_cases ht : t = i
  · subst ht; exact hi
  · exact h.2 t (by omega) h2⟩
theorem cfD_same {s : Nat} (h : cfOK p s) : cf p = cfD p s := by
  have : ∀ d, s + d = p.n → cf p = cfD p s := by
    intro d
    induction d generalizing s with
    | zero => intro hd; obtain rfl : s = p.n := by omega
              rfl
    | succ d ih =>
      intro hd
      rw [ih (s := s + 1) ⟨by omega, fun i h1 h2 => h.2 i (by omega) h2⟩ (by omega)]
      show (if (lvF p s).1 = 0 then cfD p s else s + 1) = _
      rw [if_pos (h.2 s (Nat.le_refl _) (by omega))]
  exact this (p.n - s) (by have := h.1; omega)
theorem cf_zero (h : cfOK p 0) : cf p = 0 := cfD_same h
theorem cf_at {i : Nat} (h : cfOK p (i + 1)) (hi : (lvF p i).1 ≠ 0) : cf p = i + 1 := by
  rw [cfD_same h]; show (if _ then _ else _) = _; rw [if_neg hi]
theorem cfOK.GT {s : Nat} (hp : Valid p) (h : cfOK p s) : GT p s := GT.of hp h.1 fun i h1 h2 => lvF_ok (h.2 i h1 h2)
theorem cfD_le (p : Pres) (s : Nat) : cfD p s ≤ s := by
  induction s with
  | zero => exact Nat.le_refl _
  | succ s ih =>
    by_cases h : (lvF p s).1 = 0
    · rw [show cfD p (s + 1) = cfD p s by show (if _ then _ else _) = _; rw [if_pos h]]; omega
    · rw [show cfD p (s + 1) = s + 1 by show (if _ then _ else _) = _; rw [if_neg h]]; omega
theorem cfD_spec (p : Pres) : ∀ s, s ≤ p.n → cfOK p s → cfOK p (cfD p s) ∧ ∀ i, cfD p s = i + 1 → (lvF p i).1 ≠ 0 := by
  intro s
  induction s with
  | zero => intro _ h; exact ⟨h, fun i hi => by simp [cfD] at hi⟩
  | succ s ih =>
    intro hs h
    by_cases h0 : (lvF p s).1 = 0
    · have e : cfD p (s + 1) = cfD p s := by show (if _ then _ else _) = _; rw [if_pos h0]
      rw [e]; exact ih (by omega) (h.down h0)
    · have e : cfD p (s + 1) = s + 1 := by show (if _ then _ else _) = _; rw [if_neg h0]
      rw [e]; exact ⟨h, fun i hi => by obtain rfl : s = i := by omega
                                       exact h0⟩
theorem cf_spec (p : Pres) : cfOK p (cf p) ∧ ∀ i, cf p = i + 1 → (lvF p i).1 ≠ 0 := cfD_spec p p.n (Nat.le_refl _) (cfOK_top p)
/-- kind, level, first, second of the first fault -/
def fltF (p : Pres) : List Int := if cf p = 0 then [0, 0, 0, 0] else [(lvF p (cf p - 1)).1, ((cf p - 1 : Nat) : Int), (lvF p (cf p - 1)).2.1, (lvF p (cf p - 1)).2.2]
/-- valid and consistent -/
def conB (p : Pres) : Bool := validB p && decide (cf p = 0)
theorem conB_true (h : conB p = true) : ValidP p ∧ GT p 0 := by
  simp only [conB, Bool.and_eq_true, decide_eq_true_eq] at h
  have h1 := validB_true.1 h.1
  refine ⟨h1, ?_⟩
  have := (cf_spec p).1
  rw [h.2] at this
  exact this.GT h1.valid
end
end Go.Proofs.Ytjnnjnhmecidmaa
