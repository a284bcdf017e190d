/-
  Which indices are reached from 0 by bijections (plain part).
-/
import Derived.Test.YthnpndheaailjaaEvalB
import Derived.Test.YthnpndheaailjaaRwd
namespace Go.Proofs.Ythnpndheaailjaa
set_option linter.unusedVariables false
set_option linter.unusedSimpArgs false
set_option maxRecDepth 100000
open Go.RowKit

def rcAdd (R : List Int) (x : Int) : List Int := if R.contains x = true then R else R ++ [x]
/-- the indices behind one index, by the first bijections -/
def rcIn (l : List (List Int)) (c : Nat) (R : List Int) : Nat → List Int
  | 0 => R
  | j + 1 => rcAdd (rcIn l c R j) ((l.getD j []).getD c 0)
def rcTo (l : List (List Int)) : Nat → List Int
  | 0 => [0]
  | k + 1 => rcIn l ((rcTo l k).getD k 0).toNat (rcTo l k) l.length
theorem rcAdd_in {R : List Int} {x : Int} (h : R.contains x = true) : rcAdd R x = R := if_pos h
theorem rcAdd_out {R : List Int} {x : Int} (h : R.contains x = false) : rcAdd R x = R ++ [x] := if_neg (by rw [h]; exact Bool.false_ne_true)
theorem rcAdd_pre (R : List Int) (x : Int) {k : Nat} (hk : k < R.length) : k < (rcAdd R x).length ∧ (rcAdd R x).getD k 0 = R.getD k 0 := by
  unfold rcAdd
  split
  · exact ⟨hk, rfl⟩
  · refine ⟨by simp; omega, ?_⟩
    simp [List.getD, hk, List.getElem?_append_left hk]
theorem rcIn_pre (l : List (List Int)) (c : Nat) (R : List Int) (j : Nat) {k : Nat} (hk : k < R.length) : k < (rcIn l c R j).length ∧ (rcIn l c R j).getD k 0 = R.getD k 0 := by
  induction j with
  | zero => exact ⟨hk, rfl⟩
  | succ j ih =>
    have := rcAdd_pre (rcIn l c R j) ((l.getD j []).getD c 0) ih.1
    exact ⟨this.1, this.2.trans ih.2⟩
theorem rcTo_pre (l : List (List Int)) (k : Nat) {t : Nat} (ht : t < (rcTo l k).length) : t < (rcTo l (k + 1)).length := (rcIn_pre l _ _ _ ht).1
/-- what is reached: distinct indices -/
def RcOK (N : Nat) (R : List Int) : Prop := R.Nodup ∧ InR R N
theorem inR_mem {R : List Int} {N : Nat} (h : InR R N) {x : Int} (hx : x ∈ R) : ∃ m : Nat, x = (m : Int) ∧ m < N := by
  obtain ⟨k, hk, rfl⟩ := mem_getD hx
  exact h k hk
theorem inR_snoc {R : List Int} {N m : Nat} (h : InR R N) (hm : m < N) : InR (R ++ [(m : Int)]) N := by
  intro j hj
  rw [List.length_append, List.length_cons, List.length_nil] at hj
  by_cases hl : j < R.length
  · obtain ⟨q, hq, hqN⟩ := h j hl
    exact ⟨q, by rw [← hq]; simp [List.getD, hl, List.getElem?_append_left hl], hqN⟩
  · obtain rfl : j = R.length := by omega
    exact ⟨m, by simp [List.getD], hm⟩
theorem RcOK.add {N : Nat} {R : List Int} (h : RcOK N R) {m : Nat} (hm : m < N) : RcOK N (rcAdd R (m : Int)) := by
  unfold rcAdd
  split
  · exact h
  · rename_i hc
    refine ⟨List.nodup_append.2 ⟨h.1, by simp, fun a ha b hb => ?_⟩, inR_snoc h.2 hm⟩
    rintro rfl
    simp only [List.mem_cons, List.not_mem_nil, or_false] at hb
    subst hb
    exact hc (by simpa using ha)
theorem nodup_len (N : Nat) : ∀ R : List Int, R.Nodup → (∀ x ∈ R, 0 ≤ x ∧ x < N) → R.length ≤ N := by
  induction N with
  | zero =>
    intro R _ h
    cases R with
    | nil => simp
    | cons a R => have := h a (by simp); omega
  | succ N ih =>
    intro R hR h
    have h1 := ih (R.erase (N : Int)) (hR.erase _) fun x hx => by
      have := (hR.mem_erase_iff).1 hx
      have := h x this.2
      omega
    have h2 : R.length ≤ (R.erase (N : Int)).length + 1 := by
      rw [List.length_erase]
      split <;> omega
    omega
theorem RcOK.len {N : Nat} {R : List Int} (h : RcOK N R) : R.length ≤ N :=
  nodup_len N R h.1 fun x hx => by
    obtain ⟨m, rfl, hm⟩ := inR_mem h.2 hx
    omega
/-- bijections of one size -/
theorem rc_img {l : List (List Int)} {N : Nat} (hs : sizedB N l = true) {j c : Nat} (hj : j < l.length) (hc : c < N) : ∃ m : Nat, (l.getD j []).getD c 0 = (m : Int) ∧ m < N :=
  (letBij_ok hs hj).2.2.2.1 c (by rw [(letBij_ok hs hj).1]; exact hc)
theorem rcIn_ok {l : List (List Int)} {N : Nat} (hs : sizedB N l = true) {c : Nat} (hc : c < N) {R : List Int} (h : RcOK N R) (j : Nat) (hj : j ≤ l.length) : RcOK N (rcIn l c R j) := by
  induction j with
  | zero => exact h
  | succ j ih =>
    obtain ⟨m, hm, hmN⟩ := rc_img hs (show j < l.length by omega) hc
    show RcOK N (rcAdd (rcIn l c R j) ((l.getD j []).getD c 0))
    rw [hm]
    exact (ih (by omega)).add hmN
theorem rcTo_ok {l : List (List Int)} {N : Nat} (h1 : 1 ≤ N) (hs : sizedB N l = true) (k : Nat) (hk : ∀ j, j < k → j < (rcTo l j).length) : RcOK N (rcTo l k) := by
  induction k with
  | zero =>
    refine ⟨by simp [rcTo], fun j hj => ?_⟩
    simp only [rcTo, List.length_cons, List.length_nil] at hj
    obtain rfl : j = 0 := by omega
    exact ⟨0, rfl, h1⟩
  | succ k ih =>
    have h := ih fun j hj => hk j (by omega)
    obtain ⟨m, hm, hmN⟩ := h.2 k (hk k (by omega))
    refine rcIn_ok hs ?_ h _ (Nat.le_refl _)
    rw [hm, Int.toNat_natCast]; exact hmN
theorem rc_more {l : List (List Int)} {k : Nat} (hk : ∀ j, j < k → j < (rcTo l j).length) : k ≤ (rcTo l k).length := by
  cases k with
  | zero => exact Nat.zero_le _
  | succ k => have := rcTo_pre l k (hk k (by omega)); omega
def rcEnd (l : List (List Int)) : Nat → Nat → Nat
  | 0, k => k
  | f + 1, k => if k < (rcTo l k).length then rcEnd l f (k + 1) else k
theorem rcEnd_at {l : List (List Int)} {k : Nat} (hk : ∀ j, j < k → j < (rcTo l j).length) (he : ¬ k < (rcTo l k).length) : ∀ f k0, k0 ≤ k → k - k0 ≤ f → rcEnd l f k0 = k := by
  intro f
  induction f with
  | zero => intro k0 h1 h2; show k0 = k; omega
  | succ f ih =>
    intro k0 h1 h2
    show (if k0 < (rcTo l k0).length then rcEnd l f (k0 + 1) else k0) = k
    by_cases h : k0 = k
    · subst h; exact if_neg he
    · rw [if_pos (hk k0 (by omega))]
      exact ih (k0 + 1) (by omega) (by omega)
/-- how many indices are reached -/
def rcN (l : List (List Int)) : Nat := rcEnd l 200 0
theorem rcN_at {l : List (List Int)} {k : Nat} (hk : ∀ j, j < k → j < (rcTo l j).length) (he : (rcTo l k).length = k) (h : k ≤ 128) : rcN l = k := rcEnd_at hk (by omega) 200 0 (Nat.zero_le _) (by omega)
/-- the relators are evaluated to the identity -/
def relsB (p : Pres) (l : List (List Int)) (N : Nat) : Bool := (relL p).all fun r => decide (evL r l = selfL N)
def irB (p : Pres) (l : List (List Int)) (N : Nat) : Bool := (decide (l.length = p.n) && sizedB N l) && (relsB p l N && decide (rcN l = N))
def gordN (p : Pres) : Nat := (prodO p.orders).toNat
def irC (p : Pres) : Int := if validB p = true then (if gordN p ≤ 128 then 0 else 3) else 1
def irR (p : Pres) (l : List (List Int)) : Bool := decide (irC p = 0) && irB p l (gordN p)
theorem irC_1 {p : Pres} (h : validB p = false) : irC p = 1 := by unfold irC; rw [h]; rfl
theorem irC_3 {p : Pres} (h : validB p = true) (h2 : ¬ gordN p ≤ 128) : irC p = 3 := by unfold irC; rw [if_pos h, if_neg h2]
theorem irC_0 {p : Pres} (h : validB p = true) (h2 : gordN p ≤ 128) : irC p = 0 := by unfold irC; rw [if_pos h, if_pos h2]
theorem irR_ne {p : Pres} {l : List (List Int)} (h : ¬ irC p = 0) : irR p l = false := by simp [irR, h]
theorem irR_0 {p : Pres} {l : List (List Int)} (h : irC p = 0) : irR p l = irB p l (gordN p) := by simp [irR, h]
theorem irB_len {p : Pres} {l : List (List Int)} {N : Nat} (h : ¬ l.length = p.n) : irB p l N = false := by simp [irB, h]
theorem irB_sized {p : Pres} {l : List (List Int)} {N : Nat} (h : sizedB N l = false) : irB p l N = false := by simp [irB, h]
theorem irB_rel {p : Pres} {l : List (List Int)} {N : Nat} (h : relsB p l N = false) : irB p l N = false := by simp [irB, h]
theorem irB_fin {p : Pres} {l : List (List Int)} {N : Nat} (h1 : l.length = p.n) (h2 : sizedB N l = true) (h3 : relsB p l N = true) : irB p l N = decide (rcN l = N) := by simp [irB, h1, h2, h3]
theorem relsB_false {p : Pres} {l : List (List Int)} {N j : Nat} (hj : j < (relL p).length) (h : evL ((relL p).getD j []) l ≠ selfL N) : relsB p l N = false := by
  rw [relsB, List.all_eq_false]
  exact ⟨_, getL_mem hj, by simpa using h⟩
theorem relsB_true {p : Pres} {l : List (List Int)} {N : Nat} (h : ∀ j, j < (relL p).length → evL ((relL p).getD j []) l = selfL N) : relsB p l N = true := by
  rw [relsB, List.all_eq_true]
  intro x hx
  obtain ⟨k, hk, rfl⟩ := List.getElem_of_mem hx
  have := h k hk
  rw [List.getD_eq_getElem?_getD, List.getElem?_eq_getElem hk] at this
  simpa using this
theorem seenL_snoc (n : Nat) (ys : List Int) {m : Nat} (hm : m < n) : (seenL n ys).set m true = seenL n (ys ++ [(m : Int)]) := by
  apply List.ext_getElem
  · simp [seenL]
  · intro i h1 h2
    have hi : i < n := by simpa [seenL] using h2
    rw [List.getElem_set]
    simp only [seenL, List.getElem_map, List.getElem_range]
    by_cases hmi : m = i
    · subst hmi; simp
    · rw [if_neg hmi]
      have : ¬ ((i : Int) = (m : Int)) := by omega
      simp [this]
end Go.Proofs.Ythnpndheaailjaa
