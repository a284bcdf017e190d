/-
  Steps of a collection: the plain part.
-/
import Derived.Test.YthnpndheaailjaaNorm
import Derived.Test.YthnpndheaailjaaPer
namespace Go.Proofs.Ythnpndheaailjaa
set_option linter.unusedVariables false
set_option linter.unusedSimpArgs false
set_option maxRecDepth 100000
open Go.RowKit

/-- the letters from 1 -/
def lt0 (w : List Int) (t : Nat) : Nat := (w.getD t 0 - 1).toNat
def descB (w : List Int) (t : Nat) : Bool := decide (t + 1 < w.length) && decide (w.getD (t + 1) 0 < w.getD t 0)
def stepD (p : Pres) (w : List Int) (t : Nat) : List Int := cat [w.take t, [w.getD (t + 1) 0], nwL (p.C (lt0 w (t + 1)) (lt0 w t)), w.drop (t + 2)]
def stepR (p : Pres) (w : List Int) (t : Nat) : List Int := cat [w.take t, nwL (p.P (lt0 w t)), w.drop (t + (p.r (lt0 w t)).toNat)]
def stepL (p : Pres) (w : List Int) (t : Nat) : List Int := if descB w t = true then stepD p w t else stepR p w t
theorem stepL_d {p : Pres} {w : List Int} {t : Nat} (h : descB w t = true) : stepL p w t = stepD p w t := if_pos h
theorem stepL_r {p : Pres} {w : List Int} {t : Nat} (h : descB w t = false) : stepL p w t = stepR p w t := by unfold stepL; rw [h]; rfl
theorem cat3 (a b c : List Int) : cat [a, b, c] = a ++ (b ++ c) := by simp [cat]
theorem cat4' (a b c d : List Int) : cat [a, b, c, d] = a ++ (b ++ (c ++ d)) := by simp [cat]
/-- letters 1 .. n, as members -/
theorem PosM.w {n : Nat} {w : List Int} (h : PosM n w) : PosW n w := fun j hj => by
  have := h _ (getD_mem (xs := w) hj)
  exact ⟨(w.getD j 0 - 1).toNat, by omega, by omega⟩
theorem PosW.m {n : Nat} {w : List Int} (h : PosW n w) : PosM n w := fun l hl => by
  obtain ⟨k, hk, rfl⟩ := mem_getD hl
  obtain ⟨q, h1, h2⟩ := h k hk
  omega
theorem PosM.app {n : Nat} {u v : List Int} (h : PosM n u) (g : PosM n v) : PosM n (u ++ v) := fun l hl => by
  rcases List.mem_append.1 hl with hl | hl
  · exact h l hl
  · exact g l hl
theorem PosM.take {n : Nat} {u : List Int} (h : PosM n u) (k : Nat) : PosM n (u.take k) := fun l hl => h l (List.mem_of_mem_take hl)
theorem PosM.drop {n : Nat} {u : List Int} (h : PosM n u) (k : Nat) : PosM n (u.drop k) := fun l hl => h l (List.mem_of_mem_drop hl)
theorem PosW.lt {n : Nat} {w : List Int} (h : PosW n w) {t : Nat} (ht : t < w.length) : w.getD t 0 = (lt0 w t : Int) + 1 ∧ lt0 w t < n := by
  obtain ⟨q, h1, h2⟩ := h t ht
  unfold lt0
  omega
theorem descB_iff {w : List Int} {t : Nat} : descB w t = true ↔ t + 1 < w.length ∧ w.getD (t + 1) 0 < w.getD t 0 := by simp [descB]
/-- what holds of the two letters at a descent -/
theorem desc_at {p : Pres} {w : List Int} {t : Nat} (hw : PosW p.n w) (h : descB w t = true) : lt0 w (t + 1) < lt0 w t ∧ lt0 w t < p.n := by
  obtain ⟨h1, h2⟩ := descB_iff.1 h
  have h3 := hw.lt (show t < w.length by omega)
  have h4 := hw.lt h1
  omega
/-- a run is long enough where a word is reducible without a descent -/
theorem red_run {p : Pres} {w : List Int} {t : Nat} (ht : t < w.length) (hV : ValidP p) (hw : PosW p.n w) (h : redB p.orders w t = true) (hd : descB w t = false) : t + (p.r (lt0 w t)).toNat ≤ w.length := by
  unfold redB at h
  unfold descB at hd
  rw [hd, Bool.false_or, decide_eq_true_iff] at h
  have h1 := hw.lt ht
  have h2 := hV.rk _ h1.2
  have h3 : p.orders.getD (w.getD t 0 - 1).toNat 0 = p.r (lt0 w t) := rfl
  rw [h3] at h
  exact ((runL_ge (Nat.le_of_lt ht)).1 (show (p.r (lt0 w t)).toNat ≤ runL w t by omega)).1
theorem stepL_pos {p : Pres} {w : List Int} {t : Nat} (ht : t < w.length) (hV : ValidP p) (hw : PosW p.n w) : PosW p.n (stepL p w t) := by
  have hm := hw.m
  have h1 := hw.lt ht
  by_cases hd : descB w t = true
  · have h2 := desc_at hw hd
    have h4 := (descB_iff.1 hd).1
    rw [stepL_d hd]
    unfold stepD
    rw [cat4']
    refine (PosM.app (hm.take _) (PosM.app (fun l hl => ?_) (PosM.app (nwL_pos (hV.valid.cj _ _ h2.1 h2.2).len) (hm.drop _)))).w
    rw [List.mem_singleton] at hl
    subst hl
    exact hm _ (getD_mem h4)
  · have hd' : descB w t = false := by simpa using hd
    rw [stepL_r hd']
    unfold stepR
    rw [cat3]
    exact (PosM.app (hm.take _) (PosM.app (nwL_pos (hV.valid.pow _ h1.2).len) (hm.drop _))).w
theorem stepL_len {p : Pres} {w : List Int} {t : Nat} (ht : t < w.length) (hV : ValidP p) (hw : PosW p.n w) : (stepL p w t).length ≤ w.length + 101 := by
  have h1 := hw.lt ht
  by_cases hd : descB w t = true
  · have h2 := desc_at hw hd
    rw [stepL_d hd]
    unfold stepD
    rw [cat4']
    have := nwL_len ((hV.valid.cj _ _ h2.1 h2.2).sm hV)
    simp only [List.length_append, List.length_take, List.length_drop, List.length_cons, List.length_nil]
    omega
  · have hd' : descB w t = false := by simpa using hd
    rw [stepL_r hd']
    unfold stepR
    rw [cat3]
    have := nwL_len ((hV.valid.pow _ h1.2).sm hV)
    simp only [List.length_append, List.length_take, List.length_drop]
    omega
/-! ### CollectStep -/
def csK (p : Pres) (w : List Int) : Int := if posV p w = true then 0 else 1
def csT (p : Pres) (w : List Int) : Int := if posV p w = true then firstR p.orders w else 0
def csL (p : Pres) (w : List Int) : List Int := if posV p w = true then (if firstR p.orders w = -1 then w else stepL p w (firstR p.orders w).toNat) else []
theorem cs_no {p : Pres} {w : List Int} (h : posV p w = false) : csK p w = 1 ∧ csT p w = 0 ∧ csL p w = [] := by simp [csK, csT, csL, h]
theorem cs_nf {p : Pres} {w : List Int} (h : posV p w = true) (h2 : firstR p.orders w = -1) : csK p w = 0 ∧ csT p w = -1 ∧ csL p w = w := by simp [csK, csT, csL, h, h2]
theorem cs_at {p : Pres} {w : List Int} {t : Nat} (h : posV p w = true) (h2 : firstR p.orders w = (t : Int)) : csK p w = 0 ∧ csT p w = t ∧ csL p w = stepL p w t := by
  have : ¬ ((t : Int) = -1) := by omega
  simp [csK, csT, csL, h, h2, this]
theorem posV_true {p : Pres} {w : List Int} (h : posV p w = true) : ValidP p ∧ posB p.n w = true ∧ w.length ≤ 64 := by
  unfold posV posM at h
  rw [Bool.and_eq_true, Bool.and_eq_true, decide_eq_true_iff] at h
  exact ⟨validB_true.1 h.1, h.2⟩
/-! ### collections -/
/-- the word that is reached, with the steps that are left -/
def colW (p : Pres) : Nat → List Int → Option (List Int × Nat)
  | 0, w => if firstR p.orders w = -1 then some (w, 0) else none
  | f + 1, w => if firstR p.orders w = -1 then some (w, f + 1) else if 256 < (stepL p w (firstR p.orders w).toNat).length then none else colW p f (stepL p w (firstR p.orders w).toNat)
theorem colW_nf {p : Pres} {f : Nat} {w : List Int} (h : firstR p.orders w = -1) : colW p f w = some (w, f) := by cases f <;> simp [colW, h]
theorem colW_zero {p : Pres} {w : List Int} {t : Nat} (h : firstR p.orders w = (t : Int)) : colW p 0 w = none := by
  have : ¬ ((t : Int) = -1) := by omega
  simp [colW, h, this]
theorem colW_big {p : Pres} {f : Nat} {w : List Int} {t : Nat} (h : firstR p.orders w = (t : Int)) (h2 : 256 < (stepL p w t).length) : colW p f w = none := by
  have : ¬ ((t : Int) = -1) := by omega
  cases f <;> simp [colW, h, this, h2]
theorem colW_step {p : Pres} {f : Nat} {w : List Int} {t : Nat} (h : firstR p.orders w = (t : Int)) (h2 : (stepL p w t).length ≤ 256) : colW p (f + 1) w = colW p f (stepL p w t) := by
  have : ¬ ((t : Int) = -1) := by omega
  have h3 : ¬ 256 < (stepL p w t).length := by omega
  simp [colW, h, this, h3]
def collC (p : Pres) (lim : Nat) (w : List Int) : Int := match colW p lim w with | some _ => 0 | none => 3
def collN (p : Pres) (lim : Nat) (w : List Int) : Int := match colW p lim w with | some (_, f) => (lim : Int) - f | none => 0
def collL (p : Pres) (lim : Nat) (w : List Int) : List Int := match colW p lim w with | some (u, _) => vecL p.n u | none => []
theorem coll_some {p : Pres} {lim : Nat} {w u : List Int} {f : Nat} (h : colW p lim w = some (u, f)) : collC p lim w = 0 ∧ collN p lim w = (lim : Int) - f ∧ collL p lim w = vecL p.n u := by simp [collC, collN, collL, h]
theorem coll_none {p : Pres} {lim : Nat} {w : List Int} (h : colW p lim w = none) : collC p lim w = 3 ∧ collN p lim w = 0 ∧ collL p lim w = [] := by simp [collC, collN, collL, h]
end Go.Proofs.Ythnpndheaailjaa
