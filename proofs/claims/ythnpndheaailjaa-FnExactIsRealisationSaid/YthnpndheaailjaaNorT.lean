/-
  Normal tails: both sides.
-/
import Derived.Test.YthnpndheaailjaaConI
namespace Go.Proofs.Ythnpndheaailjaa
set_option linter.unusedVariables false
set_option linter.unusedSimpArgs false
set_option maxRecDepth 100000
open Go.RowKit

/-- the entries ahead of i of the conjugates of j by h are zero -/
def ntC (p : Pres) (i h j : Nat) : Bool := zeroB ((p.C h j).take i)
def ntB (p : Pres) (i : Nat) : Bool := (List.range i).all fun h => (List.range' i (p.n - i)).all fun j => ntC p i h j
theorem ntB_no {p : Pres} {i h j : Nat} (hh : h < i) (h1 : i ≤ j) (h2 : j < p.n) (hc : ntC p i h j = false) : ntB p i = false := by
  unfold ntB
  refine List.all_eq_false.2 ⟨h, List.mem_range.2 hh, ?_⟩
  rw [Bool.not_eq_true]
  refine List.all_eq_false.2 ⟨j, List.mem_range'.2 ⟨j - i, by omega, by omega⟩, by rw [hc]; exact Bool.false_ne_true⟩
theorem ntB_yes {p : Pres} {i : Nat} (H : ∀ h, h < i → ∀ j, i ≤ j → j < p.n → ntC p i h j = true) : ntB p i = true := by
  unfold ntB
  refine List.all_eq_true.2 fun h hh => List.all_eq_true.2 fun j hj => ?_
  obtain ⟨k, hk, rfl⟩ := List.mem_range'.1 hj
  exact H h (List.mem_range.1 hh) _ (by omega) (by omega)
--== tops
theorem PtrP.boxedN {w : World} {v1 v2 v3 : Value} {p : Pres} (h : RdP w v1 v2 v3 p) : PtrP (w.alloc (.cells #[v1, v2, v3] 32)) (.pointer (some ⟨w.heap.size, 0, none⟩)) p :=
  ⟨_, _, _, _, rfl, by simp [go_sem], by simp [go_sem], by simp [go_sem], h.below (below_alloc _ _)⟩
def ntK (p : Pres) (i : Int) : Int := if conB p = true then (if inB i 0 p.n = true then 0 else 2) else 1
def ntR (p : Pres) (i : Int) : Bool := decide (ntK p i = 0) && ntB p i.toNat
theorem ntK_1 {p : Pres} {i : Int} (h : conB p = false) : ntK p i = 1 := by unfold ntK; rw [h]; rfl
theorem ntK_2 {p : Pres} {i : Int} (h : conB p = true) (h2 : inB i 0 p.n = false) : ntK p i = 2 := by unfold ntK; rw [h, h2]; rfl
theorem ntK_0 {p : Pres} {i : Int} (h : conB p = true) (h2 : inB i 0 p.n = true) : ntK p i = 0 := by unfold ntK; rw [h, h2]; rfl
theorem ntR_ne {p : Pres} {i : Int} (h : ¬ ntK p i = 0) : ntR p i = false := by unfold ntR; rw [decide_eq_false h]; rfl
theorem ntR_0 {p : Pres} {i : Int} (h : ntK p i = 0) : ntR p i = ntB p i.toNat := by unfold ntR; rw [decide_eq_true h]; rfl
theorem ret_bi {a b : Bool} {c d : Int} (h : a = b) (h' : c = d) : Ending.returned (.tuple #[.bool a, .int .i64 c]) = .returned (.tuple #[.bool b, .int .i64 d]) := by rw [h, h']
