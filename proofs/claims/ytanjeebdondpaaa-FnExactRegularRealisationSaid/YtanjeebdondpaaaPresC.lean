/-
  Exponent vectors, the order, normal words.
-/
import Derived.Test.YtanjeebdondpaaaPresB
namespace Go.Proofs.Ytanjeebdondpaaa
set_option linter.unusedVariables false
set_option linter.unusedSimpArgs false
set_option maxRecDepth 100000
open Go.RowKit

/-! ### normal words -/
/-- small exponents -/
def SmE (xs : List Int) : Prop := xs.length ≤ 10 ∧ ∀ j, j < xs.length → ∃ m : Nat, xs.getD j 0 = (m : Int) ∧ m ≤ 10
def nwTo (xs : List Int) (i : Nat) : List Int := ((List.range i).flatMap (lwAt xs)).map fun (k : Nat) => (k : Int) + 1
def nwL (xs : List Int) : List Int := (lw xs).map fun (k : Nat) => (k : Int) + 1
theorem nwTo_all (xs : List Int) : nwTo xs xs.length = nwL xs := rfl
theorem nwTo_zero (xs : List Int) : nwTo xs 0 = [] := rfl
theorem nwTo_succ (xs : List Int) (i m : Nat) (h : xs.getD i 0 = (m : Int)) : nwTo xs (i + 1) = nwTo xs i ++ List.replicate m ((i : Int) + 1) := by
  unfold nwTo
  rw [List.range_succ, List.flatMap_append, List.map_append]
  simp only [List.flatMap_cons, List.flatMap_nil, List.append_nil, lwAt, h, Int.toNat_natCast, List.map_replicate]
theorem nwTo_len {xs : List Int} (h : SmE xs) (i : Nat) (hi : i ≤ xs.length) : (nwTo xs i).length ≤ 10 * i := by
  induction i with
  | zero => simp [nwTo]
  | succ i ih =>
    obtain ⟨m, hm, hle⟩ := h.2 i (by omega)
    rw [nwTo_succ xs i m hm, List.length_append, List.length_replicate]
    have := ih (by omega)
    omega
theorem nwL_len {xs : List Int} (h : SmE xs) : (nwL xs).length ≤ 100 := by
  have := nwTo_len h xs.length (Nat.le_refl _)
  have := h.1
  rw [← nwTo_all]; omega
theorem nwL_small {xs : List Int} (h : SmE xs) : Small (nwL xs) := by
  intro x hx
  unfold nwL at hx
  obtain ⟨k, hk, rfl⟩ := List.mem_map.1 hx
  have := mem_lw hk
  have := h.1
  omega
theorem rep_snoc (l : List Int) (k : Nat) (x : Int) : l ++ List.replicate k x ++ [x] = l ++ List.replicate (k + 1) x := by
  rw [List.append_assoc, ← List.replicate_succ']
theorem tailB_sm {os v : List Int} {z : Nat} (ho : primesB os = true) (hn : os.length ≤ 6) (h : tailB os v z = true) : SmE v := by
  obtain ⟨hl, h1⟩ := tailB_true h
  refine ⟨by omega, fun j hj => ?_⟩
  have h2 := h1 j (by omega)
  have h3 := primesB_at ho (getD_mem (xs := os) (k := j) (by omega))
  exact ⟨(v.getD j 0).toNat, by omega, by omega⟩
--== exponent vectors
def exvB (p : Pres) (xs : List Int) : Bool := validB p && tailB p.orders xs 0
theorem exvB_no {p : Pres} {xs : List Int} (h : validB p = false) : exvB p xs = false := by simp [exvB, h]
theorem exvB_yes {p : Pres} {xs : List Int} (h : validB p = true) : exvB p xs = tailB p.orders xs 0 := by simp [exvB, h]
theorem exvB_true {p : Pres} {xs : List Int} (h : exvB p xs = true) : ValidP p ∧ tailB p.orders xs 0 = true := by
  simp only [exvB, Bool.and_eq_true] at h; exact ⟨validB_true.1 h.1, h.2⟩
theorem exvB_sm {p : Pres} {xs : List Int} (h : exvB p xs = true) : SmE xs := by
  obtain ⟨h1, h2⟩ := exvB_true h
  exact tailB_sm (ordB_true h1.ord).1 h1.n6 h2
