/-
  The reference's direct product.
-/
import Derived.Test.YtnedihpppbjmdaaGreatDoorAbi
namespace Go.Proofs.YtnedihpppbjmdaaGreatDoor
set_option linter.unusedVariables false
set_option linter.unusedSimpArgs false
set_option maxRecDepth 100000
open Go.RowKit

theorem sortP_perm_eq {S S' : List Nat} (h : S.Perm S') : sortP S = sortP S' := sortP_uniq ((sortP_perm S).trans h) (sortP_sorted S)
theorem grp_perm_eq {S S' : List Nat} (h : S.Perm S') (p : Nat) : grp S p = grp S' p := by unfold grp; rw [sortP_perm_eq h]
theorem colS_perm {S S' : List Nat} (h : S.Perm S') : colS S = colS S' := by
  have e : (fun p => (grp S p).reverse) = fun p => (grp S' p).reverse := funext fun p => by rw [grp_perm_eq h]
  unfold colS
  rw [e]
theorem maxN_le {l : List Nat} {m : Nat} (h : ∀ x ∈ l, x ≤ m) : maxN l ≤ m := by
  induction l with
  | nil => exact Nat.zero_le _
  | cons a l ih =>
    simp only [maxN, List.foldr_cons] at *
    have := h a (by simp); have := ih fun x hx => h x (List.mem_cons_of_mem _ hx); omega
theorem colS_len (S : List Nat) : (colS S).length ≤ S.length := by
  unfold colS
  rw [foldU_length]
  apply maxN_le
  intro x hx
  simp only [List.map_map, List.mem_map, Function.comp] at hx
  obtain ⟨p, _, rfl⟩ := hx
  rw [List.length_reverse, (grp_perm S p).length_eq]
  exact List.length_filter_le _ _
theorem SumO.perm {S S' fs : List Nat} {r0 r k : Int} (hp : S.Perm S') (h : SumO S r0 fs r k) : SumO S' r0 fs r k := by unfold SumO at *; rw [← colS_perm hp]; exact h
--== three boxes
theorem below_allocs3' (w : World) (o o' o'' : Obj) : Below w.heap.size w (((w.alloc o).alloc o').alloc o'') := below_size (below_size (below_alloc w o) (below_alloc _ o')) (below_alloc _ o'')
