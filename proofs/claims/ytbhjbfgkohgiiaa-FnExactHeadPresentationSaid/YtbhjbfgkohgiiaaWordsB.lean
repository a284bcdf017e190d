/-
  Words: the reduced form, the inverse, the codes.
-/
import Derived.Test.YtbhjbfgkohgiiaaWordsA
namespace Go.Proofs.Ytbhjbfgkohgiiaa
set_option linter.unusedVariables false
set_option linter.unusedSimpArgs false
set_option maxRecDepth 100000
open Go.RowKit

/-! ### the reduced form, as a fold -/
def redStep (out : List Int) (l : Int) : List Int := if out.getLast? = some (-l) then out.dropLast else out ++ [l]
def redW (xs : List Int) : List Int := xs.foldl redStep []
theorem redW_succ (xs : List Int) (k : Nat) (h : k < xs.length) : redW (xs.take (k + 1)) = redStep (redW (xs.take k)) (xs.getD k 0) := by
  rw [take_snoc xs k 0 h, redW, List.foldl_append]; rfl
theorem redStep_empty {out : List Int} (l : Int) (h : out.length = 0) : redStep out l = out ++ [l] := by
  have : out = [] := List.eq_nil_of_length_eq_zero h
  subst this; simp [redStep]
theorem getLast_getD {out : List Int} (h : 0 < out.length) : out.getLast? = some (out.getD (out.length - 1) 0) := by
  rw [List.getLast?_eq_getElem?, List.getElem?_eq_getElem (by omega)]
  simp [List.getD, show out.length - 1 < out.length by omega]
theorem redStep_pop {out : List Int} {l : Int} (h : 0 < out.length) (h2 : out.getD (out.length - 1) 0 = -l) : redStep out l = out.take (out.length - 1) := by
  unfold redStep
  rw [getLast_getD h, h2, if_pos rfl, List.dropLast_eq_take]
theorem redStep_push {out : List Int} {l : Int} (h : 0 < out.length) (h2 : out.getD (out.length - 1) 0 ≠ -l) : redStep out l = out ++ [l] := by
  unfold redStep
  rw [getLast_getD h, if_neg (by simpa using h2)]
theorem redStep_length (out : List Int) (l : Int) : (redStep out l).length ≤ out.length + 1 := by
  unfold redStep; split <;> simp
  omega
theorem redW_length (xs : List Int) : (redW xs).length ≤ xs.length := by
  suffices h : ∀ (xs out : List Int), (xs.foldl redStep out).length ≤ out.length + xs.length by simpa [redW] using h xs []
  intro xs
  induction xs with
  | nil => simp
  | cons x xs ih => intro out; have := ih (redStep out x); have := redStep_length out x; simp only [List.foldl_cons, List.length_cons]; omega

/-- numbers that can be negated -/
def Small (xs : List Int) : Prop := ∀ x ∈ xs, -1000000000 ≤ x ∧ x ≤ 1000000000
theorem Small.getD {xs : List Int} (h : Small xs) (j : Nat) (hj : j < xs.length) : -1000000000 ≤ xs.getD j 0 ∧ xs.getD j 0 ≤ 1000000000 := h _ (getD_mem hj)
theorem redW_small {xs : List Int} (h : Small xs) : Small (redW xs) := by
  suffices g : ∀ (ys out : List Int), Small ys → Small out → Small (ys.foldl redStep out) by
    exact g xs [] h fun x hx => by cases hx
  intro ys
  induction ys with
  | nil => intro out _ ho; exact ho
  | cons y ys ih =>
    intro out hy ho
    refine ih _ (fun x hx => hy x (List.mem_cons_of_mem _ hx)) fun x hx => ?_
    unfold redStep at hx
    split at hx
    · exact ho x (List.dropLast_subset _ hx)
    · rcases List.mem_append.1 hx with hx | hx
      · exact ho x hx
      · simp at hx; subst hx; exact hy x (List.mem_cons_self)

--== blocks that a call makes
/-- an empty slice that is not nil -/
theorem Ints.empty (w : World) : Ints (w.alloc (.cells #[] 2)) w.heap.size (.slice (some ⟨w.heap.size, 0, none⟩) 0 0) [] :=
  ⟨rfl, .inr ⟨w.heap.size, 0, #[], rfl, Nat.le_refl _, heap_alloc_new w _, Nat.le_refl _, by simp [maxLen], rfl, rfl⟩⟩
theorem below_alloc (w : World) (o : Obj) : Below w.heap.size w (w.alloc o) := (Below.refl _ _).alloc (Nat.le_refl _) o
