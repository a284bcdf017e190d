/-
  Exponent sums.
-/
import Derived.Test.YtodlagikdofjfaaProd
import Derived.Deep.RegionWith
namespace Go.Proofs.Ytodlagikdofjfaa
set_option linter.unusedVariables false
set_option linter.unusedSimpArgs false
set_option maxRecDepth 100000
open Go.RowKit

def absI (x : Int) : Int := if x < 0 then -x else x
def signI (x : Int) : Int := if x < 0 then -1 else if 0 < x then 1 else 0
--== impl.abs
theorem i_abs (x : Int) (w : World) (h : -1000000000000 ≤ x ∧ x ≤ 1000000000000) : Calls Try.prog 69 #[.int .i64 x] w fun e w' => e = .returned (.int .i64 (absI x)) ∧ w = w' := by
  obtain ⟨h1, h2⟩ := h
  by_cases hx : x < 0
  · have hx2 : x < -x := by omega
    go_enter Try.func69, Try.ntmps69
    go_wp2
    go_ret
    exact ⟨ret_int (by simp [absI, hx]), rfl⟩
  · have hx2 : ¬ x < -x := by omega
    go_enter Try.func69, Try.ntmps69
    go_wp2
    go_ret
    exact ⟨ret_int (by simp [absI]; omega), rfl⟩
--== sums
def expStep (out : List Int) (l : Int) : List Int := out.set (absI l - 1).toNat (out.getD (absI l - 1).toNat 0 + signI l)
def expW (k : Int) (w : List Int) : List Int := w.foldl expStep (List.replicate k.toNat 0)
theorem expW_succ (k : Int) (xs : List Int) (j : Nat) (h : j < xs.length) : expW k (xs.take (j + 1)) = expStep (expW k (xs.take j)) (xs.getD j 0) := by
  rw [take_snoc xs j 0 h, expW, List.foldl_append]; rfl
theorem expStep_length (out : List Int) (l : Int) : (expStep out l).length = out.length := by simp [expStep]
theorem expW_length (k : Int) (xs : List Int) : (expW k xs).length = k.toNat := by
  suffices g : ∀ (ys out : List Int), (ys.foldl expStep out).length = out.length by simpa [expW] using g xs (List.replicate k.toNat 0)
  intro ys
  induction ys with
  | nil => simp
  | cons y ys ih => intro out; rw [List.foldl_cons, ih, expStep_length]
theorem signI_bd (x : Int) : -1 ≤ signI x ∧ signI x ≤ 1 := by unfold signI; split <;> (try split) <;> omega
theorem getD_set' (xs : List Int) (i t : Nat) (y : Int) : (xs.set i y).getD t 0 = if i = t ∧ t < xs.length then y else xs.getD t 0 := by
  rw [List.getD_eq_getElem?_getD, List.getElem?_set, List.getD_eq_getElem?_getD]
  by_cases e : i = t
  · subst e
    by_cases h : i < xs.length <;> simp [h]
  · simp [e]
theorem expW_bd (k : Int) (xs : List Int) (t : Nat) : -(xs.length : Int) ≤ (expW k xs).getD t 0 ∧ (expW k xs).getD t 0 ≤ xs.length := by
  suffices g : ∀ (ys out : List Int) (m : Nat), (∀ t, -(m : Int) ≤ out.getD t 0 ∧ out.getD t 0 ≤ m) → ∀ t, -((m + ys.length : Nat) : Int) ≤ (ys.foldl expStep out).getD t 0 ∧ (ys.foldl expStep out).getD t 0 ≤ ((m + ys.length : Nat) : Int) by
    have := g xs (List.replicate k.toNat 0) 0 (fun t => by
      rw [List.getD_eq_getElem?_getD, List.getElem?_replicate]; split <;> simp) t
    simpa [expW] using this
  intro ys
  induction ys with
  | nil => intro out m h t; simpa using h t
  | cons y ys ih =>
    intro out m h t
    have := ih (expStep out y) (m + 1) (fun t => by
      unfold expStep
      rw [getD_set']
      have h1 := h t
      have h2 := h (absI y - 1).toNat
      have h3 := signI_bd y
      split <;> omega) t
    rw [List.foldl_cons, List.length_cons]
    omega
theorem letB_abs {k l : Int} (hk0 : 0 ≤ k) (h : letB k l = true) : ∃ m : Nat, absI l = (m : Int) + 1 ∧ (m : Int) < k := by
  simp only [letB, Bool.and_eq_true, bne_iff_ne] at h
  have h1 := inB_true.1 h.2
  have h2 := h.1
  refine ⟨(absI l - 1).toNat, ?_, ?_⟩ <;> (unfold absI; split <;> omega)
theorem wordB_letter {k : Int} {xs : List Int} (h : wordB k xs = true) (j : Nat) (hj : j < xs.length) : letB k (xs.getD j 0) = true := by
  simp only [wordB, Bool.and_eq_true, List.all_eq_true] at h
  exact h.1 _ (getD_mem hj)
