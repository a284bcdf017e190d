/-
  The reduced forms of words form a group (plain part).
-/
import Derived.Test.YthnpndheaailjaaSubst
namespace Go.Proofs.Ythnpndheaailjaa
set_option linter.unusedVariables false
set_option linter.unusedSimpArgs false
set_option maxRecDepth 100000
open Go.RowKit

theorem redW_snoc (xs : List Int) (l : Int) : redW (xs ++ [l]) = redStep (redW xs) l := by simp [redW, List.foldl_append]
theorem redW_app (xs ys : List Int) : redW (xs ++ ys) = ys.foldl redStep (redW xs) := by simp [redW, List.foldl_append]
theorem redStep_cases (s : List Int) (l : Int) : (∃ z, s = z ++ [-l] ∧ redStep s l = z) ∨ redStep s l = s ++ [l] := by
  unfold redStep
  by_cases h : s.getLast? = some (-l)
  · obtain ⟨z, rfl⟩ := List.getLast?_eq_some_iff.1 h
    exact .inl ⟨z, rfl, by rw [if_pos h, List.dropLast_concat]⟩
  · exact .inr (if_neg h)
theorem redStep_pops (z : List Int) (l : Int) : redStep (z ++ [-l]) l = z := by
  unfold redStep; rw [if_pos (by simp), List.dropLast_concat]
theorem redW_pre {z : List Int} {m : Int} (h : redW (z ++ [m]) = z ++ [m]) : redW z = z := by
  rw [redW_snoc] at h
  rcases redStep_cases (redW z) m with ⟨y, hy, he⟩ | he
  · rw [he] at h
    have := redW_length z
    rw [hy, h] at this
    simp at this
    omega
  · rw [he] at h
    exact List.append_cancel_right h
theorem redW_idem (xs : List Int) : redW (redW xs) = redW xs := by
  refine snoc_ind (P := fun xs => redW (redW xs) = redW xs) rfl ?_ xs
  intro xs l ih
  rw [redW_snoc]
  rcases redStep_cases (redW xs) l with ⟨z, hz, he⟩ | he
  · rw [he]
    rw [hz] at ih
    exact redW_pre ih
  · rw [he, redW_snoc, ih, he]
theorem redStep_back {s : List Int} (h : redW s = s) (l : Int) : redStep (redStep s l) (-l) = s := by
  rcases redStep_cases s l with ⟨z, rfl, he⟩ | he
  · rw [he]
    rcases redStep_cases z (-l) with ⟨y, hy, he2⟩ | he2
    · rw [Int.neg_neg] at hy
      have hz := redW_pre h
      rw [redW_snoc, hz, he2] at h
      have h2 := congrArg List.length h
      rw [hy] at h2
      simp at h2 <;> omega
    · exact he2
  · rw [he]
    have := redStep_pops s (-l)
    rwa [Int.neg_neg] at this
theorem redW_two (xs : List Int) (l : Int) : redW (xs ++ [l] ++ [-l]) = redW xs := by
  rw [redW_snoc, redW_snoc]; exact redStep_back (redW_idem xs) l
theorem redW_right (xs ys : List Int) : redW (xs ++ redW ys) = redW (xs ++ ys) := by
  refine snoc_ind (P := fun ys => redW (xs ++ redW ys) = redW (xs ++ ys)) rfl ?_ ys
  intro ys l ih
  rw [redW_snoc, ← List.append_assoc, redW_snoc, ← ih]
  rcases redStep_cases (redW ys) l with ⟨z, hz, he⟩ | he
  · rw [he, hz, ← List.append_assoc, ← redW_snoc]
    have := redW_two (xs ++ z) (-l)
    rw [Int.neg_neg] at this
    exact this.symm
  · rw [he, ← List.append_assoc, redW_snoc]
theorem redW_left (xs ys : List Int) : redW (redW xs ++ ys) = redW (xs ++ ys) := by rw [redW_app, redW_idem, ← redW_app]
theorem redW_mid {u v : List Int} (h : redW u = redW v) (x y : List Int) : redW (x ++ u ++ y) = redW (x ++ v ++ y) := by
  rw [← redW_left (x ++ u), ← redW_right x u, h, redW_right, redW_left]
theorem invW_snoc (ys : List Int) (l : Int) : invW (ys ++ [l]) = -l :: invW ys := by simp [invW]
theorem invW_app (xs ys : List Int) : invW (xs ++ ys) = invW ys ++ invW xs := by simp [invW]
theorem invW_invW (xs : List Int) : invW (invW xs) = xs := by
  simp [invW, List.map_reverse, Function.comp_def]
theorem redW_canc (xs ys : List Int) : redW (xs ++ ys ++ invW ys) = redW xs := by
  refine snoc_ind (P := fun ys => redW (xs ++ ys ++ invW ys) = redW xs) (by simp [invW]) ?_ ys
  intro ys l ih
  rw [invW_snoc, ← ih, show xs ++ (ys ++ [l]) ++ -l :: invW ys = (xs ++ ys ++ [l] ++ [-l]) ++ invW ys by simp, redW_app, redW_two, ← redW_app]
theorem redW_canc' (xs ys : List Int) : redW (xs ++ invW ys ++ ys) = redW xs := by
  have := redW_canc xs (invW ys)
  rwa [invW_invW] at this
theorem redW_comm (a b : List Int) : redW (commL a b) = [] ↔ redW (a ++ b) = redW (b ++ a) := by
  have hc : commL a b = invW a ++ invW b ++ a ++ b := by simp [commL]
  constructor
  · intro h
    rw [hc] at h
    have h1 : redW (b ++ a ++ (invW a ++ invW b ++ a ++ b)) = redW (b ++ a) := by
      rw [← redW_right, h, List.append_nil]
    have h2 : redW (b ++ a ++ (invW a ++ invW b ++ a ++ b)) = redW (a ++ b) := by
      rw [show b ++ a ++ (invW a ++ invW b ++ a ++ b) = (b ++ a ++ invW a) ++ (invW b ++ a ++ b) by simp, redW_app, redW_canc, ← redW_app,
        show b ++ (invW b ++ a ++ b) = (b ++ invW b) ++ (a ++ b) by simp, redW_app, show redW (b ++ invW b) = redW [] from redW_canc [] b, ← redW_app]
      simp
    rw [← h2, h1]
  · intro h
    rw [hc]
    have h1 := redW_mid h (invW a ++ invW b) []
    simp only [List.append_nil] at h1
    rw [show invW a ++ invW b ++ a ++ b = invW a ++ invW b ++ (a ++ b) by simp, h1,
      show invW a ++ invW b ++ (b ++ a) = (invW a ++ invW b ++ b) ++ a by simp, redW_app, redW_canc', ← redW_app]
    exact redW_canc' [] a
/-! ### words -/
theorem redW_all {f : Int → Bool} {xs : List Int} (h : xs.all f = true) : (redW xs).all f = true := by
  revert h
  refine snoc_ind (P := fun xs => xs.all f = true → (redW xs).all f = true) (fun _ => rfl) ?_ xs
  intro xs l ih h
  rw [List.all_append, Bool.and_eq_true] at h
  have h1 := ih h.1
  rw [redW_snoc]
  rcases redStep_cases (redW xs) l with ⟨z, hz, he⟩ | he
  · rw [he]; rw [hz, List.all_append, Bool.and_eq_true] at h1; exact h1.1
  · rw [he, List.all_append, h1, h.2]; rfl
theorem wordB_iff {k : Int} {xs : List Int} : wordB k xs = true ↔ xs.all (letB k) = true ∧ xs.length ≤ 64 := by simp [wordB]
theorem letB_neg {k l : Int} (h : letB k l = true) : letB k (-l) = true := by
  unfold letB at *
  simp only [Bool.and_eq_true, inB_true, bne_iff_ne, ne_eq] at *
  omega
theorem wordB_inv {k : Int} {xs : List Int} (h : wordB k xs = true) : wordB k (invW xs) = true := by
  rw [wordB_iff] at *
  refine ⟨?_, by rw [invW_length]; exact h.2⟩
  rw [List.all_eq_true] at *
  intro x hx
  unfold invW at hx
  rw [List.mem_reverse, List.mem_map] at hx
  obtain ⟨y, hy, rfl⟩ := hx
  exact letB_neg (h.1 y hy)
theorem wordB_red2 {k : Int} {xs ys : List Int} (hx : wordB k xs = true) (hy : wordB k ys = true) (hl : (redW (xs ++ ys)).length ≤ 64) : wordB k (redW (xs ++ ys)) = true := by
  rw [wordB_iff] at *
  exact ⟨redW_all (by rw [List.all_append, hx.1, hy.1]; rfl), hl⟩
end Go.Proofs.Ythnpndheaailjaa
