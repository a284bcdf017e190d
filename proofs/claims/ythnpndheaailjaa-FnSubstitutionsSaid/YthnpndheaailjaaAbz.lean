/-
  Exponent sums of products and of substitutions (plain part).
-/
import Derived.Test.YthnpndheaailjaaFre
namespace Go.Proofs.Ythnpndheaailjaa
set_option linter.unusedVariables false
set_option linter.unusedSimpArgs false
set_option maxRecDepth 100000
open Go.RowKit

theorem mul_bd {a b : Int} (ha : -64 ≤ a ∧ a ≤ 64) (hb : -64 ≤ b ∧ b ≤ 64) : -4096 ≤ a * b ∧ a * b ≤ 4096 := by
  have h1 : 0 ≤ (64 - a) * (64 + b) := Int.mul_nonneg (by omega) (by omega)
  have h2 : 0 ≤ (64 + a) * (64 - b) := Int.mul_nonneg (by omega) (by omega)
  have h3 : 0 ≤ (64 - a) * (64 - b) := Int.mul_nonneg (by omega) (by omega)
  have h4 : 0 ≤ (64 + a) * (64 + b) := Int.mul_nonneg (by omega) (by omega)
  rw [Int.mul_add, Int.sub_mul, Int.sub_mul] at h1
  rw [Int.mul_sub, Int.add_mul, Int.add_mul] at h2
  rw [Int.mul_sub, Int.sub_mul, Int.sub_mul] at h3
  rw [Int.mul_add, Int.add_mul, Int.add_mul] at h4
  generalize a * b = c at *
  omega
/-- the sum of the exponents of generator t -/
def cntF (t : Nat) (l : Int) : Int := if (absI l - 1).toNat = t then signI l else 0
def cnt (t : Nat) (xs : List Int) : Int := xs.foldl (fun u l => u + cntF t l) 0
theorem cnt_nil (t : Nat) : cnt t [] = 0 := rfl
theorem cnt_snoc (t : Nat) (xs : List Int) (l : Int) : cnt t (xs ++ [l]) = cnt t xs + cntF t l := by simp [cnt, List.foldl_append]
theorem cnt_app (t : Nat) (xs ys : List Int) : cnt t (xs ++ ys) = cnt t xs + cnt t ys := by
  refine snoc_ind (P := fun ys => cnt t (xs ++ ys) = cnt t xs + cnt t ys) (by simp [cnt_nil]) ?_ ys
  intro ys l ih
  rw [← List.append_assoc, cnt_snoc, ih, cnt_snoc]; omega
theorem cnt_cons (t : Nat) (l : Int) (xs : List Int) : cnt t (l :: xs) = cntF t l + cnt t xs := by
  have := cnt_app t [l] xs
  rw [show [l] ++ xs = l :: xs from rfl] at this
  rw [this]
  have h1 := cnt_snoc t [] l
  rw [List.nil_append] at h1
  rw [h1, cnt_nil]; omega
theorem cntF_neg (t : Nat) (l : Int) : cntF t (-l) = - cntF t l := by
  have ha : absI (-l) = absI l := by unfold absI; split <;> split <;> omega
  have hs : signI (-l) = - signI l := by unfold signI; split <;> split <;> (try split) <;> (try split) <;> omega
  unfold cntF
  rw [ha, hs]
  split <;> omega
theorem cntF_bd (t : Nat) (l : Int) : -1 ≤ cntF t l ∧ cntF t l ≤ 1 := by
  have := signI_bd l
  unfold cntF; split <;> omega
theorem cnt_bd (t : Nat) (xs : List Int) : -(xs.length : Int) ≤ cnt t xs ∧ cnt t xs ≤ xs.length := by
  refine snoc_ind (P := fun xs => -(xs.length : Int) ≤ cnt t xs ∧ cnt t xs ≤ xs.length) (by simp [cnt_nil]) ?_ xs
  intro xs l ih
  have := cntF_bd t l
  rw [cnt_snoc, List.length_append, List.length_cons, List.length_nil]
  omega
theorem cnt_inv (t : Nat) (xs : List Int) : cnt t (invW xs) = - cnt t xs := by
  refine snoc_ind (P := fun xs => cnt t (invW xs) = - cnt t xs) (by simp [invW, cnt_nil]) ?_ xs
  intro xs l ih
  rw [invW_snoc, cnt_cons, cntF_neg, ih, cnt_snoc]; omega
theorem cnt_red (t : Nat) (xs : List Int) : cnt t (redW xs) = cnt t xs := by
  refine snoc_ind (P := fun xs => cnt t (redW xs) = cnt t xs) rfl ?_ xs
  intro xs l ih
  rw [redW_snoc, cnt_snoc, ← ih]
  rcases redStep_cases (redW xs) l with ⟨z, hz, he⟩ | he
  · rw [he, hz, cnt_snoc, cntF_neg]; omega
  · rw [he, cnt_snoc]
theorem expW_snoc (k : Int) (xs : List Int) (l : Int) : expW k (xs ++ [l]) = expStep (expW k xs) l := by simp [expW, List.foldl_append]
theorem expW_cnt (k : Int) (xs : List Int) {t : Nat} (ht : t < k.toNat) : (expW k xs).getD t 0 = cnt t xs := by
  refine snoc_ind (P := fun xs => (expW k xs).getD t 0 = cnt t xs) (by simp [expW, cnt_nil, List.getD, ht]) ?_ xs
  intro xs l ih
  rw [expW_snoc, cnt_snoc, ← ih]
  unfold expStep
  rw [getD_set', expW_length]
  unfold cntF
  by_cases h : (absI l - 1).toNat = t
  · rw [if_pos ⟨h, ht⟩, if_pos h, h]
  · rw [if_neg (fun hh => h hh.1), if_neg h, Int.add_zero]
/-- a sum over the letters of a word -/
def wsum (f : Int → Int) (w : List Int) : Int := w.foldl (fun u l => u + f l) 0
theorem wsum_snoc (f : Int → Int) (w : List Int) (l : Int) : wsum f (w ++ [l]) = wsum f w + f l := by simp [wsum, List.foldl_append]
def imgF (t : Nat) (images : List (List Int)) (l : Int) : Int := signI l * cnt t (images.getD (absI l - 1).toNat [])
theorem subL_snoc (w : List Int) (images : List (List Int)) (l : Int) : subL (w ++ [l]) images = subL w images ++ letImg images l := by simp [subL]
theorem subL_app (w v : List Int) (images : List (List Int)) : subL (w ++ v) images = subL w images ++ subL v images := by simp [subL]
theorem letImg_cnt (t : Nat) (images : List (List Int)) {l : Int} (h : l ≠ 0) : cnt t (letImg images l) = imgF t images l := by
  unfold letImg imgF
  by_cases hp : 0 < l
  · have ha : absI l = l := by unfold absI; rw [if_neg (by omega)]
    have hs : signI l = 1 := by unfold signI; rw [if_neg (by omega), if_pos hp]
    rw [if_pos hp, ha, hs, Int.one_mul]
  · have ha : absI l = -l := by unfold absI; rw [if_pos (by omega)]
    have hs : signI l = -1 := by unfold signI; rw [if_pos (by omega)]
    rw [if_neg hp, ha, hs, cnt_inv]; omega
theorem subL_cnt (t : Nat) (images : List (List Int)) (w : List Int) : (∀ l ∈ w, l ≠ 0) → cnt t (subL w images) = wsum (imgF t images) w := by
  refine snoc_ind (P := fun w => (∀ l ∈ w, l ≠ 0) → cnt t (subL w images) = wsum (imgF t images) w) (fun _ => rfl) ?_ w
  intro w l ih h
  rw [subL_snoc, cnt_app, ih (fun x hx => h x (by simp [hx])), letImg_cnt t images (h l (by simp)), wsum_snoc]
/-- the sum of the products -/
def dotT (w : List Int) (images : List (List Int)) (t : Nat) : Nat → Int
  | 0 => 0
  | n + 1 => dotT w images t n + cnt n w * cnt t (images.getD n [])
theorem dotT_snoc (w : List Int) (images : List (List Int)) (t : Nat) (l : Int) (n : Nat) : dotT (w ++ [l]) images t n = dotT w images t n + if (absI l - 1).toNat < n then imgF t images l else 0 := by
  induction n with
  | zero => simp [dotT]
  | succ n ih =>
    unfold dotT
    rw [ih, cnt_snoc, Int.add_mul]
    unfold cntF
    by_cases h : (absI l - 1).toNat = n
    · have h1 : imgF t images l = signI l * cnt t (images.getD n []) := by unfold imgF; rw [h]
      rw [if_neg (by omega), if_pos h, if_pos (by omega), h1]; omega
    · rw [if_neg h, Int.zero_mul]
      by_cases h2 : (absI l - 1).toNat < n
      · rw [if_pos h2, if_pos (by omega)]; omega
      · rw [if_neg h2, if_neg (by omega)]; omega
theorem dotT_all (images : List (List Int)) (t K : Nat) (w : List Int) : (∀ l ∈ w, (absI l - 1).toNat < K) → dotT w images t K = wsum (imgF t images) w := by
  refine snoc_ind (P := fun w => (∀ l ∈ w, (absI l - 1).toNat < K) → dotT w images t K = wsum (imgF t images) w) ?_ ?_ w
  · intro hk
    clear hk
    show dotT [] images t K = 0
    induction K with
    | zero => rfl
    | succ n ih => unfold dotT; rw [ih, cnt_nil]; omega
  · intro w l ih h
    rw [dotT_snoc, ih (fun x hx => h x (by simp [hx])), if_pos (h l (by simp)), wsum_snoc]
theorem dot_bd {w : List Int} {images : List (List Int)} {t : Nat} (hw : w.length ≤ 64) (hi : ∀ n, (images.getD n []).length ≤ 64) (n : Nat) :
    -(4096 * (n : Int)) ≤ dotT w images t n ∧ dotT w images t n ≤ 4096 * (n : Int) := by
  induction n with
  | zero => simp [dotT]
  | succ n ih =>
    unfold dotT
    have h1 := cnt_bd n w
    have h2 := cnt_bd t (images.getD n [])
    have h3 := hi n
    generalize cnt n w = a at *
    generalize cnt t (images.getD n []) = b at *
    have ha : -64 ≤ a ∧ a ≤ 64 := by omega
    have hb : -64 ≤ b ∧ b ≤ 64 := by omega
    have := mul_bd ha hb
    omega
/-- what the sums of the product must be -/
theorem subst_sums {k m : Int} {w : List Int} {images : List (List Int)} (hk0 : 0 ≤ k) (hw : wordB k w = true) {t : Nat} (ht : t < m.toNat) :
    (expW m (redW (subL w images))).getD t 0 = dotT w images t k.toNat := by
  have hl : ∀ l ∈ w, l ≠ 0 ∧ (absI l - 1).toNat < k.toNat := by
    intro l hl
    have h1 := List.all_eq_true.1 (wordB_iff.1 hw).1 l hl
    obtain ⟨q, h2, h3⟩ := letB_abs hk0 h1
    refine ⟨?_, by omega⟩
    rintro rfl
    simp [absI] at h2
    omega
  rw [expW_cnt m _ ht, cnt_red, subL_cnt t images w (fun l h => (hl l h).1), dotT_all images t _ w (fun l h => (hl l h).2)]
end Go.Proofs.Ythnpndheaailjaa
