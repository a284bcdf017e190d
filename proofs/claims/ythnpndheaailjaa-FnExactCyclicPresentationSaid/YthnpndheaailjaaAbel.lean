/-
  AbelianPresentation.
-/
import Derived.Test.YthnpndheaailjaaRp2
namespace Go.Proofs.Ythnpndheaailjaa
set_option linter.unusedVariables false
set_option linter.unusedSimpArgs false
set_option maxRecDepth 100000
open Go.RowKit

def abC (os : List Int) : Int := if os.length ≤ 6 then (if primesB os then (if prodS os ≤ 729 then 0 else 3) else 2) else 3
theorem abC_len {os : List Int} (h : ¬ os.length ≤ 6) : abC os = 3 := if_neg h
theorem abC_prime {os : List Int} (h : os.length ≤ 6) (h2 : primesB os = false) : abC os = 2 := by simp [abC, h, h2]
theorem abC_big {os : List Int} (h : os.length ≤ 6) (h2 : primesB os = true) (h3 : ¬ prodS os ≤ 729) : abC os = 3 := by simp [abC, h, h2, h3]
theorem abC_ok {os : List Int} (h : os.length ≤ 6) (h2 : primesB os = true) (h3 : prodS os ≤ 729) : abC os = 0 := by simp [abC, h, h2, h3]
theorem prodO_le7 (l : List Int) : primesB l = true → prodO l ≤ 7 ^ l.length := by
  refine snoc_ind (P := fun l => primesB l = true → prodO l ≤ 7 ^ l.length) ?_ ?_ l
  · intro _; simp [prodO]
  · intro l o ih h
    rw [primesB_snoc, Bool.and_eq_true] at h
    have h1 := ih h.1
    have ho := primeB_true.1 h.2
    have h0 := (prod_both l h.1).1
    rw [prodO_snoc, List.length_append, List.length_cons, List.length_nil, Nat.zero_add, Int.pow_succ]
    generalize prodO l = x at *
    generalize (7 : Int) ^ l.length = y at *
    rcases ho with rfl | rfl | rfl | rfl <;> omega
theorem prodO_take_bd {os : List Int} {j : Nat} (h : primesB (os.take j) = true) (hl : os.length ≤ 6) : 1 ≤ prodO (os.take j) ∧ prodO (os.take j) ≤ 117649 := by
  have h1 := prodO_le7 _ h
  have h2 : (os.take j).length ≤ 6 := by rw [List.length_take]; omega
  have h3 : (7 : Int) ^ (os.take j).length ≤ 7 ^ 6 := by
    generalize (os.take j).length = n at h2
    match n, h2 with
    | 0, _ => decide
    | 1, _ => decide
    | 2, _ => decide
    | 3, _ => decide
    | 4, _ => decide
    | 5, _ => decide
    | 6, _ => decide
  have h4 := (prod_both _ h).1
  omega
--== size of the trivial one
theorem triv_size (os : List Int) (h : os.length ≤ 6) : psize (triv os) ≤ 1000000000 := by
  have h1 : ∀ n j, (cat (trivPow n j)).length = n * j := by
    intro n j
    induction j with
    | zero => simp [cat, trivPow]
    | succ j ih => rw [trivPow_succ]; unfold cat at *; simp [zrow, ih, Nat.mul_succ]
  have h2 : ∀ n i m, (cat (trivRow n i m)).length = n * m := by
    intro n i m
    induction m with
    | zero => simp [cat, trivRow]
    | succ m ih => rw [trivRow_succ]; unfold cat at *; simp [unitL_length, ih, Nat.mul_succ]
  have h3 : ∀ n j, n ≤ 6 → tot size2 (trivConj n j) ≤ 42 * j := by
    intro n j hn
    induction j with
    | zero => simp [tot, trivConj]
    | succ j ih =>
      have e : size2 (trivRow n j (n - 1 - j)) ≤ 42 := by
        unfold size2; rw [h2, trivRow_len]
        have : n * (n - 1 - j) ≤ 6 * 6 := Nat.mul_le_mul hn (by omega)
        omega
      rw [trivConj_succ]; unfold tot at *; simp only [List.map_append, List.sum_append, List.map_cons, List.map_nil, List.sum_cons, List.sum_nil]; omega
  have h4 := h3 os.length os.length h
  have h5 : os.length * os.length ≤ 6 * 6 := Nat.mul_le_mul h h
  unfold psize size2 size3 triv trivP
  simp only
  rw [h1, trivPow_len, trivConj_len]; omega
theorem noP_size : psize noP ≤ 1000000000 := by simp [psize, noP, size2, size3, cat, tot]
theorem abC_six {os : List Int} (h : abC os = 0) : os.length ≤ 6 := by
  by_cases h6 : os.length ≤ 6
  · exact h6
  · rw [abC_len h6] at h; omega
theorem len_AbelianPresentation (os : List Int) : psize (okP (abC os) (triv os)) ≤ 1000000000 := by
  by_cases h : abC os = 0
  · rw [h]; exact triv_size os (abC_six h)
  · rw [okP_ne _ h]; exact noP_size
end Go.Proofs.Ythnpndheaailjaa
