/-
  What the law on the group of words asks (plain part).
-/
import Derived.Test.YthnpndheaailjaaFre
namespace Go.Proofs.Ythnpndheaailjaa
set_option linter.unusedVariables false
set_option linter.unusedSimpArgs false
set_option maxRecDepth 100000
open Go.RowKit

theorem codeOf_all {k : Int} {ws : List (List Int)} (hk : inB k 0 6 = true) (h : ∀ x ∈ ws, wordB k x = true) : codeOf k ws = 0 := by
  rw [codeOf_in _ hk, if_pos (List.all_eq_true.2 h)]
theorem prodC_zero {c0 : Int} {xs : List Int} (h : prodC c0 xs = 0) : c0 = 0 ∧ (redW xs).length ≤ 64 ∧ prodL c0 xs = redW xs := by
  by_cases hc : c0 = 0
  · obtain ⟨h1, h2⟩ := prodL_zero xs hc
    by_cases hl : (redW xs).length ≤ 64
    · exact ⟨hc, hl, by rw [h1, (codeS_in hl).2]⟩
    · rw [h2, (codeS_out hl).1] at h; omega
  · rw [(prodL_ne xs hc).2] at h; exact absurd h hc
theorem prod_fit {c0 : Int} {xs : List Int} (hc : c0 = 0) (hl : (redW xs).length ≤ 64) : prodC c0 xs = 0 ∧ prodL c0 xs = redW xs := by
  obtain ⟨h1, h2⟩ := prodL_zero xs hc
  rw [h1, h2, (codeS_in hl).1, (codeS_in hl).2]
  exact ⟨rfl, rfl⟩
theorem prod_long {c0 : Int} {xs : List Int} (hc : c0 = 0) (hl : ¬ (redW xs).length ≤ 64) : prodC c0 xs = 3 ∧ prodL c0 xs = [] := by
  obtain ⟨h1, h2⟩ := prodL_zero xs hc
  rw [h1, h2, (codeS_out hl).1, (codeS_out hl).2]
  exact ⟨rfl, rfl⟩
theorem prod_codes {c0 : Int} {xs : List Int} (hc : c0 = 0) : prodC c0 xs = 0 ∨ prodC c0 xs = 3 := by
  by_cases hl : (redW xs).length ≤ 64
  · exact .inl (prod_fit hc hl).1
  · exact .inr (prod_long hc hl).1
theorem wg_codes (k : Int) (xs ys : List Int) : ¬ prodC (codeOf k [xs, ys]) (commL xs ys) = 0 ∨ ((prodC (codeOf k [xs, ys]) (xs ++ ys) = 0 ∨ prodC (codeOf k [xs, ys]) (xs ++ ys) = 3) ∧ (prodC (codeOf k [ys, xs]) (ys ++ xs) = 0 ∨ prodC (codeOf k [ys, xs]) (ys ++ xs) = 3)) := by
  by_cases hc : codeOf k [xs, ys] = 0
  · refine .inr ⟨prod_codes hc, prod_codes ?_⟩
    obtain ⟨hk, hw⟩ := codeOf_zero hc
    exact codeOf_all (inB_true.2 hk) fun x hx => hw x (by simp at hx ⊢; exact hx.symm)
  · exact .inl (by rw [(prodL_ne _ hc).2]; exact hc)
def WgOut (k : Int) (xs ys R : List Int) : Prop :=
  codeOf k [xs] = 0 ∧ prodL (codeOf k [xs, ys]) (xs ++ ys) = redW (xs ++ ys) ∧ prodL (codeOf k [ys, xs]) (ys ++ xs) = redW (ys ++ xs) ∧
  prodL (codeOf k [xs, invW xs]) (xs ++ invW xs) = [] ∧ prodC (codeOf k [xs, invW xs]) (xs ++ invW xs) = 0 ∧
  prodL (codeOf k [redW (xs ++ ys), xs]) (redW (xs ++ ys) ++ xs) = R ∧ prodL (codeOf k [xs, redW (ys ++ xs)]) (xs ++ redW (ys ++ xs)) = R ∧
  ((prodC (codeOf k [redW (xs ++ ys), xs]) (redW (xs ++ ys) ++ xs) = 0 ∧ prodC (codeOf k [xs, redW (ys ++ xs)]) (xs ++ redW (ys ++ xs)) = 0 ∧ isRedB k R = true) ∨
   (prodC (codeOf k [redW (xs ++ ys), xs]) (redW (xs ++ ys) ++ xs) = 3 ∧ prodC (codeOf k [xs, redW (ys ++ xs)]) (xs ++ redW (ys ++ xs)) = 3)) ∧
  (prodC (codeOf k [xs, ys]) (commL xs ys) = 0 → ((prodL (codeOf k [xs, ys]) (commL xs ys)).length = 0 ↔ redW (xs ++ ys) = redW (ys ++ xs)))
theorem wg_main {k : Int} {xs ys : List Int} (h3 : prodC (codeOf k [xs, ys]) (xs ++ ys) = 0) (h4 : prodC (codeOf k [ys, xs]) (ys ++ xs) = 0) : ∃ R, WgOut k xs ys R := by
  obtain ⟨hc, hl3, e3⟩ := prodC_zero h3
  obtain ⟨_, hl4, e4⟩ := prodC_zero h4
  obtain ⟨hk, hw⟩ := codeOf_zero hc
  have hki := inB_true.2 hk
  have hx : wordB k xs = true := hw xs (by simp)
  have hy : wordB k ys = true := hw ys (by simp)
  have hab := wordB_red2 hx hy hl3
  have hba := wordB_red2 hy hx hl4
  have two : ∀ {a b : List Int}, wordB k a = true → wordB k b = true → codeOf k [a, b] = 0 := fun ha hb => codeOf_all hki fun x hx => by
    simp only [List.mem_cons, List.not_mem_nil, or_false] at hx
    rcases hx with rfl | rfl
    · exact ha
    · exact hb
  have eR1 : redW (redW (xs ++ ys) ++ xs) = redW (xs ++ ys ++ xs) := redW_left _ _
  have eR2 : redW (xs ++ redW (ys ++ xs)) = redW (xs ++ ys ++ xs) := by rw [redW_right, List.append_assoc]
  have hinv : redW (xs ++ invW xs) = [] := redW_canc [] xs
  have p1 := prod_fit (two hx (wordB_inv hx)) (by rw [hinv]; simp)
  rw [hinv] at p1
  have hC : prodC (codeOf k [xs, ys]) (commL xs ys) = 0 → ((prodL (codeOf k [xs, ys]) (commL xs ys)).length = 0 ↔ redW (xs ++ ys) = redW (ys ++ xs)) := fun hcc => by
    rw [(prodC_zero hcc).2.2, ← redW_comm]
    exact ⟨List.eq_nil_of_length_eq_zero, fun e => by rw [e]; rfl⟩
  have hs : codeOf k [xs] = 0 := codeOf_all hki fun x hx' => by simp at hx'; subst hx'; exact hx
  by_cases hl : (redW (xs ++ ys ++ xs)).length ≤ 64
  · obtain ⟨a1, a2⟩ := prod_fit (xs := redW (xs ++ ys) ++ xs) (two hab hx) (by rw [eR1]; exact hl)
    obtain ⟨b1, b2⟩ := prod_fit (xs := xs ++ redW (ys ++ xs)) (two hx hba) (by rw [eR2]; exact hl)
    rw [eR1] at a2
    rw [eR2] at b2
    refine ⟨redW (xs ++ ys ++ xs), hs, e3, e4, p1.2, p1.1, a2, b2, .inl ⟨a1, b1, ?_⟩, hC⟩
    have hwR : wordB k (redW (xs ++ ys ++ xs)) = true := by
      have := wordB_red2 hab hx (by rw [eR1]; exact hl)
      rwa [eR1] at this
    rw [isRedB, isWordB, hki, hwR, redW_idem]
    simp
  · obtain ⟨a1, a2⟩ := prod_long (xs := redW (xs ++ ys) ++ xs) (two hab hx) (by rw [eR1]; exact hl)
    obtain ⟨b1, b2⟩ := prod_long (xs := xs ++ redW (ys ++ xs)) (two hx hba) (by rw [eR2]; exact hl)
    exact ⟨[], hs, e3, e4, p1.2, p1.1, a2, b2, .inr ⟨a1, b1⟩, hC⟩
end Go.Proofs.Ythnpndheaailjaa
