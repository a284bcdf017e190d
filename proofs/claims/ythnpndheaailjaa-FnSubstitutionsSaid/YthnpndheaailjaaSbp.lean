/-
  What the law on substitutions asks (plain part).
-/
import Derived.Test.YthnpndheaailjaaGrw
import Derived.Test.YthnpndheaailjaaAbz
namespace Go.Proofs.Ythnpndheaailjaa
set_option linter.unusedVariables false
set_option linter.unusedSimpArgs false
set_option maxRecDepth 100000
open Go.RowKit

theorem Ints.cellsG {w : World} {B g n cap : Nat} {xs : List Int} (h : Ints w B (.slice (some ⟨g, 0, none⟩) n cap) xs) (hn : xs.length = n) : (∀ j, j < n → w.cell? ⟨g, j, none⟩ = some (.int .i64 (xs.getD j 0))) ∧ ∀ j, w.frozen? ⟨g, j, none⟩ = false := by
  subst hn
  have h1 : w.ownsRow B 2 1 (.slice (some ⟨g, 0, none⟩) xs.length cap) xs.length (xs.map (Value.int .i64)) := h
  exact ⟨fun j hj => by rw [h1.cellAt j (by omega), getD_map_int xs j hj], fun j => h1.frozenAt j⟩
theorem subC_zero {k m : Int} {w : List Int} {images : List (List Int)} (h : subC k w m images = 0) : inB k 0 6 = true ∧ inB m 0 6 = true ∧ wordB k w = true ∧ (images.length : Int) = k ∧ allW m images = true := by
  unfold subC at h
  split at h
  · rename_i h1
    rw [Bool.and_eq_true] at h1
    split at h
    · rename_i h2
      rw [Bool.and_eq_true, Bool.and_eq_true, decide_eq_true_eq] at h2
      exact ⟨h1.1, h1.2, h2.1, h2.2.1, h2.2.2⟩
    · omega
  · omega
theorem subC_of {k m : Int} {w : List Int} {images : List (List Int)} (hk : inB k 0 6 = true) (hm : inB m 0 6 = true) (hw : wordB k w = true) (hl : (images.length : Int) = k) (hi : allW m images = true) : subC k w m images = 0 := by
  rw [subC_in hk hm, hw, hi, decide_eq_true hl]; rfl
theorem letImg_word {m : Int} {images : List (List Int)} (h : allW m images = true) (l : Int) : (letImg images l).all (letB m) = true := by
  unfold letImg
  split
  · exact (wordB_iff.1 (allW_at h _)).1
  · exact (wordB_iff.1 (wordB_inv (allW_at h _))).1
theorem subL_let {m : Int} {images : List (List Int)} (h : allW m images = true) (w : List Int) : (subL w images).all (letB m) = true := by
  rw [List.all_eq_true]
  intro x hx
  obtain ⟨l, _, hl⟩ := List.mem_flatMap.1 hx
  exact List.all_eq_true.1 (letImg_word h l) x hl
theorem word_cut {k : Int} {w : List Int} (h : wordB k w = true) (c : Nat) : wordB k (w.take c) = true ∧ wordB k (w.drop c) = true := by
  rw [wordB_iff] at h
  have h1 := List.all_eq_true.1 h.1
  refine ⟨wordB_iff.2 ⟨List.all_eq_true.2 fun x hx => h1 x (List.mem_of_mem_take hx), by rw [List.length_take]; omega⟩, wordB_iff.2 ⟨List.all_eq_true.2 fun x hx => h1 x (List.mem_of_mem_drop hx), by rw [List.length_drop]; omega⟩⟩
theorem word_red {m : Int} {L : List Int} (h : L.all (letB m) = true) (hl : (redW L).length ≤ 64) : wordB m (redW L) = true := wordB_iff.2 ⟨redW_all h, hl⟩
def sbC (k m : Int) (w : List Int) (images : List (List Int)) : Int := prodC (subC k w m images) (subL w images)
def sbL (k m : Int) (w : List Int) (images : List (List Int)) : List Int := prodL (subC k w m images) (subL w images)
theorem sb_main {k m : Int} {w : List Int} {images : List (List Int)} (h : sbC k m w images = 0) (c : Nat) :
    ∃ K M : Nat, k = (K : Int) ∧ m = (M : Int) ∧ K ≤ 6 ∧ M ≤ 6 ∧ images.length = K ∧ wordB k w = true ∧ allW m images = true ∧ codeOf k [w] = 0 ∧ sbL k m w images = redW (subL w images) ∧ codeOf m [redW (subL w images)] = 0 ∧
      (∀ i, codeOf m [images.getD i []] = 0) ∧ (sbC k m (w.take c) images = 0 ∨ sbC k m (w.take c) images = 3) ∧ (sbC k m (w.drop c) images = 0 ∨ sbC k m (w.drop c) images = 3) ∧
      (sbC k m (w.take c) images = 0 → sbC k m (w.drop c) images = 0 → prodC (codeOf m [sbL k m (w.take c) images, sbL k m (w.drop c) images]) (sbL k m (w.take c) images ++ sbL k m (w.drop c) images) = 0 ∧
        prodL (codeOf m [sbL k m (w.take c) images, sbL k m (w.drop c) images]) (sbL k m (w.take c) images ++ sbL k m (w.drop c) images) = redW (subL w images)) := by
  unfold sbC at h
  obtain ⟨h0, hl, he⟩ := prodC_zero h
  obtain ⟨hk, hm, hw, hn, hi⟩ := subC_zero h0
  obtain ⟨k0, k6⟩ := inB_true.1 hk
  obtain ⟨m0, m6⟩ := inB_true.1 hm
  obtain ⟨w1, w2⟩ := word_cut hw c
  have s1 := subC_of hk hm w1 hn hi
  have s2 := subC_of hk hm w2 hn hi
  have one : ∀ {q : Int} {x : List Int}, inB q 0 6 = true → wordB q x = true → codeOf q [x] = 0 := fun hq hx => codeOf_all hq fun y hy => by simp at hy; subst hy; exact hx
  refine ⟨k.toNat, m.toNat, by omega, by omega, by omega, by omega, by omega, hw, hi, one hk hw, he, one hm (word_red (subL_let hi w) hl), fun i => one hm (allW_at hi i), prod_codes s1, prod_codes s2, fun e1 e2 => ?_⟩
  unfold sbC at e1 e2
  obtain ⟨_, l1, p1⟩ := prodC_zero e1
  obtain ⟨_, l2, p2⟩ := prodC_zero e2
  have q1 := word_red (subL_let hi (w.take c)) l1
  have q2 := word_red (subL_let hi (w.drop c)) l2
  unfold sbL
  rw [p1, p2]
  have hR : redW (redW (subL (w.take c) images) ++ redW (subL (w.drop c) images)) = redW (subL w images) := by
    rw [redW_left, redW_right, ← subL_app, List.take_append_drop]
  have hc : codeOf m [redW (subL (w.take c) images), redW (subL (w.drop c) images)] = 0 := codeOf_all hm fun x hx => by
    simp only [List.mem_cons, List.not_mem_nil, or_false] at hx
    rcases hx with rfl | rfl
    · exact q1
    · exact q2
  have := prod_fit (xs := redW (subL (w.take c) images) ++ redW (subL (w.drop c) images)) hc (by rw [hR]; exact hl)
  rw [hR] at this
  exact this
/-- the sums after i generators, and the first j of the next -/
def totJ (w : List Int) (images : List (List Int)) (M i j : Nat) : List Int := (List.range M).map fun t => if t < j then dotT w images t (i + 1) else dotT w images t i
theorem totJ_len (w : List Int) (images : List (List Int)) (M i j : Nat) : (totJ w images M i j).length = M := by simp [totJ]
theorem totJ_at (w : List Int) (images : List (List Int)) (M i j : Nat) {t : Nat} (ht : t < M) : (totJ w images M i j).getD t 0 = if t < j then dotT w images t (i + 1) else dotT w images t i := by
  simp [totJ, List.getD, ht]
theorem totJ_zero (w : List Int) (images : List (List Int)) (M : Nat) : totJ w images M 0 0 = List.replicate M 0 := by
  refine all_eq (by simp [totJ]) fun t ht => ?_
  rw [totJ_len] at ht
  rw [totJ_at w images M 0 0 ht, if_neg (by omega), grep_at M t 0 0 ht]; rfl
theorem totJ_next (w : List Int) (images : List (List Int)) (M i : Nat) : totJ w images M i M = totJ w images M (i + 1) 0 := by
  refine all_eq (by simp [totJ]) fun t ht => ?_
  rw [totJ_len] at ht
  rw [totJ_at _ _ _ _ _ ht, totJ_at _ _ _ _ _ ht, if_pos ht, if_neg (by omega)]
theorem totJ_set (w : List Int) (images : List (List Int)) (M i j : Nat) (hj : j < M) : (totJ w images M i j).set j (dotT w images j i + cnt i w * cnt j (images.getD i [])) = totJ w images M i (j + 1) := by
  refine all_eq (by simp [totJ]) fun t ht => ?_
  rw [List.length_set, totJ_len] at ht
  rw [totJ_at _ _ _ _ _ ht]
  by_cases h : t = j
  · subst h
    rw [gset_self _ _ _ _ (by rw [totJ_len]; exact ht), if_pos (by omega)]; rfl
  · rw [gset_ne _ _ _ _ _ (fun e => h e.symm), totJ_at _ _ _ _ _ ht]
    by_cases h2 : t < j
    · rw [if_pos h2, if_pos (by omega)]
    · rw [if_neg h2, if_neg (by omega)]
theorem sb_sums {k m : Int} {w : List Int} {images : List (List Int)} {K M : Nat} (hk : k = (K : Int)) (hm : m = (M : Int)) (hw : wordB k w = true) : expW m (redW (subL w images)) = totJ w images M K 0 := by
  refine all_eq (by rw [expW_length, totJ_len]; omega) fun t ht => ?_
  rw [expW_length] at ht
  have ht2 : t < M := by omega
  rw [subst_sums (by omega) hw ht, totJ_at _ _ _ _ _ ht2, if_neg (by omega), hk, Int.toNat_natCast]
theorem sb_bd {k m : Int} {w : List Int} {images : List (List Int)} (hw : wordB k w = true) (hi : allW m images = true) (t i : Nat) (hi6 : i ≤ 6) :
    (-30000 ≤ dotT w images t i ∧ dotT w images t i ≤ 30000) ∧ (-64 ≤ cnt i w ∧ cnt i w ≤ 64) ∧ (-64 ≤ cnt t (images.getD i []) ∧ cnt t (images.getD i []) ≤ 64) ∧ (-4096 ≤ cnt i w * cnt t (images.getD i []) ∧ cnt i w * cnt t (images.getD i []) ≤ 4096) := by
  have h1 := dot_bd (t := t) (wordB_iff.1 hw).2 (fun n => (wordB_iff.1 (allW_at hi n)).2) i
  have h2 := cnt_bd i w
  have h3 := cnt_bd t (images.getD i [])
  have h4 := (wordB_iff.1 hw).2
  have h5 := (wordB_iff.1 (allW_at hi i)).2
  have b1 : -64 ≤ cnt i w ∧ cnt i w ≤ 64 := by omega
  have b2 : -64 ≤ cnt t (images.getD i []) ∧ cnt t (images.getD i []) ≤ 64 := by omega
  exact ⟨by omega, b1, b2, mul_bd b1 b2⟩
end Go.Proofs.Ythnpndheaailjaa
