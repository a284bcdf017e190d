/-
  Plain lists: the factors of a product of cyclic groups of prime power order, column by column.
-/
import Derived.Test.YtnedihpppbjmdaaGreatDoorPrb
namespace Go.Proofs.YtnedihpppbjmdaaGreatDoor
set_option linter.unusedVariables false
set_option linter.unusedSimpArgs false
set_option maxRecDepth 100000

def mulU : List Nat → List Nat → List Nat
  | [], l => l
  | a :: l, [] => a :: l
  | a :: l, b :: m => a * b :: mulU l m
theorem mulU_nil (l : List Nat) : mulU l [] = l := by cases l <;> rfl
theorem mulU_getD : ∀ (a b : List Nat) (j : Nat), (mulU a b).getD j 1 = a.getD j 1 * b.getD j 1
  | [], b, j => by simp [mulU]
  | a :: l, [], j => by simp [mulU]
  | a :: l, b :: m, 0 => by simp [mulU]
  | a :: l, b :: m, j + 1 => by simpa [mulU] using mulU_getD l m j
theorem mulU_length : ∀ (a b : List Nat), (mulU a b).length = max a.length b.length
  | [], b => by simp [mulU]
  | a :: l, [] => by simp [mulU]
  | a :: l, b :: m => by simp [mulU, mulU_length l m]
/-- columns of many lists -/
def foldU (Ls : List (List Nat)) : List Nat := Ls.foldl mulU []
def prodN (l : List Nat) : Nat := l.foldr (· * ·) 1
def maxN (l : List Nat) : Nat := l.foldr max 0
theorem foldl_mulU_getD : ∀ (Ls : List (List Nat)) (a : List Nat) (j : Nat), (Ls.foldl mulU a).getD j 1 = a.getD j 1 * prodN (Ls.map fun l => l.getD j 1)
  | [], a, j => by simp [prodN]
  | l :: Ls, a, j => by
    rw [List.foldl_cons, foldl_mulU_getD Ls, mulU_getD]
    simp only [List.map_cons, prodN, List.foldr_cons]
    rw [Nat.mul_assoc]
theorem foldl_mulU_length : ∀ (Ls : List (List Nat)) (a : List Nat), (Ls.foldl mulU a).length = max a.length (maxN (Ls.map List.length))
  | [], a => by simp [maxN]
  | l :: Ls, a => by
    rw [List.foldl_cons, foldl_mulU_length Ls, mulU_length]
    simp only [List.map_cons, maxN, List.foldr_cons]
    omega
theorem foldU_getD (Ls : List (List Nat)) (j : Nat) : (foldU Ls).getD j 1 = prodN (Ls.map fun l => l.getD j 1) := by
  unfold foldU; rw [foldl_mulU_getD]; simp
theorem foldU_length (Ls : List (List Nat)) : (foldU Ls).length = maxN (Ls.map List.length) := by
  unfold foldU; rw [foldl_mulU_length]; simp
theorem ext_getD1' {X Y : List Nat} (hl : X.length = Y.length) (h : ∀ j, X.getD j 1 = Y.getD j 1) : X = Y := by
  apply List.ext_getElem hl
  intro i h1 h2
  have := h i
  simpa [List.getD_eq_getElem?_getD, List.getElem?_eq_getElem h1, List.getElem?_eq_getElem h2] using this
theorem foldU_snoc (Ls : List (List Nat)) (l : List Nat) : foldU (Ls ++ [l]) = mulU (foldU Ls) l := by simp [foldU, List.foldl_append]
theorem prodN_perm {l m : List Nat} (h : l.Perm m) : prodN l = prodN m := by
  induction h with
  | nil => rfl
  | cons a _ ih => simp only [prodN, List.foldr_cons] at *; rw [ih]
  | swap a b l => simp only [prodN, List.foldr_cons]; rw [← Nat.mul_assoc, ← Nat.mul_assoc, Nat.mul_comm b a]
  | trans _ _ h1 h2 => exact h1.trans h2
theorem maxN_perm {l m : List Nat} (h : l.Perm m) : maxN l = maxN m := by
  induction h with
  | nil => rfl
  | cons a _ ih => simp only [maxN, List.foldr_cons] at *; rw [ih]
  | swap a b l => simp only [maxN, List.foldr_cons]; omega
  | trans _ _ h1 h2 => exact h1.trans h2
theorem foldU_perm {L M : List (List Nat)} (h : L.Perm M) : foldU L = foldU M :=
  ext_getD1' (by rw [foldU_length, foldU_length]; exact maxN_perm (h.map _)) fun j => by rw [foldU_getD, foldU_getD]; exact prodN_perm (h.map _)
theorem foldU_nils (L : List (List Nat)) (M : List (List Nat)) (h : ∀ l ∈ M, l = []) : foldU (L ++ M) = foldU L := by
  induction M generalizing L with
  | nil => simp
  | cons l M ih =>
    have e : L ++ l :: M = (L ++ [l]) ++ M := by simp
    rw [e, ih _ (fun m hm => h m (List.mem_cons_of_mem _ hm)), foldU_snoc, h l (by simp), mulU_nil]
theorem prodN_append (l m : List Nat) : prodN (l ++ m) = prodN l * prodN m := by
  induction l with
  | nil => simp [prodN]
  | cons a l ih => simp only [prodN, List.cons_append, List.foldr_cons] at *; rw [ih, Nat.mul_assoc]
theorem prodN_pos {l : List Nat} (h : ∀ x ∈ l, 1 ≤ x) : 1 ≤ prodN l := by
  induction l with
  | nil => exact Nat.le_refl _
  | cons a l ih => exact Nat.mul_pos (h a (by simp)) (ih fun x hx => h x (List.mem_cons_of_mem _ hx))
theorem dvd_prodN {l : List Nat} {x : Nat} (h : x ∈ l) : x ∣ prodN l := by
  induction l with
  | nil => simp at h
  | cons a l ih =>
    rcases List.mem_cons.1 h with rfl | h
    · exact ⟨_, rfl⟩
    · exact Nat.dvd_trans (ih h) ⟨a, by simp [prodN, Nat.mul_comm]⟩
/-- all entries are within the limit -/
def okU (L : List Nat) : Prop := ∀ x ∈ L, x ≤ 1000000
theorem okU_getD {L : List Nat} : okU L ↔ ∀ j, L.getD j 1 ≤ 1000000 := by
  constructor
  · intro h j
    rcases getD_mem_or L j 1 with ⟨_, hm⟩ | ⟨_, e⟩
    · exact h _ hm
    · omega
  · intro h x hx
    obtain ⟨i, hi, rfl⟩ := List.getElem_of_mem hx
    have := h i
    simpa [List.getD_eq_getElem?_getD, List.getElem?_eq_getElem hi] using this
theorem getD_ge1 {L : List Nat} (h : ∀ x ∈ L, 1 ≤ x) (j : Nat) : 1 ≤ L.getD j 1 := by
  rcases getD_mem_or L j 1 with ⟨_, hm⟩ | ⟨_, e⟩
  · exact h _ hm
  · omega
/-- what more lists are multiplied in only grows -/
theorem okU_part {L M : List (List Nat)} (hM : ∀ l ∈ M, ∀ x ∈ l, 1 ≤ x) (h : okU (foldU (L ++ M))) : okU (foldU L) := by
  rw [okU_getD] at *
  intro j
  have h1 := h j
  rw [foldU_getD, List.map_append, prodN_append, ← foldU_getD] at h1
  have h2 : 1 ≤ prodN (M.map fun l => l.getD j 1) := prodN_pos fun x hx => by
    obtain ⟨l, hl, rfl⟩ := List.mem_map.1 hx
    exact getD_ge1 (hM l hl) j
  exact Nat.le_trans (Nat.le_mul_of_pos_right _ h2) h1

/-! ### all primes at once -/
def allP : List Nat := List.range 1000001
theorem allP_mem (p : Nat) : p ∈ allP ↔ p ≤ 1000000 := by unfold allP; rw [List.mem_range]; omega
theorem allP_up : allP.Pairwise (· < ·) := List.pairwise_lt_range
theorem allP_nodup : allP.Nodup := List.nodup_range
/-- the factors of the product of cyclic groups of orders S, the greatest first -/
def colS (S : List Nat) : List Nat := foldU (allP.map fun p => (grp S p).reverse)
theorem bs_le {q : Nat} (h : PPw q) : bs q ≤ 1000000 ∧ Prm (bs q) := by
  obtain ⟨e, h1, h2, h3, _⟩ := h.ex
  have h4 : bs q ^ 1 ≤ bs q ^ e := Nat.pow_le_pow_right (by have := h1.1; omega) h2
  rw [← h3, Nat.pow_one] at h4
  exact ⟨Nat.le_trans h4 h.1, h1⟩
theorem grp_ne {S : List Nat} {p : Nat} : grp S p ≠ [] ↔ ∃ q ∈ S, bs q = p := by
  constructor
  · intro h
    obtain ⟨q, hq⟩ := List.exists_mem_of_ne_nil _ h
    exact ⟨q, grp_mem hq, grp_bs hq⟩
  · rintro ⟨q, hq, hp⟩ h
    have : q ∈ grp S p := (grp_perm S p).mem_iff.2 (List.mem_filter.2 ⟨hq, by simpa using hp⟩)
    rw [h] at this; simp at this
/-- columns over whatever primes are all that occur -/
theorem colS_of {S ks : List Nat} (hS : ∀ q ∈ S, PPw q) (hn : ks.Nodup) (hk : ∀ p ∈ ks, p ≤ 1000000) (ha : ∀ p, grp S p ≠ [] → p ∈ ks) : colS S = foldU (ks.map fun p => (grp S p).reverse) := by
  have hp : allP.Perm (ks ++ allP.filter fun p => !ks.contains p) := by
    refine (List.perm_ext_iff_of_nodup allP_nodup ?_).2 ?_
    · rw [List.nodup_append]
      refine ⟨hn, allP_nodup.filter _, ?_⟩
      intro a ha b hb e
      subst e
      have := (List.mem_filter.1 hb).2
      simp at this
      exact this ha
    · intro p
      rw [List.mem_append, List.mem_filter, allP_mem]
      constructor
      · intro h
        by_cases hh : p ∈ ks
        · exact .inl hh
        · exact .inr ⟨h, by simpa using hh⟩
      · rintro (h | ⟨h, _⟩)
        · exact hk p h
        · exact h
  unfold colS
  rw [foldU_perm (hp.map fun p => (grp S p).reverse), List.map_append, foldU_nils]
  intro l hl
  obtain ⟨p, hp, rfl⟩ := List.mem_map.1 hl
  have h1 := (List.mem_filter.1 hp).2
  simp at h1
  have : grp S p = [] := Classical.byContradiction fun hh => h1 (ha p hh)
  rw [this]; rfl
/-- .. and over some of them they are no more -/
theorem colS_part {S ks : List Nat} (hS : ∀ q ∈ S, PPw q) (hn : ks.Nodup) (hk : ∀ p ∈ ks, p ≤ 1000000) (h : okU (colS S)) : okU (foldU (ks.map fun p => (grp S p).reverse)) := by
  have hp : allP.Perm (ks ++ allP.filter fun p => !ks.contains p) := by
    refine (List.perm_ext_iff_of_nodup allP_nodup ?_).2 ?_
    · rw [List.nodup_append]
      refine ⟨hn, allP_nodup.filter _, ?_⟩
      intro a ha b hb e
      subst e
      have := (List.mem_filter.1 hb).2
      simp at this
      exact this ha
    · intro p
      rw [List.mem_append, List.mem_filter, allP_mem]
      constructor
      · intro h
        by_cases hh : p ∈ ks
        · exact .inl hh
        · exact .inr ⟨h, by simpa using hh⟩
      · rintro (h | ⟨h, _⟩)
        · exact hk p h
        · exact h
  unfold colS at h
  rw [foldU_perm (hp.map fun p => (grp S p).reverse), List.map_append] at h
  refine okU_part ?_ h
  intro l hl x hx
  obtain ⟨p, _, rfl⟩ := List.mem_map.1 hl
  have := (hS x (grp_mem (List.mem_reverse.1 hx))).two
  omega

theorem no_or {a b : Prop} (ha : ¬ a) (hb : ¬ b) : ¬ (a ∨ b) := fun h => h.elim ha hb
theorem prodN_ones {f : Nat → Nat} : ∀ (ps : List Nat), (∀ q ∈ ps, f q = 1) → prodN (ps.map f) = 1
  | [], _ => rfl
  | a :: ps, h => by
    simp only [List.map_cons, prodN, List.foldr_cons]
    rw [h a (by simp), Nat.one_mul]
    exact prodN_ones ps fun q hq => h q (List.mem_cons_of_mem _ hq)
/-! ### the reference's rounds -/
/-- one round over parts in order: the last of each prime is multiplied in, the others are left -/
def rndF : List Nat → Nat → List Nat → Option (Nat × List Nat)
  | [], pr, rs => some (pr, rs)
  | [x], pr, rs => if 1000000 / pr < x then none else some (pr * x, rs)
  | x :: y :: t, pr, rs => if bs x = bs y then rndF (y :: t) pr (rs ++ [x]) else if 1000000 / pr < x then none else rndF (y :: t) (pr * x) rs
theorem rndF_last (x : Nat) (t : List Nat) (pr : Nat) (rs : List Nat) (h : ∀ y ∈ t, bs x ≠ bs y) : rndF (x :: t) pr rs = if 1000000 / pr < x then none else rndF t (pr * x) rs := by
  cases t with
  | nil => simp [rndF]
  | cons y t => rw [rndF, if_neg (h y (by simp))]
theorem rndF_grp (p : Nat) (x : Nat) (t : List Nat) (hx : bs x = p) (ht : ∀ y ∈ t, bs y ≠ p) : ∀ (g : List Nat), (∀ y ∈ g, bs y = p) → ∀ pr rs, rndF (g ++ x :: t) pr rs = if 1000000 / pr < x then none else rndF t (pr * x) (rs ++ g)
  | [], _, pr, rs => by rw [List.nil_append, List.append_nil]; exact rndF_last x t pr rs fun y hy e => ht y hy (e ▸ hx)
  | y :: g, hg, pr, rs => by
    have IH := rndF_grp p x t hx ht g (fun z hz => hg z (List.mem_cons_of_mem _ hz)) pr (rs ++ [y])
    have hy := hg y (by simp)
    rw [List.append_assoc, List.singleton_append] at IH
    cases g with
    | nil => rw [List.cons_append, List.nil_append, rndF, if_pos (by rw [hy, hx])]; exact IH
    | cons z g =>
      have hz := hg z (by simp)
      rw [List.cons_append, List.cons_append, rndF, if_pos (by rw [hy, hz])]
      exact IH
theorem lim_iff {pr x : Nat} (h : 1 ≤ pr) : 1000000 / pr < x ↔ ¬ pr * x ≤ 1000000 := by
  rw [Nat.div_lt_iff_lt_mul h, Nat.mul_comm x pr]; omega
theorem rndF_groups (G : Nat → List Nat) (hG : ∀ p, ∀ x ∈ G p, bs x = p ∧ 1 ≤ x) : ∀ (ps : List Nat), ps.Nodup → ∀ pr rs, 1 ≤ pr →
    rndF (ps.flatMap G) pr rs = if pr * prodN (ps.map fun p => (G p).getLastD 1) ≤ 1000000 ∨ ps.flatMap G = [] then some (pr * prodN (ps.map fun p => (G p).getLastD 1), rs ++ ps.flatMap fun p => (G p).dropLast) else none
  | [], _, pr, rs, h => by simp [rndF, prodN]
  | p :: ps, hn, pr, rs, h => by
    obtain ⟨h1, h2⟩ := List.nodup_cons.1 hn
    have IH := rndF_groups G hG ps h2
    rw [List.flatMap_cons]
    rcases List.eq_nil_or_concat (G p) with e | ⟨g, x, e⟩
    · rw [e, List.nil_append, IH pr rs h]
      simp [prodN, e]
    · have hb := hG p
      rw [e] at hb
      have hx := hb x (by simp)
      have ht : ∀ y ∈ ps.flatMap G, bs y ≠ p := by
        intro y hy
        obtain ⟨q, hq, hy⟩ := List.mem_flatMap.1 hy
        rw [(hG q y hy).1]
        exact fun e => h1 (e ▸ hq)
      rw [e, List.concat_eq_append, List.append_assoc, List.singleton_append, rndF_grp p x _ hx.1 ht g (fun y hy => (hb y (by simp [hy])).1)]
      have e1 : prodN ((p :: ps).map fun p => (G p).getLastD 1) = x * prodN (ps.map fun p => (G p).getLastD 1) := by
        simp [prodN, e]
      have hpos : 1 ≤ prodN (ps.map fun p => (G p).getLastD 1) := prodN_pos fun y hy => by
        obtain ⟨q, _, rfl⟩ := List.mem_map.1 hy
        rcases List.eq_nil_or_concat (G q) with e | ⟨g', x', e⟩
        · simp [e]
        · have := (hG q x' (by simp [e])).2
          simp [e]; exact this
      have hne : g ++ x :: ps.flatMap G ≠ [] := by simp
      have e2 : (p :: ps).flatMap (fun p => (G p).dropLast) = g ++ ps.flatMap fun p => (G p).dropLast := by simp [e]
      rw [e1, e2]
      have hpx : 1 ≤ pr * x := Nat.mul_pos h hx.2
      by_cases hl : pr * x ≤ 1000000
      · rw [if_neg (fun hh => (lim_iff h).1 hh hl), IH _ _ hpx, Nat.mul_assoc, List.append_assoc]
        by_cases hc : pr * (x * prodN (ps.map fun p => (G p).getLastD 1)) ≤ 1000000
        · rw [if_pos (.inl hc), if_pos (.inl hc)]
        · have hc2 : ¬ ps.flatMap G = [] := by
            intro hh
            have : ∀ q ∈ ps, G q = [] := by simpa using hh
            have e3 : prodN (ps.map fun p => (G p).getLastD 1) = 1 := prodN_ones ps fun q hq => by rw [this q hq]; rfl
            rw [e3, Nat.mul_one] at hc
            exact hc hl
          rw [if_neg (no_or hc hc2), if_neg (no_or hc hne)]
      · rw [if_pos ((lim_iff h).2 hl), if_neg]
        rintro (hh | hh)
        · have := Nat.le_mul_of_pos_right (pr * x) hpos
          rw [Nat.mul_assoc] at this
          omega
        · exact hne hh
/-- all rounds -/
def fromF : Nat → List Nat → List Nat → Option (List Nat)
  | 0, _, acc => some acc
  | k + 1, T, acc => if T = [] then some acc else match rndF T 1 [] with
    | none => none
    | some (p, r) => fromF k r (p :: acc)
theorem getD_tail (l : List Nat) (j : Nat) : l.tail.getD j 1 = l.getD (j + 1) 1 := by cases l <;> simp
theorem maxN_pred : ∀ (l : List Nat), maxN (l.map fun x => x - 1) = maxN l - 1
  | [] => rfl
  | a :: l => by simp only [List.map_cons, maxN, List.foldr_cons] at *; rw [show List.foldr max 0 (List.map (fun x => x - 1) l) = List.foldr max 0 l - 1 from maxN_pred l]; omega
theorem maxN_pos_of {l : List Nat} {x : Nat} (h : x ∈ l) : x ≤ maxN l := by
  induction l with
  | nil => simp at h
  | cons a l ih =>
    simp only [maxN, List.foldr_cons] at *
    rcases List.mem_cons.1 h with rfl | h
    · omega
    · have := ih h; omega
theorem maxN_zero {l : List Nat} (h : ∀ x ∈ l, x = 0) : maxN l = 0 := by
  induction l with
  | nil => rfl
  | cons a l ih =>
    simp only [maxN, List.foldr_cons] at *
    have := h a (by simp); have := ih fun x hx => h x (List.mem_cons_of_mem _ hx); omega
/-- the first column and the others -/
theorem foldU_cons (G : Nat → List Nat) (ps : List Nat) (h : ps.flatMap G ≠ []) :
    foldU (ps.map fun p => (G p).reverse) = prodN (ps.map fun p => (G p).getLastD 1) :: foldU (ps.map fun p => (G p).dropLast.reverse) := by
  apply ext_getD1'
  · rw [List.length_cons, foldU_length, foldU_length]
    have e1 : ((ps.map fun p => (G p).dropLast.reverse).map List.length) = ((ps.map fun p => (G p).reverse).map List.length).map fun x => x - 1 := by simp
    rw [e1, maxN_pred]
    obtain ⟨x, hx⟩ := List.exists_mem_of_ne_nil _ h
    obtain ⟨p, hp, hx⟩ := List.mem_flatMap.1 hx
    have h1 : (G p).length ∈ (ps.map fun p => (G p).reverse).map List.length := by
      rw [List.map_map]; exact List.mem_map.2 ⟨p, hp, by simp⟩
    have h2 := maxN_pos_of h1
    have h3 := List.length_pos_of_mem hx
    omega
  · intro j
    rw [foldU_getD]
    cases j with
    | zero =>
      simp only [List.map_map, List.getD_cons_zero]
      congr 1
      apply List.map_congr_left
      intro p _
      simp only [Function.comp]
      rcases List.eq_nil_or_concat (G p) with e | ⟨g, x, e⟩ <;> simp [e]
    | succ j =>
      rw [List.getD_cons_succ, foldU_getD]
      simp only [List.map_map]
      congr 1
      apply List.map_congr_left
      intro p _
      simp only [Function.comp]
      rcases List.eq_nil_or_concat (G p) with e | ⟨g, x, e⟩ <;> simp [e]
theorem fromF_groups : ∀ (k : Nat) (G : Nat → List Nat), (∀ p, ∀ x ∈ G p, bs x = p ∧ 1 ≤ x) → ∀ (ps : List Nat), ps.Nodup → (∀ p ∈ ps, (G p).length ≤ k) → ∀ acc,
    (okU (foldU (ps.map fun p => (G p).reverse)) → fromF (k + 1) (ps.flatMap G) acc = some ((foldU (ps.map fun p => (G p).reverse)).reverse ++ acc)) ∧
    (¬ okU (foldU (ps.map fun p => (G p).reverse)) → fromF (k + 1) (ps.flatMap G) acc = none) := by
  intro k
  induction k with
  | zero =>
    intro G hG ps hn hk acc
    have h0 : ∀ p ∈ ps, G p = [] := fun p hp => List.eq_nil_of_length_eq_zero (by have := hk p hp; omega)
    have e0 : ps.flatMap G = [] := by simpa using h0
    have e1 : foldU (ps.map fun p => (G p).reverse) = [] := by
      apply List.eq_nil_of_length_eq_zero
      rw [foldU_length]
      apply maxN_zero
      intro x hx
      simp only [List.map_map, List.mem_map, Function.comp] at hx
      obtain ⟨p, hp, rfl⟩ := hx
      rw [h0 p hp]; rfl
    rw [e1, e0]
    exact ⟨fun _ => by simp [fromF], fun h => (h (fun x hx => by simp at hx)).elim⟩
  | succ k ih =>
    intro G hG ps hn hk acc
    by_cases hT : ps.flatMap G = []
    · have h0 : ∀ p ∈ ps, G p = [] := by simpa using hT
      have e1 : foldU (ps.map fun p => (G p).reverse) = [] := by
        apply List.eq_nil_of_length_eq_zero
        rw [foldU_length]
        apply maxN_zero
        intro x hx
        simp only [List.map_map, List.mem_map, Function.comp] at hx
        obtain ⟨p, hp, rfl⟩ := hx
        rw [h0 p hp]; rfl
      rw [e1, hT]
      exact ⟨fun _ => by simp [fromF], fun h => (h (fun x hx => by simp at hx)).elim⟩
    · have hr := rndF_groups G hG ps hn 1 [] (Nat.le_refl _)
      rw [Nat.one_mul, List.nil_append] at hr
      have hc := foldU_cons G ps hT
      have IH := ih (fun p => (G p).dropLast) (fun p x hx => hG p x (List.dropLast_subset _ hx)) ps hn (fun p hp => by have := hk p hp; simp; omega) (prodN (ps.map fun p => (G p).getLastD 1) :: acc)
      rw [hc, fromF, if_neg hT]
      by_cases hl : prodN (ps.map fun p => (G p).getLastD 1) ≤ 1000000
      · rw [if_pos (.inl hl)] at hr
        rw [hr]
        simp only
        constructor
        · intro h
          rw [IH.1 (fun x hx => h x (List.mem_cons_of_mem _ hx))]
          simp
        · intro h
          exact IH.2 fun hh => h fun x hx => by
            rcases List.mem_cons.1 hx with rfl | hx
            · exact hl
            · exact hh x hx
      · rw [if_neg (no_or hl hT)] at hr
        rw [hr]
        exact ⟨fun h => (hl (h _ (by simp))).elim, fun _ => rfl⟩
theorem sortP_groups {S : List Nat} (hS : ∀ q ∈ S, PPw q) : sortP S = allP.flatMap (grp S) := by
  symm
  apply sortP_uniq
  · -- the groups are all
    rw [List.perm_iff_count]
    intro q
    by_cases hq : q ∈ S
    · have hb := bs_le (hS q hq)
      have hn : ∀ (ps : List Nat), ps.Nodup → (ps.flatMap (grp S)).count q = if bs q ∈ ps then S.count q else 0 := by
        intro ps
        induction ps with
        | nil => intro _; simp
        | cons p ps ih =>
          intro hn
          obtain ⟨h1, h2⟩ := List.nodup_cons.1 hn
          rw [List.flatMap_cons, List.count_append, ih h2, (grp_perm S p).count_eq]
          by_cases hp : bs q = p
          · subst hp
            rw [if_neg h1, if_pos (by simp), List.count_filter (by simp)]; rfl
          · have : List.count q (S.filter fun q => bs q == p) = 0 := by
              rw [List.count_eq_zero]
              intro hh
              exact hp (by simpa using (List.mem_filter.1 hh).2)
            rw [this, Nat.zero_add]
            by_cases hb : bs q ∈ ps
            · rw [if_pos hb, if_pos (List.mem_cons_of_mem _ hb)]
            · rw [if_neg hb, if_neg (by simp; exact ⟨hp, hb⟩)]
      rw [hn allP allP_nodup, if_pos ((allP_mem _).2 hb.1)]
    · rw [List.count_eq_zero.2 hq, List.count_eq_zero]
      intro hh
      obtain ⟨p, _, hq2⟩ := List.mem_flatMap.1 hh
      exact hq (grp_mem hq2)
  · unfold SortedP
    rw [List.pairwise_flatMap]
    constructor
    · intro p _
      refine List.Pairwise.imp_of_mem ?_ (grp_up S p)
      intro a b ha hb hab
      have := grp_bs ha; have := grp_bs hb
      simp [bef]; omega
    · refine allP_up.imp ?_
      intro p q hpq x hx y hy
      have := grp_bs hx; have := grp_bs hy
      simp [bef]; omega
/-- the reference's factors -/
theorem fromF_sorted {S : List Nat} (hS : ∀ q ∈ S, PPw q) :
    (okU (colS S) → fromF (S.length + 1) (sortP S) [] = some (colS S).reverse) ∧ (¬ okU (colS S) → fromF (S.length + 1) (sortP S) [] = none) := by
  have h := fromF_groups S.length (grp S) (fun p x hx => ⟨grp_bs hx, by have := (hS x (grp_mem hx)).two; omega⟩) allP allP_nodup (fun p _ => by
    rw [(grp_perm S p).length_eq]; exact List.length_filter_le _ _) []
  rw [sortP_groups hS]
  simpa [colS] using h

/-! ### a product has its factors as quotients -/
theorem cnt_ge {X : List Nat} (h : X.Pairwise (fun a b => b ≤ a)) (t : Nat) : ∀ j, j < X.countP (fun x => decide (t ≤ x)) ↔ j < X.length ∧ t ≤ X.getD j 1 := by
  induction X with
  | nil => intro j; simp
  | cons a X ih =>
    obtain ⟨h1, h2⟩ := List.pairwise_cons.1 h
    intro j
    by_cases ht : t ≤ a
    · rw [List.countP_cons_of_pos (by simpa using ht)]
      cases j with
      | zero => simp [ht]
      | succ j =>
        have := ih h2 j
        rw [List.length_cons, List.getD_cons_succ]
        omega
    · rw [List.countP_cons_of_neg (by simpa using ht)]
      have e : X.countP (fun x => decide (t ≤ x)) = 0 := by
        rw [List.countP_eq_zero]
        intro x hx
        have := h1 x hx
        simp; omega
      rw [e]
      constructor
      · intro hh; omega
      · rintro ⟨hl, hh⟩
        exfalso
        rcases getD_mem_or (a :: X) j 1 with ⟨_, hm⟩ | ⟨h3, _⟩
        · rcases List.mem_cons.1 hm with e2 | hm
          · omega
          · have := h1 _ hm; omega
        · omega
theorem getD_le_of_cnt {X Y : List Nat} (hx : X.Pairwise (fun a b => b ≤ a)) (hy : Y.Pairwise (fun a b => b ≤ a)) (hy1 : ∀ y ∈ Y, 1 ≤ y) (h : ∀ t, X.countP (fun x => decide (t ≤ x)) ≤ Y.countP (fun x => decide (t ≤ x))) (j : Nat) : X.getD j 1 ≤ Y.getD j 1 := by
  by_cases hj : j < X.length
  · have h1 := (cnt_ge hx (X.getD j 1) j).2 ⟨hj, Nat.le_refl _⟩
    exact ((cnt_ge hy _ j).1 (Nat.lt_of_lt_of_le h1 (h _))).2
  · rcases getD_mem_or X j 1 with ⟨h1, _⟩ | ⟨_, e⟩
    · omega
    · rw [e]; exact getD_ge1 hy1 j
theorem grp_cnt (S S' : List Nat) (p : Nat) (f : Nat → Bool) : (grp S p).reverse.countP f ≤ (grp (S ++ S') p).reverse.countP f ∧ (grp S' p).reverse.countP f ≤ (grp (S ++ S') p).reverse.countP f := by
  rw [List.countP_reverse, List.countP_reverse, List.countP_reverse, (grp_perm S p).countP_eq, (grp_perm S' p).countP_eq, (grp_perm (S ++ S') p).countP_eq, List.filter_append, List.countP_append]
  omega
theorem desc_rev (S : List Nat) (p : Nat) : (grp S p).reverse.Pairwise (fun a b => b ≤ a) := by rw [List.pairwise_reverse]; exact grp_up S p
theorem at_le_col {fa S : List Nat} (ha : Chn fa) (hS : ∀ q ∈ S, PPw q) (hc : ∀ p (f : Nat → Bool), (grp (parts fa) p).reverse.countP f ≤ (grp S p).reverse.countP f) (j : Nat) : atD fa j ∣ (colS S).getD j 1 := by
  apply dvd_of_parts _ _ (atD_pos ha.1 j)
  intro p hp
  rw [← grp_at ha hp]
  by_cases hi : j < (grp (parts fa) p).length
  · have h1 : atD (grp (parts fa) p) j ≤ atD (grp S p) j := getD_le_of_cnt (desc_rev _ _) (desc_rev _ _) (fun y hy => by have := (hS y (grp_mem (List.mem_reverse.1 hy))).two; omega) (fun t => hc p _) j
    have h2 := (grp_two ha.1 p j).1 hi
    -- both are powers of p
    have hpow : ∀ {T : List Nat}, (∀ q ∈ T, PPw q) → 2 ≤ atD (grp T p) j → ∃ e, atD (grp T p) j = p ^ e := by
      intro T hT h2
      rcases getD_mem_or (grp T p).reverse j 1 with ⟨_, hm⟩ | ⟨_, e⟩
      · have hm := List.mem_reverse.1 hm
        obtain ⟨e, _, _, h4, _⟩ := (hT _ (grp_mem hm)).ex
        rw [grp_bs hm] at h4
        exact ⟨e, h4⟩
      · unfold atD at h2; omega
    obtain ⟨e1, h3⟩ := hpow (parts_ppw ha.1) h2
    obtain ⟨e2, h4⟩ := hpow hS (Nat.le_trans h2 h1)
    have h5 : atD (grp (parts fa) p) j ∣ atD (grp S p) j := by
      rw [h3, h4] at h1 ⊢
      exact Nat.pow_dvd_pow p (pow_le_exp hp.1 h1)
    refine Nat.dvd_trans h5 ?_
    unfold colS
    rw [foldU_getD]
    apply dvd_prodN
    rw [List.map_map]
    refine List.mem_map.2 ⟨p, ?_, rfl⟩
    rw [allP_mem]
    -- p divides a factor
    have h6 : grp (parts fa) p ≠ [] := fun e => by rw [e] at hi; simp at hi
    obtain ⟨q, hq, hqp⟩ := grp_ne.1 h6
    exact hqp ▸ (bs_le (parts_ppw ha.1 q hq)).1
  · rw [(grp_two ha.1 p j).2 hi]; exact Nat.one_dvd _
theorem atD_desc {fs : List Nat} (h : Chn fs) (j k : Nat) (hjk : j ≤ k) : atD fs k ∣ atD fs j := by
  unfold atD
  have hd : fs.reverse.Pairwise (fun a b => b ∣ a) := by rw [List.pairwise_reverse]; exact h.2
  rcases getD_mem_or fs.reverse k 1 with ⟨h1, _⟩ | ⟨_, e⟩
  · rcases Nat.eq_or_lt_of_le hjk with rfl | hlt
    · exact Nat.dvd_refl _
    · have := List.pairwise_iff_getElem.1 hd j k (by omega) h1 hlt
      simpa [List.getD_eq_getElem?_getD, List.getElem?_eq_getElem h1, List.getElem?_eq_getElem (show j < fs.reverse.length by omega)] using this
  · rw [e]; exact Nat.one_dvd _
/-- the direct product has both factors as quotients -/
theorem qd_sum {fa fb : List Nat} (ha : Chn fa) (hb : Chn fb) (ra rb : Nat) :
    QD (colS (parts fa ++ parts fb)).reverse fa (ra + rb) ra ∧ QD (colS (parts fa ++ parts fb)).reverse fb (ra + rb) rb := by
  have hS : ∀ q ∈ parts fa ++ parts fb, PPw q := by
    intro q hq
    rcases List.mem_append.1 hq with h | h
    · exact parts_ppw ha.1 q h
    · exact parts_ppw hb.1 q h
  have e : ∀ j, atD (colS (parts fa ++ parts fb)).reverse j = (colS (parts fa ++ parts fb)).getD j 1 := fun j => by unfold atD; rw [List.reverse_reverse]
  constructor
  · refine ⟨by omega, fun j => ?_⟩
    rw [e]
    exact Nat.dvd_trans (atD_desc ha j _ (by omega)) (at_le_col ha hS (fun p f => (grp_cnt _ _ p f).1) j)
  · refine ⟨by omega, fun j => ?_⟩
    rw [e]
    exact Nat.dvd_trans (atD_desc hb j _ (by omega)) (at_le_col hb hS (fun p f => (grp_cnt _ _ p f).2) j)
end Go.Proofs.YtnedihpppbjmdaaGreatDoor
