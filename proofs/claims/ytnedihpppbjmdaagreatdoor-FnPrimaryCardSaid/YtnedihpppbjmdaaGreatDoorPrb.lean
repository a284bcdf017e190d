/-
  Plain lists: the primary parts of abelian groups in order, and when one group is a quotient of another.
-/
import Derived.Test.YtnedihpppbjmdaaGreatDoorPra
namespace Go.Proofs.YtnedihpppbjmdaaGreatDoor
set_option linter.unusedVariables false
set_option linter.unusedSimpArgs false
set_option maxRecDepth 100000

/-- a prime power comes before another one -/
def bef (x y : Nat) : Bool := decide (bs x < bs y ∨ bs x = bs y ∧ x < y)
theorem bef_irrefl (x : Nat) : bef x x = false := by simp [bef]
theorem bef_trans {x y z : Nat} (h1 : bef x y = true) (h2 : bef y z = true) : bef x z = true := by simp [bef] at *; omega
theorem bef_ntrans {x y z : Nat} (h1 : bef x y = false) (h2 : bef y z = false) : bef x z = false := by simp [bef] at *; omega
theorem bef_total {x y : Nat} (h1 : bef x y = false) (h2 : bef y x = false) : x = y := by simp [bef] at *; omega
theorem bef_asymm {x y : Nat} (h1 : bef x y = true) : bef y x = false := by simp [bef] at *; omega
/-- prime powers in order -/
def sortP (S : List Nat) : List Nat := S.mergeSort fun x y => !bef y x
def SortedP (T : List Nat) : Prop := T.Pairwise fun x y => bef y x = false
theorem sortP_perm (S : List Nat) : (sortP S).Perm S := List.mergeSort_perm _ _
theorem sortP_sorted (S : List Nat) : SortedP (sortP S) := by
  have h := List.pairwise_mergeSort (le := fun x y => !bef y x) (fun a b c h1 h2 => by simp at *; exact bef_ntrans h2 h1) (fun a b => by
    simp
    cases h : bef b a
    · exact .inl rfl
    · exact .inr (bef_asymm h)) S
  exact h.imp fun h => by simpa using h
theorem sortP_uniq {S T : List Nat} (hp : T.Perm S) (hs : SortedP T) : T = sortP S :=
  List.Perm.eq_of_pairwise (le := fun x y => bef y x = false) (fun a b _ _ h1 h2 => bef_total h2 h1) hs (sortP_sorted S) (hp.trans (sortP_perm S).symm)
/-- the parts at one prime, ascending -/
def grp (S : List Nat) (p : Nat) : List Nat := (sortP S).filter fun q => bs q == p
theorem grp_perm (S : List Nat) (p : Nat) : (grp S p).Perm (S.filter fun q => bs q == p) := (sortP_perm S).filter _
theorem grp_bs {S : List Nat} {p q : Nat} (h : q ∈ grp S p) : bs q = p := by simpa using (List.mem_filter.1 h).2
theorem grp_mem {S : List Nat} {p q : Nat} (h : q ∈ grp S p) : q ∈ S := (List.mem_filter.1 ((grp_perm S p).mem_iff.1 h)).1
theorem grp_up (S : List Nat) (p : Nat) : (grp S p).Pairwise (· ≤ ·) := by
  have h := (sortP_sorted S).filter fun q => bs q == p
  refine List.Pairwise.imp_of_mem ?_ h
  intro a b ha hb hab
  have h1 := grp_bs (S := S) (p := p) ha
  have h2 := grp_bs (S := S) (p := p) hb
  simp [bef] at hab; omega
theorem up_uniq {X Y : List Nat} (hp : X.Perm Y) (hx : X.Pairwise (· ≤ ·)) (hy : Y.Pairwise (· ≤ ·)) : X = Y :=
  List.Perm.eq_of_pairwise (le := (· ≤ ·)) (fun a b _ _ h1 h2 => Nat.le_antisymm h1 h2) hx hy hp

/-! ### the parts of a group -/
/-- each factor divides the next -/
def Chn (fs : List Nat) : Prop := (∀ f ∈ fs, 2 ≤ f ∧ f ≤ 1000000) ∧ fs.Pairwise (· ∣ ·)
def parts (fs : List Nat) : List Nat := fs.flatMap prt
theorem parts_ppw {fs : List Nat} (h : ∀ f ∈ fs, 2 ≤ f ∧ f ≤ 1000000) : ∀ q ∈ parts fs, PPw q := by
  intro q hq
  obtain ⟨f, hf, hq⟩ := List.mem_flatMap.1 hq
  have := h f hf
  exact (prt_ppw (by omega) this.2 q hq).1
theorem filter_flat {fs : List Nat} (h : ∀ f ∈ fs, 2 ≤ f ∧ f ≤ 1000000) {p : Nat} (hp : Prm p) : (parts fs).filter (fun q => bs q == p) = (fs.filter (fun f => decide (p ∣ f))).map (ppt p) := by
  induction fs with
  | nil => rfl
  | cons f fs ih =>
    have hf := h f (by simp)
    unfold parts at ih ⊢
    rw [List.flatMap_cons, List.filter_append, prt_filter (by omega) hf.2 hp, ih (fun g hg => h g (List.mem_cons_of_mem _ hg))]
    by_cases hd : p ∣ f
    · rw [if_pos hd, List.filter_cons_of_pos (by simpa using hd)]; rfl
    · rw [if_neg hd, List.filter_cons_of_neg (by simpa using hd)]; rfl
theorem grp_parts {fs : List Nat} (h : Chn fs) {p : Nat} (hp : Prm p) : grp (parts fs) p = (fs.filter (fun f => decide (p ∣ f))).map (ppt p) := by
  refine up_uniq ?_ (grp_up _ _) ?_
  · rw [← filter_flat h.1 hp]; exact grp_perm _ _
  · rw [List.pairwise_map]
    refine List.Pairwise.imp_of_mem ?_ (h.2.filter _)
    intro a b ha hb hab
    have h1 := h.1 a (List.mem_filter.1 ha).1
    have h2 := h.1 b (List.mem_filter.1 hb).1
    exact ppt_mono hp.1 (by omega) (by omega) hab
theorem grp_none {fs : List Nat} (h : ∀ f ∈ fs, 2 ≤ f ∧ f ≤ 1000000) {p : Nat} (hp : ¬ Prm p) : grp (parts fs) p = [] := by
  apply List.eq_nil_iff_forall_not_mem.2
  intro q hq
  have h1 := grp_bs hq
  obtain ⟨e, h2, _⟩ := (parts_ppw h q (grp_mem hq)).ex
  exact hp (h1 ▸ h2)
/-- factor number j, the greatest first -/
def atD (fs : List Nat) (j : Nat) : Nat := fs.reverse.getD j 1
theorem getD_mem_or {α : Type} (l : List α) (j : Nat) (d : α) : (j < l.length ∧ l.getD j d ∈ l) ∨ (l.length ≤ j ∧ l.getD j d = d) := by
  by_cases h : j < l.length
  · left; refine ⟨h, ?_⟩; rw [List.getD_eq_getElem?_getD, List.getElem?_eq_getElem h]; exact List.getElem_mem h
  · right; refine ⟨by omega, ?_⟩; rw [List.getD_eq_getElem?_getD, List.getElem?_eq_none (by omega)]; rfl
theorem atD_pos {fs : List Nat} (h : ∀ f ∈ fs, 2 ≤ f ∧ f ≤ 1000000) (j : Nat) : 1 ≤ atD fs j := by
  rcases getD_mem_or fs.reverse j 1 with ⟨_, hm⟩ | ⟨_, e⟩
  · have := (h _ (List.mem_reverse.1 hm)).1; unfold atD; omega
  · unfold atD; omega
theorem atD_two {fs : List Nat} (h : ∀ f ∈ fs, 2 ≤ f ∧ f ≤ 1000000) (j : Nat) : 2 ≤ atD fs j ↔ j < fs.length := by
  rcases getD_mem_or fs.reverse j 1 with ⟨h1, hm⟩ | ⟨h1, e⟩
  · have := (h _ (List.mem_reverse.1 hm)).1; simp at h1; unfold atD; omega
  · simp at h1; unfold atD; omega
theorem ppt1 {p : Nat} (hp : Prm p) : ppt p 1 = 1 := (ppt_one_iff hp.1 (Nat.le_refl 1)).2 hp.ndvd1
theorem desc_at {p : Nat} (hp : Prm p) : ∀ (ds : List Nat), (∀ f ∈ ds, 2 ≤ f ∧ f ≤ 1000000) → ds.Pairwise (fun a b => b ∣ a) → ∀ j, ((ds.filter (fun f => decide (p ∣ f))).map (ppt p)).getD j 1 = ppt p (ds.getD j 1)
  | [], _, _, j => by simp [ppt1 hp]
  | a :: ds, h, hp2, j => by
    obtain ⟨h1, h2⟩ := List.pairwise_cons.1 hp2
    by_cases hd : p ∣ a
    · rw [List.filter_cons_of_pos (by simpa using hd)]
      cases j with
      | zero => simp
      | succ j =>
        have := desc_at hp ds (fun f hf => h f (List.mem_cons_of_mem _ hf)) h2 j
        simpa using this
    · have e1 : (a :: ds).filter (fun f => decide (p ∣ f)) = [] := by
        rw [List.filter_eq_nil_iff]
        intro b hb
        simp only [decide_eq_true_eq]
        rcases List.mem_cons.1 hb with rfl | hb
        · exact hd
        · exact fun hh => hd (Nat.dvd_trans hh (h1 b hb))
      rw [e1]
      simp only [List.map_nil, List.getD_nil]
      rcases getD_mem_or (a :: ds) j 1 with ⟨_, hm⟩ | ⟨_, e⟩
      · have hb := h _ hm
        refine ((ppt_one_iff hp.1 (by omega)).2 ?_).symm
        rcases List.mem_cons.1 hm with e | hm
        · rw [e]; exact hd
        · exact fun hh => hd (Nat.dvd_trans hh (h1 _ hm))
      · rw [e, ppt1 hp]
/-- the parts of a group at a prime are the parts of its factors -/
theorem grp_at {fs : List Nat} (h : Chn fs) {p : Nat} (hp : Prm p) (j : Nat) : atD (grp (parts fs) p) j = ppt p (atD fs j) := by
  unfold atD
  rw [grp_parts h hp, ← List.map_reverse, ← List.filter_reverse]
  exact desc_at hp fs.reverse (fun f hf => h.1 f (List.mem_reverse.1 hf)) (by rw [List.pairwise_reverse]; exact h.2) j

/-! ### quotients -/
/-- b is a quotient of a, by their factors -/
def QD (fa fb : List Nat) (ra rb : Nat) : Prop := rb ≤ ra ∧ ∀ j, atD fb (j + (ra - rb)) ∣ atD fa j
/-- .. as the program asks it -/
def QI (fa fb : List Nat) (ra rb : Nat) : Prop := rb ≤ ra ∧ ∀ p i, i < (grp (parts fb) p).length → ra - rb ≤ i → i - (ra - rb) < (grp (parts fa) p).length ∧ atD (grp (parts fb) p) i ≤ atD (grp (parts fa) p) (i - (ra - rb))
/-- .. as the reference asks it -/
def QS (fa fb : List Nat) (ra rb : Nat) : Prop := rb + fb.length ≤ ra + fa.length ∧ ∀ i, i < rb + fb.length → (List.replicate ra 0 ++ fa.reverse).getD i 0 ≠ 0 → (List.replicate rb 0 ++ fb.reverse).getD i 0 ≠ 0 ∧ (List.replicate rb 0 ++ fb.reverse).getD i 0 ∣ (List.replicate ra 0 ++ fa.reverse).getD i 0
theorem grp_two {fs : List Nat} (h : ∀ f ∈ fs, 2 ≤ f ∧ f ≤ 1000000) (p i : Nat) : (i < (grp (parts fs) p).length → 2 ≤ atD (grp (parts fs) p) i) ∧ (¬ i < (grp (parts fs) p).length → atD (grp (parts fs) p) i = 1) := by
  rcases getD_mem_or (grp (parts fs) p).reverse i 1 with ⟨h1, hm⟩ | ⟨h1, e⟩
  · have := (parts_ppw h _ (grp_mem (List.mem_reverse.1 hm))).two
    simp at h1
    exact ⟨fun _ => this, fun hh => (hh h1).elim⟩
  · simp at h1
    exact ⟨fun hh => by omega, fun _ => e⟩
theorem qi_iff {fa fb : List Nat} {ra rb : Nat} (ha : Chn fa) (hb : Chn fb) : QI fa fb ra rb ↔ QD fa fb ra rb := by
  constructor
  · rintro ⟨h0, h⟩
    refine ⟨h0, fun j => dvd_of_parts _ _ (atD_pos hb.1 _) fun p hp => ?_⟩
    rw [← grp_at hb hp]
    by_cases hi : j + (ra - rb) < (grp (parts fb) p).length
    · have h2 := (h p _ hi (by omega)).2
      rw [show j + (ra - rb) - (ra - rb) = j by omega, grp_at ha hp, grp_at hb hp] at h2
      rw [grp_at hb hp]
      exact Nat.dvd_trans (ppt_le_dvd hp.1 (atD_pos hb.1 _) (atD_pos ha.1 _) h2) (ppt_dvd hp.1 (atD_pos ha.1 _))
    · rw [(grp_two hb.1 p _).2 hi]; exact Nat.one_dvd _
  · rintro ⟨h0, h⟩
    refine ⟨h0, fun p i hi hf => ?_⟩
    by_cases hp : Prm p
    · have h1 := h (i - (ra - rb))
      rw [show i - (ra - rb) + (ra - rb) = i by omega] at h1
      have h2 := ppt_mono hp.1 (atD_pos hb.1 _) (atD_pos ha.1 _) h1
      rw [← grp_at hb hp, ← grp_at ha hp] at h2
      have h3 := (grp_two hb.1 p i).1 hi
      refine ⟨?_, h2⟩
      apply Classical.byContradiction
      intro hc
      have := (grp_two ha.1 p _).2 hc
      omega
    · rw [grp_none hb.1 hp] at hi; simp at hi
theorem pad_getD (r : Nat) (l : List Nat) (i : Nat) : (List.replicate r 0 ++ l).getD i 0 = if i < r then 0 else l.getD (i - r) 0 := by
  rw [List.getD_eq_getElem?_getD, List.getElem?_append]
  split
  · next h => simp at h; rw [if_pos h]; simp [h]
  · next h => simp at h; rw [if_neg (by omega)]; simp [List.getD_eq_getElem?_getD]
theorem rev_getD0 {fs : List Nat} {j : Nat} (h : j < fs.length) : fs.reverse.getD j 0 = atD fs j := by
  unfold atD
  rw [List.getD_eq_getElem?_getD, List.getD_eq_getElem?_getD, List.getElem?_eq_getElem (by simpa using h)]; rfl
theorem qs_iff {fa fb : List Nat} {ra rb : Nat} (ha : Chn fa) (hb : Chn fb) : QS fa fb ra rb ↔ QD fa fb ra rb := by
  constructor
  · rintro ⟨h0, h⟩
    have hr : rb ≤ ra := by
      apply Classical.byContradiction
      intro hc
      have h1 := h ra (by omega)
      rw [pad_getD, pad_getD, if_neg (by omega), if_pos (by omega), Nat.sub_self, rev_getD0 (by omega)] at h1
      exact (h1 (by have := atD_pos ha.1 0; omega)).1 rfl
    refine ⟨hr, fun j => ?_⟩
    by_cases hj : j + (ra - rb) < fb.length
    · have h1 := h (ra + j) (by omega)
      rw [pad_getD, pad_getD, if_neg (by omega), if_neg (by omega), show ra + j - ra = j by omega, show ra + j - rb = j + (ra - rb) by omega, rev_getD0 (by omega), rev_getD0 hj] at h1
      exact (h1 (by have := atD_pos ha.1 j; omega)).2
    · have : atD fb (j + (ra - rb)) = 1 := by
        rcases getD_mem_or fb.reverse (j + (ra - rb)) 1 with ⟨h1, _⟩ | ⟨_, e⟩
        · simp at h1; omega
        · exact e
      rw [this]; exact Nat.one_dvd _
  · rintro ⟨h0, h⟩
    have hl : rb + fb.length ≤ ra + fa.length := by
      apply Classical.byContradiction
      intro hc
      have h1 := h fa.length
      have h2 := (atD_two hb.1 (fa.length + (ra - rb))).2 (by omega)
      have h3 : ¬ 2 ≤ atD fa fa.length := fun hh => by have := (atD_two ha.1 _).1 hh; omega
      have h4 := atD_pos ha.1 fa.length
      have := Nat.le_of_dvd (by omega) h1
      omega
    refine ⟨hl, fun i hi hx => ?_⟩
    rw [pad_getD] at hx
    have hir : ¬ i < ra := fun hh => hx (by rw [if_pos hh])
    rw [pad_getD, pad_getD, if_neg hir, if_neg (by omega), rev_getD0 (by omega), rev_getD0 (by omega)]
    have h1 := h (i - ra)
    rw [show i - ra + (ra - rb) = i - rb by omega] at h1
    exact ⟨by have := atD_pos hb.1 (i - rb); omega, h1⟩
theorem qd_refl (fs : List Nat) (r : Nat) : QD fs fs r r := ⟨Nat.le_refl _, fun j => by rw [Nat.sub_self, Nat.add_zero]; exact Nat.dvd_refl _⟩
theorem ext_getD1 {X Y : List Nat} (hX : ∀ x ∈ X, 2 ≤ x) (hY : ∀ y ∈ Y, 2 ≤ y) (h : ∀ j, X.getD j 1 = Y.getD j 1) : X = Y := by
  have key : ∀ X Y : List Nat, (∀ x ∈ X, 2 ≤ x) → (∀ j, X.getD j 1 = Y.getD j 1) → X.length ≤ Y.length := by
    intro X Y hX h
    apply Classical.byContradiction
    intro hc
    rcases getD_mem_or X Y.length 1 with ⟨_, hm⟩ | ⟨h1, _⟩
    · have h2 := hX _ hm
      rw [h] at h2
      rcases getD_mem_or Y Y.length 1 with ⟨h3, _⟩ | ⟨_, e⟩
      · omega
      · omega
    · omega
  have hl : X.length = Y.length := Nat.le_antisymm (key X Y hX h) (key Y X hY fun j => (h j).symm)
  apply List.ext_getElem hl
  intro i h1 h2
  have := h i
  simpa [List.getD_eq_getElem?_getD, List.getElem?_eq_getElem h1, List.getElem?_eq_getElem h2] using this
theorem qd_antisymm {fa fb : List Nat} {ra rb : Nat} (ha : Chn fa) (hb : Chn fb) (h1 : QD fa fb ra rb) (h2 : QD fb fa rb ra) : fa = fb ∧ ra = rb := by
  have hr : ra = rb := Nat.le_antisymm h2.1 h1.1
  subst hr
  refine ⟨?_, rfl⟩
  have h := ext_getD1 (X := fa.reverse) (Y := fb.reverse) (fun x hx => (ha.1 x (List.mem_reverse.1 hx)).1) (fun x hx => (hb.1 x (List.mem_reverse.1 hx)).1) fun j => by
    have e1 := h1.2 j
    have e2 := h2.2 j
    rw [Nat.sub_self, Nat.add_zero] at e1 e2
    exact Nat.dvd_antisymm e2 e1
  simpa using congrArg List.reverse h
end Go.Proofs.YtnedihpppbjmdaaGreatDoor
