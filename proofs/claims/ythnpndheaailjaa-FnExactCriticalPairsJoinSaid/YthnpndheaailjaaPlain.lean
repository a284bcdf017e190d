/-
  Presentations as lists, and the plain theory of groups that they give: no program in sight.
-/
namespace Go.Proofs.Ythnpndheaailjaa
set_option linter.unusedVariables false
set_option linter.unusedSimpArgs false
set_option maxRecDepth 100000

structure Pres where
  orders : List Int
  powers : List (List Int)
  conj : List (List (List Int))

/-! ### groups on a subset -/
structure Grp {α : Type} (S : α → Prop) (m : α → α → α) (e : α) : Prop where
  cl : ∀ {a b : α}, S a → S b → S (m a b)
  one : S e
  assoc : ∀ {a b c : α}, S a → S b → S c → m (m a b) c = m a (m b c)
  onel : ∀ {a : α}, S a → m e a = a
  oner : ∀ {a : α}, S a → m a e = a
  inv : ∀ {a : α}, S a → ∃ b, S b ∧ m a b = e ∧ m b a = e

def pw {α : Type} (m : α → α → α) (e a : α) : Nat → α
  | 0 => e
  | k + 1 => m (pw m e a k) a
def pr {α β : Type} (m : α → α → α) (e : α) (f : β → α) (l : List β) : α := l.foldl (fun u j => m u (f j)) e
def itf {α : Type} (f : α → α) : Nat → α → α
  | 0, x => x
  | k + 1, x => f (itf f k x)
theorem itf_succ {α : Type} (f : α → α) (k : Nat) (x : α) : itf f (k + 1) x = f (itf f k x) := rfl
theorem itf_add {α : Type} (f : α → α) (k l : Nat) (x : α) : itf f (k + l) x = itf f k (itf f l x) := by
  induction k with
  | zero => rw [Nat.zero_add]; rfl
  | succ k ih => rw [Nat.succ_add, itf_succ, ih, itf_succ]
theorem itf_comm {α : Type} (f : α → α) (k : Nat) (x : α) : itf f k (f x) = f (itf f k x) := by
  have := itf_add f k 1 x
  rw [show itf f 1 x = f x from rfl] at this
  rw [← this, itf_succ]

section
variable {α β : Type} {S : α → Prop} {m : α → α → α} {e : α}

theorem Grp.lcan (h : Grp S m e) {a b c : α} (ha : S a) (hb : S b) (hc : S c) (H : m a b = m a c) : b = c := by
  obtain ⟨d, hd, _, h2⟩ := h.inv ha
  have := congrArg (m d) H
  rwa [← h.assoc hd ha hb, ← h.assoc hd ha hc, h2, h.onel hb, h.onel hc] at this
theorem Grp.rcan (h : Grp S m e) {a b c : α} (ha : S a) (hb : S b) (hc : S c) (H : m b a = m c a) : b = c := by
  obtain ⟨d, hd, h1, _⟩ := h.inv ha
  have : m (m b a) d = m (m c a) d := by rw [H]
  rwa [h.assoc hb ha hd, h.assoc hc ha hd, h1, h.oner hb, h.oner hc] at this

theorem pr_nil (f : β → α) : pr m e f [] = e := rfl
theorem pr_snoc (f : β → α) (l : List β) (j : β) : pr m e f (l ++ [j]) = m (pr m e f l) (f j) := by simp [pr]
theorem fold_closed (h : Grp S m e) (f : β → α) (l : List β) (hf : ∀ j ∈ l, S (f j)) : ∀ a, S a → S (l.foldl (fun u j => m u (f j)) a) := by
  induction l with
  | nil => intro a ha; exact ha
  | cons j l ih => intro a ha; exact ih (fun k hk => hf k (List.mem_cons_of_mem _ hk)) _ (h.cl ha (hf j List.mem_cons_self))
theorem pr_closed (h : Grp S m e) {f : β → α} {l : List β} (hf : ∀ j ∈ l, S (f j)) : S (pr m e f l) := fold_closed h f l hf e h.one
theorem pr_from (h : Grp S m e) (f : β → α) (l : List β) (hf : ∀ j ∈ l, S (f j)) : ∀ a, S a → l.foldl (fun u j => m u (f j)) a = m a (pr m e f l) := by
  induction l with
  | nil => intro a ha; exact (h.oner ha).symm
  | cons j l ih =>
    intro a ha
    have hj := hf j List.mem_cons_self
    have hl : ∀ k ∈ l, S (f k) := fun k hk => hf k (List.mem_cons_of_mem _ hk)
    have h1 := ih hl (m a (f j)) (h.cl ha hj)
    have h2 := ih hl (m e (f j)) (h.cl h.one hj)
    simp only [List.foldl_cons, pr]
    rw [h1, h2, h.onel hj, h.assoc ha hj (pr_closed h hl)]
theorem pr_append (h : Grp S m e) {f : β → α} {l l' : List β} (hf : ∀ j ∈ l, S (f j)) (hf' : ∀ j ∈ l', S (f j)) : pr m e f (l ++ l') = m (pr m e f l) (pr m e f l') := by
  rw [pr, List.foldl_append]
  exact pr_from h f l' hf' _ (pr_closed h hf)
theorem pr_cons (h : Grp S m e) {f : β → α} {j : β} {l : List β} (hj : S (f j)) (hf : ∀ j ∈ l, S (f j)) : pr m e f (j :: l) = m (f j) (pr m e f l) := by
  have : pr m e f (j :: l) = l.foldl (fun u j => m u (f j)) (m e (f j)) := rfl
  rw [this, h.onel hj]
  exact pr_from h f l hf _ hj
theorem pw_closed (h : Grp S m e) {a : α} (ha : S a) (k : Nat) : S (pw m e a k) := by
  induction k with
  | zero => exact h.one
  | succ k ih => exact h.cl ih ha
theorem pw_add (h : Grp S m e) {a : α} (ha : S a) (k l : Nat) : pw m e a (k + l) = m (pw m e a k) (pw m e a l) := by
  induction l with
  | zero => exact (h.oner (pw_closed h ha k)).symm
  | succ l ih =>
    show m (pw m e a (k + l)) a = _
    rw [ih, h.assoc (pw_closed h ha k) (pw_closed h ha l) ha]; rfl
theorem pw_one (h : Grp S m e) {a : α} (ha : S a) : pw m e a 1 = a := h.onel ha
theorem pw_succ' (h : Grp S m e) {a : α} (ha : S a) (k : Nat) : pw m e a (k + 1) = m a (pw m e a k) := by
  rw [Nat.add_comm, pw_add h ha, pw_one h ha]
theorem pr_replicate (f : β → α) (k : Nat) (j : β) : pr m e f (List.replicate k j) = pw m e (f j) k := by
  induction k with
  | zero => rfl
  | succ k ih => rw [List.replicate_succ', pr_snoc, ih]; rfl
theorem pr_congr {f g : β → α} {l : List β} (h : ∀ j ∈ l, f j = g j) : pr m e f l = pr m e g l := by
  have : ∀ a, l.foldl (fun u j => m u (f j)) a = l.foldl (fun u j => m u (g j)) a := by
    induction l with
    | nil => intro a; rfl
    | cons j l ih => intro a; simp only [List.foldl_cons]; rw [h j List.mem_cons_self]; exact ih (fun k hk => h k (List.mem_cons_of_mem _ hk)) _
  exact this e
/-- a map that keeps products keeps products of lists -/
theorem hom_pr {α' : Type} {m' : α' → α' → α'} {e' : α'} (h : Grp S m e) {F : α → α'} (h1 : F e = e') (hm : ∀ a b, S a → S b → F (m a b) = m' (F a) (F b)) (f : β → α) (l : List β) (hf : ∀ j ∈ l, S (f j)) :
    F (pr m e f l) = pr m' e' (fun j => F (f j)) l := by
  have : ∀ a, S a → F (l.foldl (fun u j => m u (f j)) a) = l.foldl (fun u j => m' u (F (f j))) (F a) := by
    induction l with
    | nil => intro a _; rfl
    | cons j l ih =>
      intro a ha
      have hj := hf j List.mem_cons_self
      simp only [List.foldl_cons]
      rw [ih (fun k hk => hf k (List.mem_cons_of_mem _ hk)) _ (h.cl ha hj), hm _ _ ha hj]
  rw [pr, this e h.one, h1]; rfl
theorem hom_pw {α' : Type} {m' : α' → α' → α'} {e' : α'} (h : Grp S m e) {F : α → α'} (h1 : F e = e') (hm : ∀ a b, S a → S b → F (m a b) = m' (F a) (F b)) {a : α} (ha : S a) (k : Nat) : F (pw m e a k) = pw m' e' (F a) k := by
  induction k with
  | zero => exact h1
  | succ k ih => show F (m _ _) = m' _ _; rw [hm _ _ (pw_closed h ha k) ha, ih]
end

/-! ### vectors -/
theorem vext {xs ys : List Int} (hl : xs.length = ys.length) (h : ∀ j, j < xs.length → xs.getD j 0 = ys.getD j 0) : xs = ys := by
  apply List.ext_getElem hl
  intro j h1 h2
  have := h j h1
  simpa [List.getD, h1, h2] using this
theorem vset (xs : List Int) (i t : Nat) (y : Int) : (xs.set i y).getD t 0 = if i = t ∧ t < xs.length then y else xs.getD t 0 := by
  simp only [List.getD_eq_getElem?_getD, List.getElem?_set]
  by_cases h : i = t
  · subst h
    by_cases h2 : i < xs.length
    · simp [h2]
    · simp [h2]
  · simp [h]
theorem vset_self {xs : List Int} {i : Nat} {y : Int} (h : i < xs.length) : (xs.set i y).getD i 0 = y := by rw [vset, if_pos ⟨rfl, h⟩]
theorem vset_ne {xs : List Int} {i t : Nat} {y : Int} (h : i ≠ t) : (xs.set i y).getD t 0 = xs.getD t 0 := by rw [vset, if_neg fun hh => h hh.1]
theorem vrep (n t : Nat) : (List.replicate n (0 : Int)).getD t 0 = 0 := by
  rw [List.getD_eq_getElem?_getD, List.getElem?_replicate]; split <;> rfl

namespace Pres
def n (p : Pres) : Nat := p.orders.length
def r (p : Pres) (i : Nat) : Int := p.orders.getD i 0
def P (p : Pres) (i : Nat) : List Int := p.powers.getD i []
def C (p : Pres) (i j : Nat) : List Int := (p.conj.getD i []).getD (j - i - 1) []
def zv (p : Pres) : List Int := List.replicate p.n 0
def uv (p : Pres) (j : Nat) : List Int := p.zv.set j 1
theorem zv_len (p : Pres) : p.zv.length = p.n := by simp [zv]
end Pres

/-- an exponent vector with zeros ahead of i -/
structure VI (p : Pres) (i : Nat) (v : List Int) : Prop where
  len : v.length = p.n
  lo : ∀ k, k < p.n → 0 ≤ v.getD k 0
  hi : ∀ k, k < p.n → v.getD k 0 < p.r k
  zero : ∀ k, k < i → v.getD k 0 = 0

/-- what the walks take from a presentation that is valid -/
structure Valid (p : Pres) : Prop where
  ord : ∀ k, k < p.n → 2 ≤ p.r k
  pow : ∀ i, i < p.n → VI p (i + 1) (p.P i)
  cj : ∀ i j, i < j → j < p.n → VI p (i + 1) (p.C i j)

section
variable {p : Pres}
theorem VI.mono {i j : Nat} {v : List Int} (h : VI p i v) (hj : j ≤ i) : VI p j v := ⟨h.len, h.lo, h.hi, fun k hk => h.zero k (by omega)⟩
theorem VI.zv (hp : Valid p) (i : Nat) : VI p i p.zv :=
  ⟨p.zv_len, fun k _ => by rw [Pres.zv, vrep]; omega, fun k hk => by rw [Pres.zv, vrep]; have := hp.ord k hk; omega, fun k _ => by rw [Pres.zv, vrep]⟩
theorem VI.set {i : Nat} {v : List Int} (h : VI p (i + 1) v) {c : Int} (h0 : 0 ≤ c) (h1 : c < p.r i) : VI p i (v.set i c) := by
  refine ⟨by rw [List.length_set]; exact h.len, fun k hk => ?_, fun k hk => ?_, fun k hk => ?_⟩
  · rw [vset]; split
    · exact h0
    · exact h.lo k hk
  · rw [vset]; split
    · next hh => rw [← hh.1]; exact h1
    · exact h.hi k hk
  · rw [vset_ne (by omega)]; exact h.zero k (by omega)
theorem VI.clear {i : Nat} {v : List Int} (hp : Valid p) (h : VI p i v) : VI p (i + 1) (v.set i 0) := by
  refine ⟨by rw [List.length_set]; exact h.len, fun k hk => ?_, fun k hk => ?_, fun k hk => ?_⟩
  · rw [vset]; split
    · omega
    · exact h.lo k hk
  · rw [vset]; split
    · have := hp.ord k hk; omega
    · exact h.hi k hk
  · rw [vset]; split
    · rfl
    · next hh =>
      by_cases hki : i = k
      · subst hki
        rw [h.len] at hh
        rw [List.getD_eq_getElem?_getD, List.getElem?_eq_none (by rw [h.len]; omega)]; rfl
      · exact h.zero k (by omega)
theorem VI.same {i : Nat} {v : List Int} (h : VI p (i + 1) v) : v.set i 0 = v := by
  refine vext (by simp) fun j _ => ?_
  rw [vset]; split
  · next hh => rw [h.zero j (by omega)]
  · rfl
theorem VI.split {v : List Int} {i : Nat} : (v.set i 0).set i (v.getD i 0) = v := by
  rw [List.set_set]
  refine vext (by simp) fun j _ => ?_
  rw [vset]; split
  · next hh => rw [hh.1]
  · rfl
theorem VI.top {v : List Int} (h : VI p p.n v) : v = p.zv := by
  refine vext (by rw [h.len, p.zv_len]) fun j hj => ?_
  rw [h.zero j (by rw [h.len] at hj; exact hj), Pres.zv, vrep]
theorem VI.uv (hp : Valid p) {i j : Nat} (hij : i ≤ j) (hj : j < p.n) : VI p i (p.uv j) :=
  ((VI.zv hp (j + 1)).set (c := 1) (by omega) (by have := hp.ord j hj; omega)).mono hij

/-! ### letters -/
def lwAt (x : List Int) (k : Nat) : List Nat := List.replicate (x.getD k 0).toNat k
def lw (x : List Int) : List Nat := (List.range x.length).flatMap (lwAt x)
theorem mem_lw {x : List Int} {j : Nat} (h : j ∈ lw x) : j < x.length ∧ 0 < x.getD j 0 := by
  unfold lw lwAt at h
  obtain ⟨k, hk, hj⟩ := List.mem_flatMap.1 h
  obtain ⟨h1, rfl⟩ := List.mem_replicate.1 hj
  exact ⟨List.mem_range.1 hk, by omega⟩
theorem VI.mem {i j : Nat} {v : List Int} (h : VI p i v) (hj : j ∈ lw v) : i ≤ j ∧ j < p.n := by
  obtain ⟨h1, h2⟩ := mem_lw hj
  refine ⟨?_, by rw [h.len] at h1; exact h1⟩
  by_cases hh : j < i
  · have := h.zero j hh; omega
  · omega
theorem lw_zero {x : List Int} (h : ∀ k, x.getD k 0 = 0) : lw x = [] := by
  unfold lw lwAt
  rw [List.flatMap_eq_nil_iff]
  intro k _
  rw [h k]; rfl
theorem lw_zv (p : Pres) : lw p.zv = [] := lw_zero fun k => vrep _ _
theorem range_split (n i : Nat) (h : i < n) : List.range n = List.range i ++ i :: List.range' (i + 1) (n - i - 1) := by
  rw [List.range_eq_range', List.range_eq_range']
  have h1 : List.range' i (n - i) = i :: List.range' (i + 1) (n - i - 1) := by
    have : n - i = (n - i - 1) + 1 := by omega
    conv => lhs; rw [this]
    rw [List.range'_succ]
  rw [← h1]
  have h2 := List.range'_append_1 (s := 0) (m := i) (n := n - i)
  rw [Nat.zero_add] at h2
  rw [h2]; congr 1; omega
theorem flatMap_congr {β γ : Type} {l : List β} {f g : β → List γ} (h : ∀ x ∈ l, f x = g x) : l.flatMap f = l.flatMap g := by
  induction l with
  | nil => rfl
  | cons a l ih => simp only [List.flatMap_cons]; rw [h a List.mem_cons_self, ih fun x hx => h x (List.mem_cons_of_mem _ hx)]
theorem lw_split {i : Nat} {v : List Int} (h : VI p i v) (hi : i < p.n) : lw v = List.replicate (v.getD i 0).toNat i ++ lw (v.set i 0) := by
  have hl := h.len
  unfold lw
  rw [List.length_set, hl, range_split p.n i hi]
  simp only [List.flatMap_append, List.flatMap_cons]
  have e1 : (List.range i).flatMap (lwAt v) = [] := by
    rw [List.flatMap_eq_nil_iff]; intro k hk
    unfold lwAt; rw [h.zero k (List.mem_range.1 hk)]; rfl
  have e2 : (List.range i).flatMap (lwAt (v.set i 0)) = [] := by
    rw [List.flatMap_eq_nil_iff]; intro k hk
    have := List.mem_range.1 hk
    unfold lwAt; rw [vset_ne (by omega), h.zero k this]; rfl
  have e3 : lwAt (v.set i 0) i = [] := by unfold lwAt; rw [vset_self (by omega)]; rfl
  have e4 : (List.range' (i + 1) (p.n - i - 1)).flatMap (lwAt (v.set i 0)) = (List.range' (i + 1) (p.n - i - 1)).flatMap (lwAt v) := by
    apply flatMap_congr
    intro k hk
    have := List.mem_range'.1 hk
    obtain ⟨t, _, rfl⟩ := this
    unfold lwAt; rw [vset_ne (by omega)]
  rw [e1, e2, e3, e4]; rfl
theorem lw_set {i : Nat} {v : List Int} (h : VI p (i + 1) v) {c : Int} (h0 : 0 ≤ c) (h1 : c < p.r i) (hi : i < p.n) : lw (v.set i c) = List.replicate c.toNat i ++ lw v := by
  rw [lw_split (h.set h0 h1) hi, List.set_set, h.same, vset_self (by rw [h.len]; exact hi)]

/-! ### the product -/
/-- the product of conjugates by i over the letters of x -/
def imgM (p : Pres) (m : List Int → List Int → List Int) (i : Nat) (x : List Int) : List Int := pr m p.zv (p.C i) (lw x)
def atD (p : Pres) : Nat → List Int → List Int → List Int
  | 0 => fun _ _ => p.zv
  | d + 1 => fun a b =>
    let i := p.n - (d + 1)
    let left := itf (imgM p (atD p d) i) (b.getD i 0).toNat (a.set i 0)
    let rest := atD p d left (b.set i 0)
    let c := a.getD i 0 + b.getD i 0
    if p.r i ≤ c then (atD p d (p.P i) rest).set i (c - p.r i) else rest.set i c
/-- the product in the tail at i -/
def Pres.at (p : Pres) (i : Nat) : List Int → List Int → List Int := atD p (p.n - i)
def Pres.img (p : Pres) (i : Nat) (x : List Int) : List Int := imgM p (p.at (i + 1)) i x
theorem at_top (p : Pres) (i : Nat) (h : p.n ≤ i) (a b : List Int) : p.at i a b = p.zv := by
  unfold Pres.at; rw [show p.n - i = 0 by omega]; rfl
def Pres.mid (p : Pres) (i : Nat) (a b : List Int) : List Int := p.at (i + 1) (itf (p.img i) (b.getD i 0).toNat (a.set i 0)) (b.set i 0)
theorem at_step (p : Pres) (i : Nat) (h : i < p.n) (a b : List Int) :
    p.at i a b = if p.r i ≤ a.getD i 0 + b.getD i 0 then (p.at (i + 1) (p.P i) (p.mid i a b)).set i (a.getD i 0 + b.getD i 0 - p.r i) else (p.mid i a b).set i (a.getD i 0 + b.getD i 0) := by
  have h1 : p.n - i = (p.n - (i + 1)) + 1 := by omega
  have h2 : p.n - (p.n - (i + 1) + 1) = i := by omega
  unfold Pres.mid Pres.img Pres.at
  rw [h1]
  simp only [atD, h2]
theorem at_lo {p : Pres} {i : Nat} (h : i < p.n) {a b : List Int} (hc : ¬ p.r i ≤ a.getD i 0 + b.getD i 0) : p.at i a b = (p.mid i a b).set i (a.getD i 0 + b.getD i 0) := by rw [at_step p i h, if_neg hc]
theorem at_hi {p : Pres} {i : Nat} (h : i < p.n) {a b : List Int} (hc : p.r i ≤ a.getD i 0 + b.getD i 0) : p.at i a b = (p.at (i + 1) (p.P i) (p.mid i a b)).set i (a.getD i 0 + b.getD i 0 - p.r i) := by rw [at_step p i h, if_pos hc]

theorem down {P : Nat → Prop} (n : Nat) (h0 : P n) (hs : ∀ i, i < n → P (i + 1) → P i) : ∀ i, i ≤ n → P i := by
  intro i hi
  obtain ⟨d, rfl⟩ : ∃ d, n = i + d := ⟨n - i, by omega⟩
  clear hi
  induction d generalizing i with
  | zero => exact h0
  | succ d ih =>
    refine hs i (by omega) (ih (i + 1) ?_ ?_)
    · rw [show i + 1 + d = i + (d + 1) by omega]; exact h0
    · rw [show i + 1 + d = i + (d + 1) by omega]; exact hs
theorem fold_VI {t : Nat} {m : List Int → List Int → List Int} (hm : ∀ a b, VI p t a → VI p t b → VI p t (m a b)) {β : Type} {f : β → List Int} {l : List β} (hf : ∀ j ∈ l, VI p t (f j)) : ∀ a, VI p t a → VI p t (l.foldl (fun u j => m u (f j)) a) := by
  induction l with
  | nil => intro a ha; exact ha
  | cons j l ih => intro a ha; exact ih (fun k hk => hf k (List.mem_cons_of_mem _ hk)) _ (hm _ _ ha (hf j List.mem_cons_self))
theorem itf_VI {t : Nat} {f : List Int → List Int} (hf : ∀ a, VI p t a → VI p t (f a)) (k : Nat) {a : List Int} (ha : VI p t a) : VI p t (itf f k a) := by
  induction k with
  | zero => exact ha
  | succ k ih => exact hf _ ih
theorem img_of {i : Nat} (hp : Valid p) (hi : i < p.n) (hm : ∀ a b, VI p (i + 1) a → VI p (i + 1) b → VI p (i + 1) (p.at (i + 1) a b)) {x : List Int} (hx : VI p (i + 1) x) : VI p (i + 1) (p.img i x) :=
  fold_VI hm (fun j hj => by have := hx.mem hj; exact hp.cj i j (by omega) this.2) _ (VI.zv hp _)
theorem VI.sum_lt {i : Nat} {a b : List Int} (ha : VI p i a) (hb : VI p i b) (hi : i < p.n) : a.getD i 0 + b.getD i 0 - p.r i < p.r i := by
  have := ha.hi i hi; have := hb.hi i hi; omega
theorem VI.at (hp : Valid p) : ∀ i, i ≤ p.n → ∀ a b, VI p i a → VI p i b → VI p i (p.at i a b) := by
  refine down p.n ?_ ?_
  · intro a b _ _; rw [at_top p _ (Nat.le_refl _)]; exact VI.zv hp _
  · intro i hi ih a b ha hb
    have h1 : VI p (i + 1) (p.mid i a b) := ih _ _ (itf_VI (fun x hx => img_of hp hi ih hx) _ (ha.clear hp)) (hb.clear hp)
    have := ha.lo i hi; have := hb.lo i hi; have := ha.sum_lt hb hi
    by_cases hc : p.r i ≤ a.getD i 0 + b.getD i 0
    · rw [at_hi hi hc]; exact (ih _ _ (hp.pow i hi) h1).set (by omega) (by omega)
    · rw [at_lo hi hc]; exact h1.set (by omega) (by omega)
theorem VI.img (hp : Valid p) {i : Nat} (hi : i < p.n) {x : List Int} (hx : VI p (i + 1) x) : VI p (i + 1) (p.img i x) := img_of hp hi (VI.at hp _ hi) hx
theorem VI.iimg (hp : Valid p) {i : Nat} (hi : i < p.n) {x : List Int} (hx : VI p (i + 1) x) (k : Nat) : VI p (i + 1) (itf (p.img i) k x) := itf_VI (fun _ h => h.img hp hi) k hx
theorem VI.mid (hp : Valid p) {i : Nat} (hi : i < p.n) {a b : List Int} (ha : VI p i a) (hb : VI p i b) : VI p (i + 1) (p.mid i a b) := VI.at hp _ hi _ _ ((ha.clear hp).iimg hp hi _) (hb.clear hp)

/-! ### maps out of a tail -/
section
variable {α : Type} {S : α → Prop} {m : α → α → α} {e : α}
/-- the product of f over the letters -/
def Fm (m : α → α → α) (e : α) (f : Nat → α) (x : List Int) : α := pr m e f (lw x)
theorem Fm_zv (f : Nat → α) : Fm m e f p.zv = e := by unfold Fm; rw [lw_zv]; rfl
theorem Fm_closed (h : Grp S m e) {f : Nat → α} {s : Nat} (hf : ∀ j, s ≤ j → j < p.n → S (f j)) {x : List Int} (hx : VI p s x) : S (Fm m e f x) :=
  pr_closed h fun j hj => hf j (hx.mem hj).1 (hx.mem hj).2
theorem Fm_split (h : Grp S m e) {f : Nat → α} {s : Nat} (hp : Valid p) (hf : ∀ j, s ≤ j → j < p.n → S (f j)) {t : Nat} (hst : s ≤ t) (ht : t < p.n) {x : List Int} (hx : VI p t x) :
    Fm m e f x = m (pw m e (f t) (x.getD t 0).toNat) (Fm m e f (x.set t 0)) := by
  have hx' := hx.clear hp
  unfold Fm
  rw [lw_split hx ht, pr_append h, pr_replicate]
  · intro j hj; obtain ⟨_, rfl⟩ := List.mem_replicate.1 hj; exact hf _ hst ht
  · intro j hj; have := hx'.mem hj; exact hf _ (by omega) this.2
theorem Fm_set (h : Grp S m e) {f : Nat → α} {s : Nat} (hp : Valid p) (hf : ∀ j, s ≤ j → j < p.n → S (f j)) {t : Nat} (hst : s ≤ t) (ht : t < p.n) {x : List Int} (hx : VI p (t + 1) x) {c : Int} (h0 : 0 ≤ c) (h1 : c < p.r t) :
    Fm m e f (x.set t c) = m (pw m e (f t) c.toNat) (Fm m e f x) := by
  rw [Fm_split h hp hf hst ht (hx.set h0 h1), List.set_set, hx.same, vset_self (by rw [hx.len]; exact ht)]

theorem vonDyck (h : Grp S m e) (hp : Valid p) {f : Nat → α} {s : Nat} (hf : ∀ j, s ≤ j → j < p.n → S (f j))
    (hpow : ∀ j, s ≤ j → j < p.n → pw m e (f j) (p.r j).toNat = Fm m e f (p.P j))
    (hconj : ∀ j k, s ≤ j → j < k → k < p.n → m (f k) (f j) = m (f j) (Fm m e f (p.C j k))) :
    ∀ t, t ≤ p.n → s ≤ t → ∀ x y, VI p t x → VI p t y → Fm m e f (p.at t x y) = m (Fm m e f x) (Fm m e f y) := by
  have cl : ∀ {t x}, s ≤ t → VI p t x → S (Fm m e f x) := fun hst hx => Fm_closed h hf (hx.mono hst)
  refine down p.n ?_ ?_
  · intro _ x y hx hy
    rw [hx.top, hy.top, at_top p _ (Nat.le_refl _), Fm_zv, h.onel h.one]
  · intro t ht ih hst x y hx hy
    have ih := ih (by omega)
    have hft : S (f t) := hf t hst ht
    -- conjugates
    have hcj : ∀ z, VI p (t + 1) z → m (Fm m e f z) (f t) = m (f t) (Fm m e f (p.img t z)) := by
      intro z hz
      have hone : ∀ j ∈ lw z, VI p (t + 1) (p.C t j) := fun j hj => by have := hz.mem hj; exact hp.cj t j (by omega) this.2
      have hF : Fm m e f (p.img t z) = pr m e (fun j => Fm m e f (p.C t j)) (lw z) := by
        have : ∀ l : List Nat, (∀ j ∈ l, VI p (t + 1) (p.C t j)) → ∀ a, VI p (t + 1) a → Fm m e f (l.foldl (fun u j => p.at (t + 1) u (p.C t j)) a) = l.foldl (fun u j => m u (Fm m e f (p.C t j))) (Fm m e f a) := by
          intro l
          induction l with
          | nil => intro _ a _; rfl
          | cons j l ihl =>
            intro hl a ha
            simp only [List.foldl_cons]
            rw [ihl (fun k hk => hl k (List.mem_cons_of_mem _ hk)) _ (VI.at hp _ ht _ _ ha (hl j List.mem_cons_self)), ih _ _ ha (hl j List.mem_cons_self)]
        unfold Pres.img imgM pr
        rw [this _ hone _ (VI.zv hp _), Fm_zv]
      rw [hF]
      have hin : ∀ j ∈ lw z, t < j ∧ j < p.n := fun j hj => by have := hz.mem hj; omega
      have : ∀ l : List Nat, (∀ j ∈ l, t < j ∧ j < p.n) → m (pr m e f l) (f t) = m (f t) (pr m e (fun j => Fm m e f (p.C t j)) l) := by
        intro l
        induction l with
        | nil => intro _; rw [pr_nil, pr_nil, h.onel hft, h.oner hft]
        | cons j l ihl =>
          intro hl
          have hj := hl j List.mem_cons_self
          have hl' : ∀ k ∈ l, t < k ∧ k < p.n := fun k hk => hl k (List.mem_cons_of_mem _ hk)
          have s1 : S (f j) := hf j (by omega) hj.2
          have s2 : ∀ k ∈ l, S (f k) := fun k hk => hf k (by have := hl' k hk; omega) (hl' k hk).2
          have s3 : S (Fm m e f (p.C t j)) := cl (t := t + 1) (by omega) (hp.cj t j hj.1 hj.2)
          have s4 : ∀ k ∈ l, S (Fm m e f (p.C t k)) := fun k hk => cl (t := t + 1) (by omega) (hp.cj t k (hl' k hk).1 (hl' k hk).2)
          rw [pr_cons h s1 s2, pr_cons (f := fun j => Fm m e f (p.C t j)) h s3 s4, h.assoc s1 (pr_closed h s2) hft, ihl hl', ← h.assoc s1 hft (pr_closed h s4), hconj t j hst hj.1 hj.2, h.assoc hft s3 (pr_closed (f := fun j => Fm m e f (p.C t j)) h s4)]
      exact this _ hin
    have hit : ∀ k z, VI p (t + 1) z → m (Fm m e f z) (pw m e (f t) k) = m (pw m e (f t) k) (Fm m e f (itf (p.img t) k z)) := by
      intro k
      induction k with
      | zero => intro z hz; show m _ e = m e (Fm m e f z); rw [h.oner (cl (t := t + 1) (by omega) hz), h.onel (cl (t := t + 1) (by omega) hz)]
      | succ k ihk =>
        intro z hz
        have a1 := cl (t := t + 1) (by omega) hz
        have a2 := pw_closed h hft k
        have a3 := cl (t := t + 1) (by omega) (hz.iimg hp ht k)
        have a4 := cl (t := t + 1) (by omega) (hz.iimg hp ht (k + 1))
        show m _ (m (pw m e (f t) k) (f t)) = m (m (pw m e (f t) k) (f t)) _
        rw [← h.assoc a1 a2 hft, ihk z hz, h.assoc a2 a3 hft, hcj _ (hz.iimg hp ht k)]; exact (h.assoc a2 hft a4).symm
    have hx' := hx.clear hp
    have hy' := hy.clear hp
    have x0 := hx.lo t ht; have y0 := hy.lo t ht; have hlt := hx.sum_lt hy ht
    have hmid := VI.mid hp ht hx hy
    have hF : Fm m e f (p.mid t x y) = m (Fm m e f (itf (p.img t) (y.getD t 0).toNat (x.set t 0))) (Fm m e f (y.set t 0)) := ih _ _ (hx'.iimg hp ht _) hy'
    have sx := cl (t := t + 1) (by omega) hx'
    have sy := cl (t := t + 1) (by omega) hy'
    have si := cl (t := t + 1) (by omega) (hx'.iimg hp ht (y.getD t 0).toNat)
    have pa := pw_closed h hft (x.getD t 0).toNat
    have pb := pw_closed h hft (y.getD t 0).toNat
    have hR : m (Fm m e f x) (Fm m e f y) = m (pw m e (f t) (x.getD t 0 + y.getD t 0).toNat) (Fm m e f (p.mid t x y)) := by
      rw [Fm_split h hp hf hst ht hx, Fm_split h hp hf hst ht hy, hF, h.assoc pa sx (h.cl pb sy), ← h.assoc sx pb sy, hit _ _ hx', h.assoc pb si sy, ← h.assoc pa pb (h.cl si sy), ← pw_add h hft]
      congr 2; omega
    rw [hR]
    by_cases hc : p.r t ≤ x.getD t 0 + y.getD t 0
    · have hP := hp.pow t ht
      rw [at_hi ht hc, Fm_set h hp hf hst ht (VI.at hp _ ht _ _ hP hmid) (by omega) (by omega), ih _ _ hP hmid, ← hpow t hst ht, ← h.assoc (pw_closed h hft _) (pw_closed h hft _) (cl (t := t + 1) (by omega) hmid), ← pw_add h hft]
      congr 2; have := hp.ord t ht; omega
    · rw [at_lo ht hc, Fm_set h hp hf hst ht hmid (by omega) (by omega)]
end
end
end Go.Proofs.Ythnpndheaailjaa
