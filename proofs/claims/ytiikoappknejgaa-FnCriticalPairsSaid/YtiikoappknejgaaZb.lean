/-
  Presentations as lists, and the plain theory of groups that they give: no program in sight.
  Presentations: what reads, what a call owns; the laws' helpers.
  A tail that is consistent is a group: the cyclic extension, level by level.
  What makes a presentation valid, as a truth value; and what follows from it.
  Valid presentations: the walks of the tests.
  Valid presentations: the tests themselves.
-/
import Derived.Test.YtiikoappknejgaaZa
import Derived.Deep.RegionHeld
import Derived.IntWalk
namespace Go.Proofs.Ytiikoappknejgaa
set_option linter.unusedVariables false
set_option linter.unusedSimpArgs false
set_option maxRecDepth 100000

structure Pres where
  orders : List Int
  powers : List (List Int)
  conj : List (List (List Int))

/-! ### groups on a subset -/
structure Grp {α : Type} (S : α → Prop) (m : α → α → α) (e : α) : Prop where
  cl : ∀ {a b : α}, S a → S b → S (m a b)
  one : S e
  assoc : ∀ {a b c : α}, S a → S b → S c → m (m a b) c = m a (m b c)
  onel : ∀ {a : α}, S a → m e a = a
  oner : ∀ {a : α}, S a → m a e = a
  inv : ∀ {a : α}, S a → ∃ b, S b ∧ m a b = e ∧ m b a = e

def pw {α : Type} (m : α → α → α) (e a : α) : Nat → α
  | 0 => e
  | k + 1 => m (pw m e a k) a
def pr {α β : Type} (m : α → α → α) (e : α) (f : β → α) (l : List β) : α := l.foldl (fun u j => m u (f j)) e
def itf {α : Type} (f : α → α) : Nat → α → α
  | 0, x => x
  | k + 1, x => f (itf f k x)
theorem itf_succ {α : Type} (f : α → α) (k : Nat) (x : α) : itf f (k + 1) x = f (itf f k x) := rfl
theorem itf_add {α : Type} (f : α → α) (k l : Nat) (x : α) : itf f (k + l) x = itf f k (itf f l x) := by
  induction k with
  | zero => rw [Nat.zero_add]; rfl
  | succ k ih => rw [Nat.succ_add, itf_succ, ih, itf_succ]
theorem itf_comm {α : Type} (f : α → α) (k : Nat) (x : α) : itf f k (f x) = f (itf f k x) := by
  have := itf_add f k 1 x
  rw [show itf f 1 x = f x from rfl] at this
  rw [← this, itf_succ]

section
variable {α β : Type} {S : α → Prop} {m : α → α → α} {e : α}

theorem Grp.lcan (h : Grp S m e) {a b c : α} (ha : S a) (hb : S b) (hc : S c) (H : m a b = m a c) : b = c := by
  obtain ⟨d, hd, _, h2⟩ := h.inv ha
  have := congrArg (m d) H
  rwa [← h.assoc hd ha hb, ← h.assoc hd ha hc, h2, h.onel hb, h.onel hc] at this
theorem Grp.rcan (h : Grp S m e) {a b c : α} (ha : S a) (hb : S b) (hc : S c) (H : m b a = m c a) : b = c := by
  obtain ⟨d, hd, h1, _⟩ := h.inv ha
  have : m (m b a) d = m (m c a) d := by rw [H]
  rwa [h.assoc hb ha hd, h.assoc hc ha hd, h1, h.oner hb, h.oner hc] at this

theorem pr_nil (f : β → α) : pr m e f [] = e := rfl
theorem pr_snoc (f : β → α) (l : List β) (j : β) : pr m e f (l ++ [j]) = m (pr m e f l) (f j) := by simp [pr]
theorem fold_closed (h : Grp S m e) (f : β → α) (l : List β) (hf : ∀ j ∈ l, S (f j)) : ∀ a, S a → S (l.foldl (fun u j => m u (f j)) a) := by
  induction l with
  | nil => intro a ha; exact ha
  | cons j l ih => intro a ha; exact ih (fun k hk => hf k (List.mem_cons_of_mem _ hk)) _ (h.cl ha (hf j List.mem_cons_self))
theorem pr_closed (h : Grp S m e) {f : β → α} {l : List β} (hf : ∀ j ∈ l, S (f j)) : S (pr m e f l) := fold_closed h f l hf e h.one
theorem pr_from (h : Grp S m e) (f : β → α) (l : List β) (hf : ∀ j ∈ l, S (f j)) : ∀ a, S a → l.foldl (fun u j => m u (f j)) a = m a (pr m e f l) := by
  induction l with
  | nil => intro a ha; exact (h.oner ha).symm
  | cons j l ih =>
    intro a ha
    have hj := hf j List.mem_cons_self
    have hl : ∀ k ∈ l, S (f k) := fun k hk => hf k (List.mem_cons_of_mem _ hk)
    have h1 := ih hl (m a (f j)) (h.cl ha hj)
    have h2 := ih hl (m e (f j)) (h.cl h.one hj)
    simp only [List.foldl_cons, pr]
    rw [h1, h2, h.onel hj, h.assoc ha hj (pr_closed h hl)]
theorem pr_append (h : Grp S m e) {f : β → α} {l l' : List β} (hf : ∀ j ∈ l, S (f j)) (hf' : ∀ j ∈ l', S (f j)) : pr m e f (l ++ l') = m (pr m e f l) (pr m e f l') := by
  rw [pr, List.foldl_append]
  exact pr_from h f l' hf' _ (pr_closed h hf)
theorem pr_cons (h : Grp S m e) {f : β → α} {j : β} {l : List β} (hj : S (f j)) (hf : ∀ j ∈ l, S (f j)) : pr m e f (j :: l) = m (f j) (pr m e f l) := by
  have : pr m e f (j :: l) = l.foldl (fun u j => m u (f j)) (m e (f j)) := rfl
  rw [this, h.onel hj]
  exact pr_from h f l hf _ hj
theorem pw_closed (h : Grp S m e) {a : α} (ha : S a) (k : Nat) : S (pw m e a k) := by
  induction k with
  | zero => exact h.one
  | succ k ih => exact h.cl ih ha
theorem pw_add (h : Grp S m e) {a : α} (ha : S a) (k l : Nat) : pw m e a (k + l) = m (pw m e a k) (pw m e a l) := by
  induction l with
  | zero => exact (h.oner (pw_closed h ha k)).symm
  | succ l ih =>
    show m (pw m e a (k + l)) a = _
    rw [ih, h.assoc (pw_closed h ha k) (pw_closed h ha l) ha]; rfl
theorem pw_one (h : Grp S m e) {a : α} (ha : S a) : pw m e a 1 = a := h.onel ha
theorem pw_succ' (h : Grp S m e) {a : α} (ha : S a) (k : Nat) : pw m e a (k + 1) = m a (pw m e a k) := by
  rw [Nat.add_comm, pw_add h ha, pw_one h ha]
theorem pr_replicate (f : β → α) (k : Nat) (j : β) : pr m e f (List.replicate k j) = pw m e (f j) k := by
  induction k with
  | zero => rfl
  | succ k ih => rw [List.replicate_succ', pr_snoc, ih]; rfl
theorem pr_congr {f g : β → α} {l : List β} (h : ∀ j ∈ l, f j = g j) : pr m e f l = pr m e g l := by
  have : ∀ a, l.foldl (fun u j => m u (f j)) a = l.foldl (fun u j => m u (g j)) a := by
    induction l with
    | nil => intro a; rfl
    | cons j l ih => intro a; simp only [List.foldl_cons]; rw [h j List.mem_cons_self]; exact ih (fun k hk => h k (List.mem_cons_of_mem _ hk)) _
  exact this e
/-- a map that keeps products keeps products of lists -/
theorem hom_pr {α' : Type} {m' : α' → α' → α'} {e' : α'} (h : Grp S m e) {F : α → α'} (h1 : F e = e') (hm : ∀ a b, S a → S b → F (m a b) = m' (F a) (F b)) (f : β → α) (l : List β) (hf : ∀ j ∈ l, S (f j)) :
    F (pr m e f l) = pr m' e' (fun j => F (f j)) l := by
  have : ∀ a, S a → F (l.foldl (fun u j => m u (f j)) a) = l.foldl (fun u j => m' u (F (f j))) (F a) := by
    induction l with
    | nil => intro a _; rfl
    | cons j l ih =>
      intro a ha
      have hj := hf j List.mem_cons_self
      simp only [List.foldl_cons]
      rw [ih (fun k hk => hf k (List.mem_cons_of_mem _ hk)) _ (h.cl ha hj), hm _ _ ha hj]
  rw [pr, this e h.one, h1]; rfl
theorem hom_pw {α' : Type} {m' : α' → α' → α'} {e' : α'} (h : Grp S m e) {F : α → α'} (h1 : F e = e') (hm : ∀ a b, S a → S b → F (m a b) = m' (F a) (F b)) {a : α} (ha : S a) (k : Nat) : F (pw m e a k) = pw m' e' (F a) k := by
  induction k with
  | zero => exact h1
  | succ k ih => show F (m _ _) = m' _ _; rw [hm _ _ (pw_closed h ha k) ha, ih]
end

/-! ### vectors -/
theorem vext {xs ys : List Int} (hl : xs.length = ys.length) (h : ∀ j, j < xs.length → xs.getD j 0 = ys.getD j 0) : xs = ys := by
  apply List.ext_getElem hl
  intro j h1 h2
  have := h j h1
  simpa [List.getD, h1, h2] using this
theorem vset (xs : List Int) (i t : Nat) (y : Int) : (xs.set i y).getD t 0 = if i = t ∧ t < xs.length then y else xs.getD t 0 := by
  simp only [List.getD_eq_getElem?_getD, List.getElem?_set]
  by_cases h : i = t
  · subst h
    by_cases h2 : i < xs.length
    · simp [h2]
    · simp [h2]
  · simp [h]
theorem vset_self {xs : List Int} {i : Nat} {y : Int} (h : i < xs.length) : (xs.set i y).getD i 0 = y := by rw [vset, if_pos ⟨rfl, h⟩]
theorem vset_ne {xs : List Int} {i t : Nat} {y : Int} (h : i ≠ t) : (xs.set i y).getD t 0 = xs.getD t 0 := by rw [vset, if_neg fun hh => h hh.1]
theorem vrep (n t : Nat) : (List.replicate n (0 : Int)).getD t 0 = 0 := by
  rw [List.getD_eq_getElem?_getD, List.getElem?_replicate]; split <;> rfl

namespace Pres
def n (p : Pres) : Nat := p.orders.length
def r (p : Pres) (i : Nat) : Int := p.orders.getD i 0
def P (p : Pres) (i : Nat) : List Int := p.powers.getD i []
def C (p : Pres) (i j : Nat) : List Int := (p.conj.getD i []).getD (j - i - 1) []
def zv (p : Pres) : List Int := List.replicate p.n 0
def uv (p : Pres) (j : Nat) : List Int := p.zv.set j 1
theorem zv_len (p : Pres) : p.zv.length = p.n := by simp [zv]
end Pres

/-- an exponent vector with zeros ahead of i -/
structure VI (p : Pres) (i : Nat) (v : List Int) : Prop where
  len : v.length = p.n
  lo : ∀ k, k < p.n → 0 ≤ v.getD k 0
  hi : ∀ k, k < p.n → v.getD k 0 < p.r k
  zero : ∀ k, k < i → v.getD k 0 = 0

/-- what the walks take from a presentation that is valid -/
structure Valid (p : Pres) : Prop where
  ord : ∀ k, k < p.n → 2 ≤ p.r k
  pow : ∀ i, i < p.n → VI p (i + 1) (p.P i)
  cj : ∀ i j, i < j → j < p.n → VI p (i + 1) (p.C i j)

section
variable {p : Pres}
theorem VI.mono {i j : Nat} {v : List Int} (h : VI p i v) (hj : j ≤ i) : VI p j v := ⟨h.len, h.lo, h.hi, fun k hk => h.zero k (by omega)⟩
theorem VI.zv (hp : Valid p) (i : Nat) : VI p i p.zv :=
  ⟨p.zv_len, fun k _ => by rw [Pres.zv, vrep]; omega, fun k hk => by rw [Pres.zv, vrep]; have := hp.ord k hk; omega, fun k _ => by rw [Pres.zv, vrep]⟩
theorem VI.set {i : Nat} {v : List Int} (h : VI p (i + 1) v) {c : Int} (h0 : 0 ≤ c) (h1 : c < p.r i) : VI p i (v.set i c) := by
  refine ⟨by rw [List.length_set]; exact h.len, fun k hk => ?_, fun k hk => ?_, fun k hk => ?_⟩
  · rw [vset]; split
    · exact h0
    · exact h.lo k hk
  · rw [vset]; split
    · next hh => rw [← hh.1]; exact h1
    · exact h.hi k hk
  · rw [vset_ne (by omega)]; exact h.zero k (by omega)
theorem VI.clear {i : Nat} {v : List Int} (hp : Valid p) (h : VI p i v) : VI p (i + 1) (v.set i 0) := by
  refine ⟨by rw [List.length_set]; exact h.len, fun k hk => ?_, fun k hk => ?_, fun k hk => ?_⟩
  · rw [vset]; split
    · omega
    · exact h.lo k hk
  · rw [vset]; split
    · have := hp.ord k hk; omega
    · exact h.hi k hk
  · rw [vset]; split
    · rfl
    · next hh =>
      by_cases hki : i = k
      · subst hki
        rw [h.len] at hh
        rw [List.getD_eq_getElem?_getD, List.getElem?_eq_none (by rw [h.len]; omega)]; rfl
      · exact h.zero k (by omega)
theorem VI.same {i : Nat} {v : List Int} (h : VI p (i + 1) v) : v.set i 0 = v := by
  refine vext (by simp) fun j _ => ?_
  rw [vset]; split
  · next hh => rw [h.zero j (by omega)]
  · rfl
theorem VI.split {v : List Int} {i : Nat} : (v.set i 0).set i (v.getD i 0) = v := by
  rw [List.set_set]
  refine vext (by simp) fun j _ => ?_
  rw [vset]; split
  · next hh => rw [hh.1]
  · rfl
theorem VI.top {v : List Int} (h : VI p p.n v) : v = p.zv := by
  refine vext (by rw [h.len, p.zv_len]) fun j hj => ?_
  rw [h.zero j (by rw [h.len] at hj; exact hj), Pres.zv, vrep]
theorem VI.uv (hp : Valid p) {i j : Nat} (hij : i ≤ j) (hj : j < p.n) : VI p i (p.uv j) :=
  ((VI.zv hp (j + 1)).set (c := 1) (by omega) (by have := hp.ord j hj; omega)).mono hij

/-! ### letters -/
def lwAt (x : List Int) (k : Nat) : List Nat := List.replicate (x.getD k 0).toNat k
def lw (x : List Int) : List Nat := (List.range x.length).flatMap (lwAt x)
theorem mem_lw {x : List Int} {j : Nat} (h : j ∈ lw x) : j < x.length ∧ 0 < x.getD j 0 := by
  unfold lw lwAt at h
  obtain ⟨k, hk, hj⟩ := List.mem_flatMap.1 h
  obtain ⟨h1, rfl⟩ := List.mem_replicate.1 hj
  exact ⟨List.mem_range.1 hk, by omega⟩
theorem VI.mem {i j : Nat} {v : List Int} (h : VI p i v) (hj : j ∈ lw v) : i ≤ j ∧ j < p.n := by
  obtain ⟨h1, h2⟩ := mem_lw hj
  refine ⟨?_, by rw [h.len] at h1; exact h1⟩
  by_cases hh : j < i
  · have := h.zero j hh; omega
  · omega
theorem lw_zero {x : List Int} (h : ∀ k, x.getD k 0 = 0) : lw x = [] := by
  unfold lw lwAt
  rw [List.flatMap_eq_nil_iff]
  intro k _
  rw [h k]; rfl
theorem lw_zv (p : Pres) : lw p.zv = [] := lw_zero fun k => vrep _ _
theorem range_split (n i : Nat) (h : i < n) : List.range n = List.range i ++ i :: List.range' (i + 1) (n - i - 1) := by
  rw [List.range_eq_range', List.range_eq_range']
  have h1 : List.range' i (n - i) = i :: List.range' (i + 1) (n - i - 1) := by
    have : n - i = (n - i - 1) + 1 := by omega
    conv => lhs; rw [this]
    rw [List.range'_succ]
  rw [← h1]
  have h2 := List.range'_append_1 (s := 0) (m := i) (n := n - i)
  rw [Nat.zero_add] at h2
  rw [h2]; congr 1; omega
theorem flatMap_congr {β γ : Type} {l : List β} {f g : β → List γ} (h : ∀ x ∈ l, f x = g x) : l.flatMap f = l.flatMap g := by
  induction l with
  | nil => rfl
  | cons a l ih => simp only [List.flatMap_cons]; rw [h a List.mem_cons_self, ih fun x hx => h x (List.mem_cons_of_mem _ hx)]
theorem lw_split {i : Nat} {v : List Int} (h : VI p i v) (hi : i < p.n) : lw v = List.replicate (v.getD i 0).toNat i ++ lw (v.set i 0) := by
  have hl := h.len
  unfold lw
  rw [List.length_set, hl, range_split p.n i hi]
  simp only [List.flatMap_append, List.flatMap_cons]
  have e1 : (List.range i).flatMap (lwAt v) = [] := by
    rw [List.flatMap_eq_nil_iff]; intro k hk
    unfold lwAt; rw [h.zero k (List.mem_range.1 hk)]; rfl
  have e2 : (List.range i).flatMap (lwAt (v.set i 0)) = [] := by
    rw [List.flatMap_eq_nil_iff]; intro k hk
    have := List.mem_range.1 hk
    unfold lwAt; rw [vset_ne (by omega), h.zero k this]; rfl
  have e3 : lwAt (v.set i 0) i = [] := by unfold lwAt; rw [vset_self (by omega)]; rfl
  have e4 : (List.range' (i + 1) (p.n - i - 1)).flatMap (lwAt (v.set i 0)) = (List.range' (i + 1) (p.n - i - 1)).flatMap (lwAt v) := by
    apply flatMap_congr
    intro k hk
    have := List.mem_range'.1 hk
    obtain ⟨t, _, rfl⟩ := this
    unfold lwAt; rw [vset_ne (by omega)]
  rw [e1, e2, e3, e4]; rfl
theorem lw_set {i : Nat} {v : List Int} (h : VI p (i + 1) v) {c : Int} (h0 : 0 ≤ c) (h1 : c < p.r i) (hi : i < p.n) : lw (v.set i c) = List.replicate c.toNat i ++ lw v := by
  rw [lw_split (h.set h0 h1) hi, List.set_set, h.same, vset_self (by rw [h.len]; exact hi)]

/-! ### the product -/
/-- the product of conjugates by i over the letters of x -/
def imgM (p : Pres) (m : List Int → List Int → List Int) (i : Nat) (x : List Int) : List Int := pr m p.zv (p.C i) (lw x)
def atD (p : Pres) : Nat → List Int → List Int → List Int
  | 0 => fun _ _ => p.zv
  | d + 1 => fun a b =>
    let i := p.n - (d + 1)
    let left := itf (imgM p (atD p d) i) (b.getD i 0).toNat (a.set i 0)
    let rest := atD p d left (b.set i 0)
    let c := a.getD i 0 + b.getD i 0
    if p.r i ≤ c then (atD p d (p.P i) rest).set i (c - p.r i) else rest.set i c
/-- the product in the tail at i -/
def Pres.at (p : Pres) (i : Nat) : List Int → List Int → List Int := atD p (p.n - i)
def Pres.img (p : Pres) (i : Nat) (x : List Int) : List Int := imgM p (p.at (i + 1)) i x
theorem at_top (p : Pres) (i : Nat) (h : p.n ≤ i) (a b : List Int) : p.at i a b = p.zv := by
  unfold Pres.at; rw [show p.n - i = 0 by omega]; rfl
def Pres.mid (p : Pres) (i : Nat) (a b : List Int) : List Int := p.at (i + 1) (itf (p.img i) (b.getD i 0).toNat (a.set i 0)) (b.set i 0)
theorem at_step (p : Pres) (i : Nat) (h : i < p.n) (a b : List Int) :
    p.at i a b = if p.r i ≤ a.getD i 0 + b.getD i 0 then (p.at (i + 1) (p.P i) (p.mid i a b)).set i (a.getD i 0 + b.getD i 0 - p.r i) else (p.mid i a b).set i (a.getD i 0 + b.getD i 0) := by
  have h1 : p.n - i = (p.n - (i + 1)) + 1 := by omega
  have h2 : p.n - (p.n - (i + 1) + 1) = i := by omega
  unfold Pres.mid Pres.img Pres.at
  rw [h1]
  simp only [atD, h2]
theorem at_lo {p : Pres} {i : Nat} (h : i < p.n) {a b : List Int} (hc : ¬ p.r i ≤ a.getD i 0 + b.getD i 0) : p.at i a b = (p.mid i a b).set i (a.getD i 0 + b.getD i 0) := by rw [at_step p i h, if_neg hc]
theorem at_hi {p : Pres} {i : Nat} (h : i < p.n) {a b : List Int} (hc : p.r i ≤ a.getD i 0 + b.getD i 0) : p.at i a b = (p.at (i + 1) (p.P i) (p.mid i a b)).set i (a.getD i 0 + b.getD i 0 - p.r i) := by rw [at_step p i h, if_pos hc]

theorem down {P : Nat → Prop} (n : Nat) (h0 : P n) (hs : ∀ i, i < n → P (i + 1) → P i) : ∀ i, i ≤ n → P i := by
  intro i hi
  obtain ⟨d, rfl⟩ : ∃ d, n = i + d := ⟨n - i, by omega⟩
  clear hi
  induction d generalizing i with
  | zero => exact h0
  | succ d ih =>
    refine hs i (by omega) (ih (i + 1) ?_ ?_)
    · rw [show i + 1 + d = i + (d + 1) by omega]; exact h0
    · rw [show i + 1 + d = i + (d + 1) by omega]; exact hs
theorem fold_VI {t : Nat} {m : List Int → List Int → List Int} (hm : ∀ a b, VI p t a → VI p t b → VI p t (m a b)) {β : Type} {f : β → List Int} {l : List β} (hf : ∀ j ∈ l, VI p t (f j)) : ∀ a, VI p t a → VI p t (l.foldl (fun u j => m u (f j)) a) := by
  induction l with
  | nil => intro a ha; exact ha
  | cons j l ih => intro a ha; exact ih (fun k hk => hf k (List.mem_cons_of_mem _ hk)) _ (hm _ _ ha (hf j List.mem_cons_self))
theorem itf_VI {t : Nat} {f : List Int → List Int} (hf : ∀ a, VI p t a → VI p t (f a)) (k : Nat) {a : List Int} (ha : VI p t a) : VI p t (itf f k a) := by
  induction k with
  | zero => exact ha
  | succ k ih => exact hf _ ih
theorem img_of {i : Nat} (hp : Valid p) (hi : i < p.n) (hm : ∀ a b, VI p (i + 1) a → VI p (i + 1) b → VI p (i + 1) (p.at (i + 1) a b)) {x : List Int} (hx : VI p (i + 1) x) : VI p (i + 1) (p.img i x) :=
  fold_VI hm (fun j hj => by have := hx.mem hj; exact hp.cj i j (by omega) this.2) _ (VI.zv hp _)
theorem VI.sum_lt {i : Nat} {a b : List Int} (ha : VI p i a) (hb : VI p i b) (hi : i < p.n) : a.getD i 0 + b.getD i 0 - p.r i < p.r i := by
  have := ha.hi i hi; have := hb.hi i hi; omega
theorem VI.at (hp : Valid p) : ∀ i, i ≤ p.n → ∀ a b, VI p i a → VI p i b → VI p i (p.at i a b) := by
  refine down p.n ?_ ?_
  · intro a b _ _; rw [at_top p _ (Nat.le_refl _)]; exact VI.zv hp _
  · intro i hi ih a b ha hb
    have h1 : VI p (i + 1) (p.mid i a b) := ih _ _ (itf_VI (fun x hx => img_of hp hi ih hx) _ (ha.clear hp)) (hb.clear hp)
    have := ha.lo i hi; have := hb.lo i hi; have := ha.sum_lt hb hi
    by_cases hc : p.r i ≤ a.getD i 0 + b.getD i 0
    · rw [at_hi hi hc]; exact (ih _ _ (hp.pow i hi) h1).set (by omega) (by omega)
    · rw [at_lo hi hc]; exact h1.set (by omega) (by omega)
theorem VI.img (hp : Valid p) {i : Nat} (hi : i < p.n) {x : List Int} (hx : VI p (i + 1) x) : VI p (i + 1) (p.img i x) := img_of hp hi (VI.at hp _ hi) hx
theorem VI.iimg (hp : Valid p) {i : Nat} (hi : i < p.n) {x : List Int} (hx : VI p (i + 1) x) (k : Nat) : VI p (i + 1) (itf (p.img i) k x) := itf_VI (fun _ h => h.img hp hi) k hx
theorem VI.mid (hp : Valid p) {i : Nat} (hi : i < p.n) {a b : List Int} (ha : VI p i a) (hb : VI p i b) : VI p (i + 1) (p.mid i a b) := VI.at hp _ hi _ _ ((ha.clear hp).iimg hp hi _) (hb.clear hp)

/-! ### maps out of a tail -/
section
variable {α : Type} {S : α → Prop} {m : α → α → α} {e : α}
/-- the product of f over the letters -/
def Fm (m : α → α → α) (e : α) (f : Nat → α) (x : List Int) : α := pr m e f (lw x)
theorem Fm_zv (f : Nat → α) : Fm m e f p.zv = e := by unfold Fm; rw [lw_zv]; rfl
theorem Fm_closed (h : Grp S m e) {f : Nat → α} {s : Nat} (hf : ∀ j, s ≤ j → j < p.n → S (f j)) {x : List Int} (hx : VI p s x) : S (Fm m e f x) :=
  pr_closed h fun j hj => hf j (hx.mem hj).1 (hx.mem hj).2
theorem Fm_split (h : Grp S m e) {f : Nat → α} {s : Nat} (hp : Valid p) (hf : ∀ j, s ≤ j → j < p.n → S (f j)) {t : Nat} (hst : s ≤ t) (ht : t < p.n) {x : List Int} (hx : VI p t x) :
    Fm m e f x = m (pw m e (f t) (x.getD t 0).toNat) (Fm m e f (x.set t 0)) := by
  have hx' := hx.clear hp
  unfold Fm
  rw [lw_split hx ht, pr_append h, pr_replicate]
  · intro j hj; obtain ⟨_, rfl⟩ := List.mem_replicate.1 hj; exact hf _ hst ht
  · intro j hj; have := hx'.mem hj; exact hf _ (by omega) this.2
theorem Fm_set (h : Grp S m e) {f : Nat → α} {s : Nat} (hp : Valid p) (hf : ∀ j, s ≤ j → j < p.n → S (f j)) {t : Nat} (hst : s ≤ t) (ht : t < p.n) {x : List Int} (hx : VI p (t + 1) x) {c : Int} (h0 : 0 ≤ c) (h1 : c < p.r t) :
    Fm m e f (x.set t c) = m (pw m e (f t) c.toNat) (Fm m e f x) := by
  rw [Fm_split h hp hf hst ht (hx.set h0 h1), List.set_set, hx.same, vset_self (by rw [hx.len]; exact ht)]

theorem vonDyck (h : Grp S m e) (hp : Valid p) {f : Nat → α} {s : Nat} (hf : ∀ j, s ≤ j → j < p.n → S (f j))
    (hpow : ∀ j, s ≤ j → j < p.n → pw m e (f j) (p.r j).toNat = Fm m e f (p.P j))
    (hconj : ∀ j k, s ≤ j → j < k → k < p.n → m (f k) (f j) = m (f j) (Fm m e f (p.C j k))) :
    ∀ t, t ≤ p.n → s ≤ t → ∀ x y, VI p t x → VI p t y → Fm m e f (p.at t x y) = m (Fm m e f x) (Fm m e f y) := by
  have cl : ∀ {t x}, s ≤ t → VI p t x → S (Fm m e f x) := fun hst hx => Fm_closed h hf (hx.mono hst)
  refine down p.n ?_ ?_
  · intro _ x y hx hy
    rw [hx.top, hy.top, at_top p _ (Nat.le_refl _), Fm_zv, h.onel h.one]
  · intro t ht ih hst x y hx hy
    have ih := ih (by omega)
    have hft : S (f t) := hf t hst ht
    -- conjugates
    have hcj : ∀ z, VI p (t + 1) z → m (Fm m e f z) (f t) = m (f t) (Fm m e f (p.img t z)) := by
      intro z hz
      have hone : ∀ j ∈ lw z, VI p (t + 1) (p.C t j) := fun j hj => by have := hz.mem hj; exact hp.cj t j (by omega) this.2
      have hF : Fm m e f (p.img t z) = pr m e (fun j => Fm m e f (p.C t j)) (lw z) := by
        have : ∀ l : List Nat, (∀ j ∈ l, VI p (t + 1) (p.C t j)) → ∀ a, VI p (t + 1) a → Fm m e f (l.foldl (fun u j => p.at (t + 1) u (p.C t j)) a) = l.foldl (fun u j => m u (Fm m e f (p.C t j))) (Fm m e f a) := by
          intro l
          induction l with
          | nil => intro _ a _; rfl
          | cons j l ihl =>
            intro hl a ha
            simp only [List.foldl_cons]
            rw [ihl (fun k hk => hl k (List.mem_cons_of_mem _ hk)) _ (VI.at hp _ ht _ _ ha (hl j List.mem_cons_self)), ih _ _ ha (hl j List.mem_cons_self)]
        unfold Pres.img imgM pr
        rw [this _ hone _ (VI.zv hp _), Fm_zv]
      rw [hF]
      have hin : ∀ j ∈ lw z, t < j ∧ j < p.n := fun j hj => by have := hz.mem hj; omega
      have : ∀ l : List Nat, (∀ j ∈ l, t < j ∧ j < p.n) → m (pr m e f l) (f t) = m (f t) (pr m e (fun j => Fm m e f (p.C t j)) l) := by
        intro l
        induction l with
        | nil => intro _; rw [pr_nil, pr_nil, h.onel hft, h.oner hft]
        | cons j l ihl =>
          intro hl
          have hj := hl j List.mem_cons_self
          have hl' : ∀ k ∈ l, t < k ∧ k < p.n := fun k hk => hl k (List.mem_cons_of_mem _ hk)
          have s1 : S (f j) := hf j (by omega) hj.2
          have s2 : ∀ k ∈ l, S (f k) := fun k hk => hf k (by have := hl' k hk; omega) (hl' k hk).2
          have s3 : S (Fm m e f (p.C t j)) := cl (t := t + 1) (by omega) (hp.cj t j hj.1 hj.2)
          have s4 : ∀ k ∈ l, S (Fm m e f (p.C t k)) := fun k hk => cl (t := t + 1) (by omega) (hp.cj t k (hl' k hk).1 (hl' k hk).2)
          rw [pr_cons h s1 s2, pr_cons (f := fun j => Fm m e f (p.C t j)) h s3 s4, h.assoc s1 (pr_closed h s2) hft, ihl hl', ← h.assoc s1 hft (pr_closed h s4), hconj t j hst hj.1 hj.2, h.assoc hft s3 (pr_closed (f := fun j => Fm m e f (p.C t j)) h s4)]
      exact this _ hin
    have hit : ∀ k z, VI p (t + 1) z → m (Fm m e f z) (pw m e (f t) k) = m (pw m e (f t) k) (Fm m e f (itf (p.img t) k z)) := by
      intro k
      induction k with
      | zero => intro z hz; show m _ e = m e (Fm m e f z); rw [h.oner (cl (t := t + 1) (by omega) hz), h.onel (cl (t := t + 1) (by omega) hz)]
      | succ k ihk =>
        intro z hz
        have a1 := cl (t := t + 1) (by omega) hz
        have a2 := pw_closed h hft k
        have a3 := cl (t := t + 1) (by omega) (hz.iimg hp ht k)
        have a4 := cl (t := t + 1) (by omega) (hz.iimg hp ht (k + 1))
        show m _ (m (pw m e (f t) k) (f t)) = m (m (pw m e (f t) k) (f t)) _
        rw [← h.assoc a1 a2 hft, ihk z hz, h.assoc a2 a3 hft, hcj _ (hz.iimg hp ht k)]; exact (h.assoc a2 hft a4).symm
    have hx' := hx.clear hp
    have hy' := hy.clear hp
    have x0 := hx.lo t ht; have y0 := hy.lo t ht; have hlt := hx.sum_lt hy ht
    have hmid := VI.mid hp ht hx hy
    have hF : Fm m e f (p.mid t x y) = m (Fm m e f (itf (p.img t) (y.getD t 0).toNat (x.set t 0))) (Fm m e f (y.set t 0)) := ih _ _ (hx'.iimg hp ht _) hy'
    have sx := cl (t := t + 1) (by omega) hx'
    have sy := cl (t := t + 1) (by omega) hy'
    have si := cl (t := t + 1) (by omega) (hx'.iimg hp ht (y.getD t 0).toNat)
    have pa := pw_closed h hft (x.getD t 0).toNat
    have pb := pw_closed h hft (y.getD t 0).toNat
    have hR : m (Fm m e f x) (Fm m e f y) = m (pw m e (f t) (x.getD t 0 + y.getD t 0).toNat) (Fm m e f (p.mid t x y)) := by
      rw [Fm_split h hp hf hst ht hx, Fm_split h hp hf hst ht hy, hF, h.assoc pa sx (h.cl pb sy), ← h.assoc sx pb sy, hit _ _ hx', h.assoc pb si sy, ← h.assoc pa pb (h.cl si sy), ← pw_add h hft]
      congr 2; omega
    rw [hR]
    by_cases hc : p.r t ≤ x.getD t 0 + y.getD t 0
    · have hP := hp.pow t ht
      rw [at_hi ht hc, Fm_set h hp hf hst ht (VI.at hp _ ht _ _ hP hmid) (by omega) (by omega), ih _ _ hP hmid, ← hpow t hst ht, ← h.assoc (pw_closed h hft _) (pw_closed h hft _) (cl (t := t + 1) (by omega) hmid), ← pw_add h hft]
      congr 2; have := hp.ord t ht; omega
    · rw [at_lo ht hc, Fm_set h hp hf hst ht hmid (by omega) (by omega)]
end
end
end Go.Proofs.Ytiikoappknejgaa
namespace Go.Proofs.Ytiikoappknejgaa
set_option linter.unusedVariables false
set_option linter.unusedSimpArgs false
set_option maxRecDepth 100000
open Go.RowKit

/-- three values read as a presentation -/
def RdP (w : World) (v1 v2 v3 : Value) (p : Pres) : Prop := Rd w v1 p.orders ∧ Rd2 w v2 p.powers ∧ Rd3 w v3 p.conj
theorem RdP.below {w w' : World} {v1 v2 v3 : Value} {p : Pres} (h : RdP w v1 v2 v3 p) (hb : Below w.heap.size w w') : RdP w' v1 v2 v3 p := ⟨h.1.below hb, h.2.1.below hb, h.2.2.below hb⟩
/-- a presentation that a call owns -/
def OP (w : World) (S : Nat → Prop) (v1 v2 v3 : Value) (p : Pres) : Prop :=
  ∃ (A B C : Nat → Prop), O1 w A v1 p.orders ∧ O2 w B v2 p.powers ∧ O3 w C v3 p.conj ∧ (∀ k, A k → S k) ∧ (∀ k, B k → S k) ∧ (∀ k, C k → S k) ∧ (∀ k, A k → ¬ B k) ∧ (∀ k, A k → ¬ C k) ∧ ∀ k, B k → ¬ C k
theorem OP.rd {w : World} {S : Nat → Prop} {v1 v2 v3 : Value} {p : Pres} (h : OP w S v1 v2 v3 p) : RdP w v1 v2 v3 p := by
  obtain ⟨A, B, C, h1, h2, h3, _⟩ := h
  exact ⟨h1.rd, h2.rd, h3.rd⟩
theorem OP.chg {w w' : World} {S T : Nat → Prop} {v1 v2 v3 : Value} {p : Pres} (h : OP w S v1 v2 v3 p) (hc : ChgS T w w') (hd : ∀ k, S k → ¬ T k) : OP w' S v1 v2 v3 p := by
  obtain ⟨A, B, C, h1, h2, h3, s1, s2, s3, r⟩ := h
  exact ⟨A, B, C, local_O1.chg h1 hc fun k hk => hd k (s1 k hk), local_O2.chg h2 hc fun k hk => hd k (s2 k hk), local_O3.chg h3 hc fun k hk => hd k (s3 k hk), s1, s2, s3, r⟩
theorem OP.below {w w' : World} {S : Nat → Prop} {v1 v2 v3 : Value} {p : Pres} (h : OP w S v1 v2 v3 p) (hb : Below w.heap.size w w') : OP w' S v1 v2 v3 p := by
  obtain ⟨A, B, C, h1, h2, h3, r⟩ := h
  exact ⟨A, B, C, local_O1.below h1 hb, local_O2.below h2 hb, local_O3.below h3 hb, r⟩

def pcount (p : Pres) : Nat := p.orders.length + (cat p.powers).length + tot3 p.conj
def psize (p : Pres) : Nat := p.orders.length + size2 p.powers + size3 p.conj
def MP (k : Int) (p : Pres) : Pres := ⟨marks k p.orders.length, M2 (k + p.orders.length) p.powers p.powers.length, M3 (k + p.orders.length + (cat p.powers).length) p.conj p.conj.length⟩
theorem sum_le_of {β : Type} (f g : β → Nat) (l : List β) (h : ∀ x, f x ≤ g x) : tot f l ≤ tot g l := by
  unfold tot
  induction l with
  | nil => simp
  | cons a l ih => simp only [List.map_cons, List.sum_cons]; have := h a; omega
theorem psize_le {p : Pres} {n : Nat} (h : psize p ≤ n) : p.orders.length ≤ n ∧ p.powers.length ≤ n ∧ p.conj.length ≤ n ∧ (cat p.powers).length ≤ n ∧ tot3 p.conj ≤ n ∧ tots p.conj ≤ n ∧ pcount p ≤ n := by
  have h1 : tot3 p.conj ≤ tot size2 p.conj := sum_le_of _ _ _ fun x => by unfold lenc size2; omega
  have h2 : tots p.conj ≤ tot size2 p.conj := sum_le_of _ _ _ fun x => by unfold size2; omega
  unfold psize size2 size3 at h
  unfold pcount
  omega

/-- a call that makes a presentation -/
def RetP (w : World) (p : Pres) (e : Ending) (w' : World) : Prop := ∃ v1 v2 v3, e = .returned (.agg #[v1, v2, v3]) ∧ OP w' (win w.heap.size w'.heap.size) v1 v2 v3 p ∧ Below w.heap.size w w'
theorem bcell {W w1 : World} (hb : Below W.heap.size W w1) : (∀ b o, b < W.heap.size → w1.cell? ⟨b, o, none⟩ = W.cell? ⟨b, o, none⟩) ∧ (∀ b o, b < W.heap.size → w1.frozen? ⟨b, o, none⟩ = W.frozen? ⟨b, o, none⟩) :=
  ⟨fun b o h => hb.cell (p := ⟨b, o, none⟩) h, fun b o h => hb.frozen (p := ⟨b, o, none⟩) h⟩
theorem ChgS.setCell (w : World) (b o : Nat) (v : Value) : ChgS (fun k => k = b) w (w.setCell ⟨b, o, none⟩ v) :=
  ⟨rfl, rfl, rfl, Nat.le_of_eq (by simp), fun k _ hk => heap_setCell_other w ⟨b, o, none⟩ k v hk⟩
theorem below_allocs2 (w : World) (o o' : Obj) : Below w.heap.size w ((w.alloc o).alloc o') := below_size (below_alloc w o) (below_alloc _ o')
theorem below_allocs3 (w : World) (o o' o'' : Obj) : Below w.heap.size w (((w.alloc o).alloc o').alloc o'') := below_size (below_allocs2 w o o') (below_alloc _ o'')
/-- a step behind the call's own base -/
theorem below_next {w0 w w' : World} (h : Below w0.heap.size w0 w) (h' : Below w.heap.size w w') {b o : Nat} (v : Value) (hb : w0.heap.size ≤ b) : Below w0.heap.size w0 (w'.setCell ⟨b, o, none⟩ v) := (below_size h h').setCell (p := ⟨b, o, none⟩) hb v
theorem Local.sets {α : Type} {O : World → (Nat → Prop) → Value → List α → Prop} (hO : Local O) {w : World} {S : Nat → Prop} {v : Value} {d : List α} (h : O w S v d) {b : Nat} (hb : ¬ S b) (o : Nat) (y : Value) : O (w.setCell ⟨b, o, none⟩ y) S v d :=
  hO.chg h (ChgS.setCell w b o y) fun k hk e => hb (e ▸ hk)
theorem Local.step {α : Type} {O : World → (Nat → Prop) → Value → List α → Prop} (hO : Local O) {w w' : World} {S : Nat → Prop} {v : Value} {d : List α} (h : O w S v d) {b o : Nat} {y : Value} (k : Below (w.setCell ⟨b, o, none⟩ y).heap.size (w.setCell ⟨b, o, none⟩ y) w') (hb : ¬ S b) : O w' S v d :=
  hO.below (hO.sets h hb o y) k
--== marks
theorem ChgS.at {S : Nat → Prop} {w w' : World} (h : ChgS S w w') {b : Nat} (hb : b < w.heap.size) (hS : ¬ S b) : (∀ o, w'.cell? ⟨b, o, none⟩ = w.cell? ⟨b, o, none⟩) ∧ (∀ o, w'.frozen? ⟨b, o, none⟩ = w.frozen? ⟨b, o, none⟩) :=
  ⟨fun o => World.cell?_of_block (a := ⟨b, o, none⟩) (h.block b hb hS), fun o => World.frozen?_of_block (a := ⟨b, o, none⟩) (h.block b hb hS)⟩
theorem ChgS.of_below (S : Nat → Prop) {w w' : World} (h : Below w.heap.size w w') : ChgS S w w' := ⟨h.os, h.tape, h.output, h.size, fun k hk _ => h.block k hk⟩
theorem ChgS.sub {S T : Nat → Prop} {w w' : World} (h : ChgS S w w') (hs : ∀ k, S k → T k) : ChgS T w w' := ⟨h.os, h.tape, h.output, h.size, fun k hk hn => h.block k hk fun x => hn (hs k x)⟩
theorem ChgS.then {S : Nat → Prop} {a b c : World} (h : ChgS S a b) (k : ChgS S b c) : ChgS S a c := h.trans k (fun _ x => x) (fun _ x => x)
end Go.Proofs.Ytiikoappknejgaa
namespace Go.Proofs.Ytiikoappknejgaa
set_option linter.unusedVariables false
set_option linter.unusedSimpArgs false
set_option maxRecDepth 100000

section
variable {p : Pres}
def Pres.G (p : Pres) (i : Nat) : Prop := Grp (VI p i) (p.at i) p.zv
/-- the four conditions of a level, aS the reference tests them -/
structure LevelOK (p : Pres) (i : Nat) : Prop where
  c1 : ∀ j, i < j → j < p.n → pw (p.at (i + 1)) p.zv (p.C i j) (p.r j).toNat = p.img i (p.P j)
  c2 : ∀ j k, i < j → j < k → k < p.n → p.at (i + 1) (p.C i k) (p.C i j) = p.at (i + 1) (p.C i j) (p.img i (p.C j k))
  c3 : p.img i (p.P i) = p.P i
  c4 : ∀ j, i < j → j < p.n → p.at (i + 1) (p.P i) (itf (p.img i) (p.r i).toNat (p.uv j)) = p.at (i + 1) (p.uv j) (p.P i)

theorem img_eq_Fm (p : Pres) (i : Nat) (x : List Int) : p.img i x = Fm (p.at (i + 1)) p.zv (p.C i) x := rfl
theorem img_zv (p : Pres) (i : Nat) : p.img i p.zv = p.zv := Fm_zv _
theorem zv_set (p : Pres) (i : Nat) : p.zv.set i 0 = p.zv := by
  refine vext (by simp) fun j _ => ?_
  rw [vset]; split
  · exact (vrep _ _).symm
  · rfl
theorem zv_get (p : Pres) (i : Nat) : p.zv.getD i 0 = 0 := vrep _ _
theorem itf_zv (p : Pres) (i k : Nat) : itf (p.img i) k p.zv = p.zv := by
  induction k with
  | zero => rfl
  | succ k ih => rw [itf_succ, ih, img_zv]

/-- the product of vectors with zeros up to i, at i and behind it -/
theorem at_sub (hp : Valid p) {i : Nat} (hi : i < p.n) {x y : List Int} (hx : VI p (i + 1) x) (hy : VI p (i + 1) y) : p.at i x y = p.at (i + 1) x y := by
  have hx0 := hx.zero i (by omega); have hy0 := hy.zero i (by omega)
  rw [at_lo hi (by rw [hx0, hy0]; have := hp.ord i hi; omega)]
  unfold Pres.mid
  rw [hx0, hy0, hx.same, hy.same]
  show (p.at (i + 1) x y).set i 0 = _
  exact (VI.at hp _ hi _ _ hx hy).same
theorem at_subs (hp : Valid p) {s : Nat} : ∀ t, s ≤ t → t ≤ p.n → ∀ x y, VI p t x → VI p t y → p.at s x y = p.at t x y := by
  intro t hst
  obtain ⟨d, rfl⟩ : ∃ d, t = s + d := ⟨t - s, by omega⟩
  clear hst
  induction d with
  | zero => intro _ x y _ _; rfl
  | succ d ih =>
    intro ht x y hx hy
    rw [ih (by omega) x y (hx.mono (by omega)) (hy.mono (by omega))]
    exact at_sub hp (by omega) hx hy

/-- powers of a generator -/
theorem pw_uv (hp : Valid p) {i : Nat} (hi : i < p.n) (hG : p.G (i + 1)) : ∀ k : Nat, (k : Int) < p.r i → pw (p.at i) p.zv (p.uv i) k = p.zv.set i k := by
  intro k
  induction k with
  | zero => intro _; exact (zv_set p i).symm
  | succ k ih =>
    intro hk
    have h1 : (p.zv.set i (k : Int)).getD i 0 = k := vset_self (by rw [p.zv_len]; exact hi)
    have h2 : (p.uv i).getD i 0 = 1 := vset_self (by rw [p.zv_len]; exact hi)
    have h3 : (p.uv i).set i 0 = p.zv := by unfold Pres.uv; rw [List.set_set, zv_set]
    show p.at i (pw (p.at i) p.zv (p.uv i) k) (p.uv i) = _
    rw [ih (by omega), at_lo hi (by rw [h1, h2]; omega)]
    unfold Pres.mid
    rw [h1, h2, h3, List.set_set, zv_set, itf_zv, hG.onel hG.one]
    rfl
/-- a vector is the product of its letters -/
theorem vec_pr (hp : Valid p) {s : Nat} (hG : ∀ t, s ≤ t → t ≤ p.n → p.G t) : ∀ t, t ≤ p.n → s ≤ t → ∀ x, VI p t x → Fm (p.at s) p.zv p.uv x = x := by
  have hu : ∀ j, s ≤ j → j < p.n → VI p s (p.uv j) := fun j h1 h2 => VI.uv hp h1 h2
  refine down p.n ?_ ?_
  · intro _ x hx; rw [hx.top, Fm_zv]
  · intro t ht ih hst x hx
    have hx' := hx.clear hp
    have x0 := hx.lo t ht; have x1 := hx.hi t ht
    rw [Fm_split (hG s (Nat.le_refl _) (by omega)) hp hu hst ht hx, ih (by omega) _ hx']
    have hpw : pw (p.at s) p.zv (p.uv t) (x.getD t 0).toNat = p.zv.set t (x.getD t 0) := by
      have h1 : ∀ k, pw (p.at s) p.zv (p.uv t) k = pw (p.at t) p.zv (p.uv t) k := by
        intro k
        induction k with
        | zero => rfl
        | succ k ih2 =>
          show p.at s _ _ = p.at t _ _
          rw [ih2]
          exact at_subs hp t hst (by omega) _ _ (pw_closed (hG t hst (by omega)) (VI.uv hp (Nat.le_refl _) ht) k) (VI.uv hp (Nat.le_refl _) ht)
      rw [h1, pw_uv hp ht (hG (t + 1) (by omega) ht) _ (by omega)]
      congr 1; omega
    have hzs : VI p t (p.zv.set t (x.getD t 0)) := (VI.zv hp (t + 1)).set x0 x1
    rw [hpw, at_subs hp t hst (by omega) _ _ hzs (hx'.mono (by omega))]
    have h1 : (p.zv.set t (x.getD t 0)).getD t 0 = x.getD t 0 := vset_self (by rw [p.zv_len]; exact ht)
    have h2 := hx'.zero t (by omega)
    rw [at_lo ht (by rw [h1, h2]; omega)]
    unfold Pres.mid
    rw [h1, h2, List.set_set, zv_set, hx'.same]
    show (p.at (t + 1) p.zv _).set t _ = _
    rw [(hG (t + 1) (by omega) ht).onel hx', Int.add_zero]
    exact VI.split

section
variable {i : Nat}
/-- conjugation by a generator keeps products -/
theorem img_hom (hp : Valid p) (hi : i < p.n) (hG : p.G (i + 1)) (hL : LevelOK p i) {x y : List Int} (hx : VI p (i + 1) x) (hy : VI p (i + 1) y) :
    p.img i (p.at (i + 1) x y) = p.at (i + 1) (p.img i x) (p.img i y) :=
  vonDyck hG hp (s := i + 1) (f := p.C i) (fun j h1 h2 => hp.cj i j (by omega) h2) (fun j h1 h2 => hL.c1 j (by omega) h2) (fun j k h1 h2 h3 => hL.c2 j k (by omega) h2 h3) (i + 1) hi (Nat.le_refl _) x y hx hy
theorem iimg_hom (hp : Valid p) (hi : i < p.n) (hG : p.G (i + 1)) (hL : LevelOK p i) (k : Nat) {x y : List Int} (hx : VI p (i + 1) x) (hy : VI p (i + 1) y) :
    itf (p.img i) k (p.at (i + 1) x y) = p.at (i + 1) (itf (p.img i) k x) (itf (p.img i) k y) := by
  induction k with
  | zero => rfl
  | succ k ih => rw [itf_succ, ih, img_hom hp hi hG hL (hx.iimg hp hi k) (hy.iimg hp hi k)]; rfl
theorem iimg_fix (hL : LevelOK p i) (k : Nat) : itf (p.img i) k (p.P i) = p.P i := by
  induction k with
  | zero => rfl
  | succ k ih => rw [itf_succ, ih, hL.c3]
/-- the power with the order is conjugation by the power -/
theorem iimg_inner (hp : Valid p) (hi : i < p.n) (hG : ∀ t, i + 1 ≤ t → t ≤ p.n → p.G t) (hL : LevelOK p i) {x : List Int} (hx : VI p (i + 1) x) :
    p.at (i + 1) (p.P i) (itf (p.img i) (p.r i).toNat x) = p.at (i + 1) x (p.P i) := by
  have hG1 := hG (i + 1) (Nat.le_refl _) hi
  have hw := hp.pow i hi
  have hu : ∀ j, i + 1 ≤ j → j < p.n → VI p (i + 1) (p.uv j) := fun j h1 h2 => VI.uv hp h1 h2
  have key : ∀ l : List Nat, (∀ j ∈ l, i + 1 ≤ j ∧ j < p.n) → p.at (i + 1) (p.P i) (itf (p.img i) (p.r i).toNat (pr (p.at (i + 1)) p.zv p.uv l)) = p.at (i + 1) (pr (p.at (i + 1)) p.zv p.uv l) (p.P i) := by
    intro l
    induction l with
    | nil => intro _; rw [pr_nil, itf_zv, hG1.oner hw, hG1.onel hw]
    | cons j l ih =>
      intro hl
      have hj := hl j List.mem_cons_self
      have hl' : ∀ k ∈ l, i + 1 ≤ k ∧ k < p.n := fun k hk => hl k (List.mem_cons_of_mem _ hk)
      have s1 := hu j hj.1 hj.2
      have s2 : ∀ k ∈ l, VI p (i + 1) (p.uv k) := fun k hk => hu k (hl' k hk).1 (hl' k hk).2
      have s3 := pr_closed hG1 s2
      rw [pr_cons hG1 s1 s2, iimg_hom hp hi hG1 hL _ s1 s3, ← hG1.assoc hw (s1.iimg hp hi _) (s3.iimg hp hi _), hL.c4 j (by omega) hj.2, hG1.assoc s1 hw (s3.iimg hp hi _), ih hl', hG1.assoc s1 s3 hw]
  have hv := vec_pr hp hG (i + 1) hi (Nat.le_refl _) x hx
  have := key (lw x) fun j hj => hx.mem hj
  rw [show pr (p.at (i + 1)) p.zv p.uv (lw x) = x from hv] at this
  exact this
theorem iimg_inv (hp : Valid p) (hi : i < p.n) (hG : p.G (i + 1)) (hL : LevelOK p i) (k : Nat) {x y : List Int} (hx : VI p (i + 1) x) (hy : VI p (i + 1) y) (h : p.at (i + 1) x y = p.zv) :
    p.at (i + 1) (itf (p.img i) k x) (itf (p.img i) k y) = p.zv := by rw [← iimg_hom hp hi hG hL k hx hy, h, itf_zv]

theorem vec_eq {a b : List Int} (h : a.set i 0 = b.set i 0) (h2 : a.getD i 0 = b.getD i 0) : a = b := by
  rw [← VI.split (v := a) (i := i), ← VI.split (v := b) (i := i), h, h2]
/-- the parts of a product -/
theorem at_get (hp : Valid p) (hi : i < p.n) {a b : List Int} (ha : VI p i a) (hb : VI p i b) :
    (p.at i a b).getD i 0 = (if p.r i ≤ a.getD i 0 + b.getD i 0 then a.getD i 0 + b.getD i 0 - p.r i else a.getD i 0 + b.getD i 0) ∧
    (p.at i a b).set i 0 = (if p.r i ≤ a.getD i 0 + b.getD i 0 then p.at (i + 1) (p.P i) (p.mid i a b) else p.mid i a b) := by
  have hm := VI.mid hp hi ha hb
  by_cases hc : p.r i ≤ a.getD i 0 + b.getD i 0
  · have h1 := VI.at hp _ hi _ _ (hp.pow i hi) hm
    rw [at_hi hi hc, if_pos hc, if_pos hc, List.set_set, h1.same, vset_self (by rw [h1.len]; exact hi)]
    exact ⟨rfl, rfl⟩
  · rw [at_lo hi hc, if_neg hc, if_neg hc, List.set_set, hm.same, vset_self (by rw [hm.len]; exact hi)]
    exact ⟨rfl, rfl⟩

theorem G_assoc (hp : Valid p) (hi : i < p.n) (hG : ∀ t, i + 1 ≤ t → t ≤ p.n → p.G t) (hL : LevelOK p i) {a b c : List Int} (ha : VI p i a) (hb : VI p i b) (hc : VI p i c) :
    p.at i (p.at i a b) c = p.at i a (p.at i b c) := by
  have hG1 := hG (i + 1) (Nat.le_refl _) hi
  have hw := hp.pow i hi
  have hab := VI.at hp _ (Nat.le_of_lt hi) _ _ ha hb
  have hbc := VI.at hp _ (Nat.le_of_lt hi) _ _ hb hc
  obtain ⟨g1, k1⟩ := at_get hp hi ha hb
  obtain ⟨g2, k2⟩ := at_get hp hi hb hc
  obtain ⟨g3, k3⟩ := at_get hp hi hab hc
  obtain ⟨g4, k4⟩ := at_get hp hi ha hbc
  have a0 := ha.lo i hi; have a1 := ha.hi i hi
  have b0 := hb.lo i hi; have b1 := hb.hi i hi
  have c0 := hc.lo i hi; have c1 := hc.hi i hi
  have ha' := ha.clear hp; have hb' := hb.clear hp; have hc' := hc.clear hp
  -- names
  have em1 : p.mid i a b = p.at (i + 1) (itf (p.img i) (b.getD i 0).toNat (a.set i 0)) (b.set i 0) := rfl
  have em2 : p.mid i b c = p.at (i + 1) (itf (p.img i) (c.getD i 0).toNat (b.set i 0)) (c.set i 0) := rfl
  have em3 : p.mid i (p.at i a b) c = p.at (i + 1) (itf (p.img i) (c.getD i 0).toNat ((p.at i a b).set i 0)) (c.set i 0) := rfl
  have em4 : p.mid i a (p.at i b c) = p.at (i + 1) (itf (p.img i) ((p.at i b c).getD i 0).toNat (a.set i 0)) ((p.at i b c).set i 0) := rfl
  generalize hx : a.set i 0 = x at *
  generalize hy : b.set i 0 = y at *
  generalize hz : c.set i 0 = z at *
  generalize hA : a.getD i 0 = A at *
  generalize hB : b.getD i 0 = B at *
  generalize hC : c.getD i 0 = C at *
  have I := fun k {u : List Int} (hu : VI p (i + 1) u) => hu.iimg hp hi k
  have mm := fun {u v : List Int} (hu : VI p (i + 1) u) (hv : VI p (i + 1) v) => VI.at hp _ hi _ _ hu hv
  have aS := fun {u v t : List Int} (hu : VI p (i + 1) u) (hv : VI p (i + 1) v) (ht : VI p (i + 1) t) => hG1.assoc hu hv ht
  have hom := fun k {u v : List Int} (hu : VI p (i + 1) u) (hv : VI p (i + 1) v) => iimg_hom hp hi hG1 hL k hu hv
  have fix := fun k => iimg_fix hL k
  have xB := I B.toNat ha'
  have yC := I C.toNat hb'
  have xBC := I C.toNat xB
  have eBC : itf (p.img i) C.toNat (itf (p.img i) B.toNat x) = itf (p.img i) (B + C).toNat x := by rw [← itf_add]; congr 1; omega
  have hm1 := VI.mid hp hi ha hb
  have hm2 := VI.mid hp hi hb hc
  have e1 : itf (p.img i) C.toNat (p.mid i a b) = p.at (i + 1) (itf (p.img i) (B + C).toNat x) (itf (p.img i) C.toNat y) := by rw [em1, hom _ xB hb', eBC]
  have xbc := I (B + C).toNat ha'
  -- X = φ^(B+C)(x), Y = φ^C(y)
  generalize hX : itf (p.img i) (B + C).toNat x = X at *
  generalize hY : itf (p.img i) C.toNat y = Y at *
  -- LHS' rest
  apply vec_eq (i := i)
  · rw [k3, k4, em3, em4, k1, k2, g1, g2]
    by_cases h1 : p.r i ≤ A + B
    · rw [if_pos h1, if_pos h1, hom _ hw hm1, fix, e1]
      by_cases h2 : p.r i ≤ B + C
      · -- φ^(B+C) = φ^r φ^(B+C-r)
        have hin : p.at (i + 1) (p.P i) X = p.at (i + 1) (itf (p.img i) (B + C - p.r i).toNat x) (p.P i) := by
          rw [← iimg_inner hp hi hG hL (I (B + C - p.r i).toNat ha'), ← itf_add, ← hX]
          congr 2; omega
        rw [if_pos h2, if_pos h2, em2]
        have xr := I (B + C - p.r i).toNat ha'
        have core : p.at (i + 1) (p.at (i + 1) (p.P i) (p.at (i + 1) X Y)) z = p.at (i + 1) (itf (p.img i) (B + C - p.r i).toNat x) (p.at (i + 1) (p.P i) (p.at (i + 1) Y z)) := by
          rw [← aS hw xbc yC, hin, aS (mm xr hw) yC hc', aS xr hw (mm yC hc')]
        by_cases h3 : p.r i ≤ A + B - p.r i + C
        · rw [if_pos h3, if_pos (by omega), core]
        · rw [if_neg h3, if_neg (by omega), core]
      · have hxe : X = itf (p.img i) (B + C).toNat x := hX.symm
        rw [if_neg h2, if_neg h2, em2, hX]
        rw [if_neg (by omega), if_pos (by omega), aS hw (mm xbc yC) hc', aS xbc yC hc']
    · rw [if_neg h1, if_neg h1, e1]
      by_cases h2 : p.r i ≤ B + C
      · have hin : p.at (i + 1) (p.P i) X = p.at (i + 1) (itf (p.img i) (B + C - p.r i).toNat x) (p.P i) := by
          rw [← iimg_inner hp hi hG hL (I (B + C - p.r i).toNat ha'), ← itf_add, ← hX]
          congr 2; omega
        have xr := I (B + C - p.r i).toNat ha'
        rw [if_pos h2, if_pos h2, em2, if_pos (by omega), if_neg (by omega), aS xbc yC hc', ← aS hw xbc (mm yC hc'), hin, aS xr hw (mm yC hc')]
      · rw [if_neg h2, if_neg h2, em2, hX, aS xbc yC hc']
        have : A + B + C = A + (B + C) := by omega
        rw [this]
  · rw [g3, g4, g1, g2]
    repeat' split
    all_goals omega
theorem G_one_l (hp : Valid p) (hi : i < p.n) (hG : p.G (i + 1)) {b : List Int} (hb : VI p i b) : p.at i p.zv b = b := by
  have := hb.hi i hi
  rw [at_lo hi (by rw [zv_get]; omega)]
  unfold Pres.mid
  rw [zv_set, itf_zv, hG.onel (hb.clear hp), zv_get, Int.zero_add]
  exact VI.split
theorem G_one_r (hp : Valid p) (hi : i < p.n) (hG : p.G (i + 1)) {b : List Int} (hb : VI p i b) : p.at i b p.zv = b := by
  have := hb.hi i hi
  rw [at_lo hi (by rw [zv_get]; omega)]
  unfold Pres.mid
  rw [zv_set, zv_get]
  show (p.at (i + 1) (b.set i 0) p.zv).set i _ = _
  rw [hG.oner (hb.clear hp), Int.add_zero]
  exact VI.split
theorem G_inv_r (hp : Valid p) (hi : i < p.n) (hG : p.G (i + 1)) {a : List Int} (ha : VI p i a) : ∃ b, VI p i b ∧ p.at i a b = p.zv := by
  have ha' := ha.clear hp
  have a0 := ha.lo i hi; have a1 := ha.hi i hi; have hr := hp.ord i hi
  by_cases h : a.getD i 0 = 0
  · obtain ⟨y, hy, h1, _⟩ := hG.inv ha'
    refine ⟨y, hy.mono (by omega), ?_⟩
    have hy0 := hy.zero i (by omega)
    rw [at_lo hi (by omega)]
    unfold Pres.mid
    rw [hy0, hy.same, h]
    show (p.at (i + 1) (a.set i 0) y).set i 0 = _
    rw [h1, zv_set]
  · have hw := hp.pow i hi
    have hx := ha'.iimg hp hi (p.r i - a.getD i 0).toNat
    obtain ⟨y, hy, h1, _⟩ := hG.inv (VI.at hp _ hi _ _ hw hx)
    have e1 : (y.set i (p.r i - a.getD i 0)).getD i 0 = p.r i - a.getD i 0 := vset_self (by rw [hy.len]; exact hi)
    refine ⟨y.set i (p.r i - a.getD i 0), hy.set (by omega) (by omega), ?_⟩
    rw [at_hi hi (by rw [e1]; omega)]
    unfold Pres.mid
    rw [e1, List.set_set, hy.same, ← hG.assoc hw hx hy, h1, show a.getD i 0 + (p.r i - a.getD i 0) - p.r i = 0 by omega, zv_set]
theorem G_step (hp : Valid p) (hi : i < p.n) (hG : ∀ t, i + 1 ≤ t → t ≤ p.n → p.G t) (hL : LevelOK p i) : p.G i := by
  have hG1 := hG (i + 1) (Nat.le_refl _) hi
  refine ⟨fun ha hb => VI.at hp _ (Nat.le_of_lt hi) _ _ ha hb, VI.zv hp i, fun ha hb hc => G_assoc hp hi hG hL ha hb hc, fun ha => G_one_l hp hi hG1 ha, fun ha => G_one_r hp hi hG1 ha, fun {a} ha => ?_⟩
  obtain ⟨b, hb, h1⟩ := G_inv_r hp hi hG1 ha
  obtain ⟨c, hc, h2⟩ := G_inv_r hp hi hG1 hb
  have h3 : a = c := by
    have := G_assoc hp hi hG hL ha hb hc
    rwa [h1, h2, G_one_l hp hi hG1 hc, G_one_r hp hi hG1 ha, eq_comm] at this
  exact ⟨b, hb, h1, h3 ▸ h2⟩
end
theorem G_top (hp : Valid p) : p.G p.n :=
  ⟨fun ha hb => VI.at hp _ (Nat.le_refl _) _ _ ha hb, VI.zv hp _, fun _ _ _ => by rw [at_top p _ (Nat.le_refl _), at_top p _ (Nat.le_refl _)], fun ha => by rw [at_top p _ (Nat.le_refl _)]; exact ha.top.symm,
    fun ha => by rw [at_top p _ (Nat.le_refl _)]; exact ha.top.symm, fun _ => ⟨p.zv, VI.zv hp _, at_top p _ (Nat.le_refl _) _ _, at_top p _ (Nat.le_refl _) _ _⟩⟩
/-- the tails from s on are groups -/
theorem G_all (hp : Valid p) (s : Nat) (hL : ∀ i, s ≤ i → i < p.n → LevelOK p i) : ∀ t, s ≤ t → t ≤ p.n → p.G t := by
  have : ∀ i, i ≤ p.n → s ≤ i → ∀ t, i ≤ t → t ≤ p.n → p.G t := by
    refine down p.n ?_ ?_
    · intro _ t h1 h2
      obtain rfl : t = p.n := by omega
      exact G_top hp
    · intro i hi ih hs t h1 h2
      by_cases h : t = i
      · subst h; exact G_step hp hi (ih (by omega)) (hL t hs hi)
      · exact ih (by omega) t (by omega) h2
  intro t h1 h2
  exact this t h2 h1 t (Nat.le_refl _) h2
end
end Go.Proofs.Ytiikoappknejgaa
namespace Go.Proofs.Ytiikoappknejgaa
set_option linter.unusedVariables false
set_option linter.unusedSimpArgs false
set_option maxRecDepth 100000

def primeB (n : Int) : Bool := n == 2 || (n == 3 || (n == 5 || n == 7))
theorem primeB_true {n : Int} : primeB n = true ↔ n = 2 ∨ n = 3 ∨ n = 5 ∨ n = 7 := by simp [primeB]
theorem primeB_false {n : Int} : primeB n = false ↔ ¬ n = 2 ∧ ¬ n = 3 ∧ ¬ n = 5 ∧ ¬ n = 7 := by simp [primeB]

def prodO (os : List Int) : Int := os.foldl (fun out o => out * o) 1
def prodS (os : List Int) : Int := os.foldl (fun out o => if out ≤ 729 then out * o else out) 1
theorem prodO_snoc (os : List Int) (o : Int) : prodO (os ++ [o]) = prodO os * o := by simp [prodO]
theorem prodS_snoc (os : List Int) (o : Int) : prodS (os ++ [o]) = if prodS os ≤ 729 then prodS os * o else prodS os := by unfold prodS; rw [List.foldl_append]; rfl
def primesB (os : List Int) : Bool := os.all primeB
theorem primesB_at {os : List Int} (h : primesB os = true) {o : Int} (ho : o ∈ os) : 2 ≤ o ∧ o ≤ 7 := by
  have := primeB_true.1 (List.all_eq_true.1 h o ho); omega
theorem primesB_snoc {os : List Int} {o : Int} : primesB (os ++ [o]) = (primesB os && primeB o) := by simp [primesB]
theorem snoc_ind {P : List Int → Prop} (h0 : P []) (hs : ∀ l o, P l → P (l ++ [o])) (l : List Int) : P l := by
  have : ∀ n (l : List Int), l.length = n → P l := by
    intro n
    induction n with
    | zero => intro l hl; rw [List.eq_nil_of_length_eq_zero hl]; exact h0
    | succ n ih =>
      intro l hl
      have hne : l ≠ [] := by intro h; rw [h] at hl; simp at hl
      rw [← List.dropLast_concat_getLast hne]
      exact hs _ _ (ih _ (by simp; omega))
  exact this _ l rfl
theorem prod_both (os : List Int) : primesB os = true → 1 ≤ prodO os ∧ 1 ≤ prodS os ∧ prodS os ≤ 5103 ∧ (prodS os = prodO os ∨ 729 < prodS os ∧ 729 < prodO os) := by
  refine snoc_ind (P := fun os => primesB os = true → 1 ≤ prodO os ∧ 1 ≤ prodS os ∧ prodS os ≤ 5103 ∧ (prodS os = prodO os ∨ 729 < prodS os ∧ 729 < prodO os)) ?_ ?_ os
  · intro _; simp [prodO, prodS]
  · intro l o ih h
    rw [primesB_snoc, Bool.and_eq_true] at h
    obtain ⟨a1, a2, a3, a4⟩ := ih h.1
    have ho := primeB_true.1 h.2
    rw [prodO_snoc, prodS_snoc]
    generalize prodO l = x at *
    generalize prodS l = y at *
    split
    · rcases ho with rfl | rfl | rfl | rfl <;> omega
    · rcases ho with rfl | rfl | rfl | rfl <;> omega
theorem prodO_take {os : List Int} (h : primesB os = true) (k : Nat) : prodO (os.take k) ≤ prodO os := by
  have : ∀ l : List Int, primesB l = true → ∀ a : Int, 1 ≤ a → a ≤ l.foldl (fun out o => out * o) a := by
    intro l
    induction l with
    | nil => intro _ a _; exact Int.le_refl _
    | cons o l ih =>
      intro hl a ha
      have ho := primesB_at hl (o := o) List.mem_cons_self
      have hl' : primesB l = true := by simp only [primesB, List.all_cons, Bool.and_eq_true] at hl ⊢; exact hl.2
      have h1 : a * 1 ≤ a * o := Int.mul_le_mul_of_nonneg_left (by omega) (by omega)
      have := ih hl' (a * o) (by omega)
      simp only [List.foldl_cons]
      omega
  have hd : os = os.take k ++ os.drop k := (List.take_append_drop k os).symm
  have hp : primesB (os.take k) = true ∧ primesB (os.drop k) = true := by
    have h' := h
    rw [hd, primesB, List.all_append, Bool.and_eq_true] at h'
    exact h'
  have e : prodO os = (os.drop k).foldl (fun out o => out * o) (prodO (os.take k)) := by
    conv => lhs; rw [hd]
    unfold prodO
    rw [List.foldl_append]
  rw [e]
  exact this _ hp.2 _ (prod_both _ hp.1).1
def ordB (os : List Int) : Bool := primesB os && decide (prodS os ≤ 729)
theorem ordB_true {os : List Int} (h : ordB os = true) : primesB os = true ∧ prodS os = prodO os ∧ 1 ≤ prodO os ∧ prodO os ≤ 729 := by
  simp only [ordB, Bool.and_eq_true, decide_eq_true_eq] at h
  obtain ⟨a1, a2, a3, a4⟩ := prod_both os h.1
  exact ⟨h.1, by omega, a1, by omega⟩
theorem ordB_of {os : List Int} (h : primesB os = true) (h2 : prodO os ≤ 729) : ordB os = true := by
  obtain ⟨a1, a2, a3, a4⟩ := prod_both os h
  simp only [ordB, Bool.and_eq_true, decide_eq_true_eq]
  exact ⟨h, by omega⟩
theorem ordB_no1 {os : List Int} {k : Nat} (hk : k < os.length) (h : primeB (os.getD k 0) = false) : primesB os = false := by
  rw [primesB, List.all_eq_false]; exact ⟨os.getD k 0, getD_mem hk, by rw [h]; exact Bool.false_ne_true⟩
theorem ordB_no2 {os : List Int} (h : primesB os = false) : ordB os = false := by simp [ordB, h]
theorem ordB_no3 {os : List Int} {k : Nat} (h : 729 < prodO (os.take k)) : ordB os = false := by
  by_cases hp : primesB os = true
  · have := prodO_take hp k
    obtain ⟨a1, a2, a3, a4⟩ := prod_both os hp
    simp only [ordB, Bool.and_eq_false_iff, decide_eq_false_iff_not]
    exact .inr (by omega)
  · exact ordB_no2 (by simpa using hp)
theorem ordB_no4 {os : List Int} (h : 729 < prodS os) : ordB os = false := by
  simp only [ordB, Bool.and_eq_false_iff, decide_eq_false_iff_not]
  exact .inr (by omega)

/-! ### exponent vectors -/
def expAt (os v : List Int) (z i : Nat) : Bool := inB (v.getD i 0) 0 (os.getD i 0 - 1) && (decide (z ≤ i) || v.getD i 0 == 0)
def tailB (os v : List Int) (z : Nat) : Bool := decide (v.length = os.length) && (List.range v.length).all (expAt os v z)
theorem tailB_no {os v : List Int} {z : Nat} (h : ¬ v.length = os.length) : tailB os v z = false := by simp [tailB, h]
theorem tailB_no2 {os v : List Int} {z i : Nat} (hi : i < v.length) (h : expAt os v z i = false) : tailB os v z = false := by
  rw [tailB, Bool.and_eq_false_iff]
  exact .inr (List.all_eq_false.2 ⟨i, List.mem_range.2 hi, by simp [h]⟩)
theorem tailB_of {os v : List Int} {z : Nat} (hl : v.length = os.length) (h : ∀ i, i < v.length → expAt os v z i = true) : tailB os v z = true := by
  rw [tailB, Bool.and_eq_true]
  exact ⟨by simpa using hl, List.all_eq_true.2 fun i hi => h i (List.mem_range.1 hi)⟩
theorem expAt_true {os v : List Int} {z i : Nat} : expAt os v z i = true ↔ (0 ≤ v.getD i 0 ∧ v.getD i 0 ≤ os.getD i 0 - 1) ∧ (z ≤ i ∨ v.getD i 0 = 0) := by
  simp [expAt, inB_true]
theorem tailB_true {os v : List Int} {z : Nat} (h : tailB os v z = true) : v.length = os.length ∧ ∀ i, i < os.length → (0 ≤ v.getD i 0 ∧ v.getD i 0 < os.getD i 0) ∧ (i < z → v.getD i 0 = 0) := by
  rw [tailB, Bool.and_eq_true] at h
  have hl : v.length = os.length := by simpa using h.1
  refine ⟨hl, fun i hi => ?_⟩
  have := expAt_true.1 (List.all_eq_true.1 h.2 i (List.mem_range.2 (by omega)))
  omega
def zeroB (v : List Int) : Bool := v.all (· == 0)
theorem zeroB_true {v : List Int} : zeroB v = true ↔ ∀ i, i < v.length → v.getD i 0 = 0 := by
  constructor
  · intro h i hi; have := List.all_eq_true.1 h _ (getD_mem hi); simpa using this
  · intro h; refine List.all_eq_true.2 fun x hx => ?_
    obtain ⟨k, hk, rfl⟩ := mem_getD hx
    simpa using h k hk
theorem zeroB_false {v : List Int} {i : Nat} (hi : i < v.length) (h : v.getD i 0 ≠ 0) : zeroB v = false := by
  rw [zeroB, List.all_eq_false]; exact ⟨v.getD i 0, getD_mem hi, by simpa using h⟩
theorem take_getD (v : List Int) (z i : Nat) (h : i < z) : (v.take z).getD i 0 = v.getD i 0 := by
  simp [List.getD_eq_getElem?_getD, List.getElem?_take, h]
theorem tailB_split {os v : List Int} {z : Nat} : tailB os v z = (tailB os v 0 && zeroB (v.take z)) := by
  rw [Bool.eq_iff_iff, Bool.and_eq_true]
  constructor
  · intro h
    obtain ⟨hl, h1⟩ := tailB_true h
    refine ⟨tailB_of hl fun i hi => expAt_true.2 ⟨by have := h1 i (by omega); omega, .inl (Nat.zero_le _)⟩, zeroB_true.2 fun i hi => ?_⟩
    rw [List.length_take] at hi
    rw [take_getD _ _ _ (by omega)]
    exact (h1 i (by omega)).2 (by omega)
  · rintro ⟨h, h2⟩
    obtain ⟨hl, h1⟩ := tailB_true h
    refine tailB_of hl fun i hi => expAt_true.2 ⟨by have := h1 i (by omega); omega, ?_⟩
    by_cases hz : z ≤ i
    · exact .inl hz
    · have := zeroB_true.1 h2 i (by rw [List.length_take]; omega)
      rw [take_getD _ _ _ (by omega)] at this
      exact .inr this
theorem tailB_VI {p : Pres} {v : List Int} {z : Nat} (hz : z ≤ p.n) : tailB p.orders v z = true ↔ VI p z v := by
  constructor
  · intro h
    obtain ⟨hl, h1⟩ := tailB_true h
    exact ⟨hl, fun k hk => (h1 k hk).1.1, fun k hk => (h1 k hk).1.2, fun k hk => (h1 k (by unfold Pres.n at hz; omega)).2 hk⟩
  · intro h
    refine tailB_of h.len fun i hi => expAt_true.2 ?_
    rw [h.len] at hi
    have a := h.lo i hi
    have b := h.hi i hi
    unfold Pres.r at b
    refine ⟨by omega, ?_⟩
    by_cases hz : z ≤ i
    · exact .inl hz
    · exact .inr (h.zero i (by omega))

/-! ### valid presentations -/
def rowB (p : Pres) (i : Nat) : Bool := tailB p.orders (p.P i) (i + 1) && (decide ((p.conj.getD i []).length + 1 + i = p.n) && (p.conj.getD i []).all fun v => tailB p.orders v (i + 1))
def validB (p : Pres) : Bool := (decide (p.n ≤ 6) && (decide (p.powers.length = p.n) && decide (p.conj.length = p.n))) && (ordB p.orders && (List.range p.n).all (rowB p))
structure ValidP (p : Pres) : Prop where
  n6 : p.n ≤ 6
  pl : p.powers.length = p.n
  cl : p.conj.length = p.n
  ord : ordB p.orders = true
  row : ∀ i, i < p.n → rowB p i = true
theorem validB_true {p : Pres} : validB p = true ↔ ValidP p := by
  constructor
  · intro h
    simp only [validB, Bool.and_eq_true, decide_eq_true_eq] at h
    exact ⟨h.1.1, h.1.2.1, h.1.2.2, h.2.1, fun i hi => List.all_eq_true.1 h.2.2 i (List.mem_range.2 hi)⟩
  · intro h
    simp only [validB, Bool.and_eq_true, decide_eq_true_eq]
    exact ⟨⟨h.n6, h.pl, h.cl⟩, h.ord, List.all_eq_true.2 fun i hi => h.row i (List.mem_range.1 hi)⟩
theorem validB_size {p : Pres} (h : ¬ (p.n ≤ 6 ∧ p.powers.length = p.n ∧ p.conj.length = p.n)) : validB p = false := by
  cases h' : validB p
  · rfl
  · have := validB_true.1 h'; exact absurd ⟨this.n6, this.pl, this.cl⟩ h
theorem validB_ord {p : Pres} (h : ordB p.orders = false) : validB p = false := by
  cases h' : validB p
  · rfl
  · have := (validB_true.1 h').ord; rw [h] at this; cases this
theorem validB_row {p : Pres} {i : Nat} (hi : i < p.n) (h : rowB p i = false) : validB p = false := by
  cases h' : validB p
  · rfl
  · have := (validB_true.1 h').row i hi; rw [h] at this; cases this
theorem rowB_pow {p : Pres} {i : Nat} (h : tailB p.orders (p.P i) (i + 1) = false) : rowB p i = false := by simp [rowB, h]
theorem rowB_len {p : Pres} {i : Nat} (h : ¬ (p.conj.getD i []).length + 1 + i = p.n) : rowB p i = false := by rw [rowB, decide_eq_false h, Bool.false_and, Bool.and_false]
theorem getL_mem {β : Type} {l : List (List β)} {j : Nat} (hj : j < l.length) : l.getD j [] ∈ l := by
  have : l.getD j [] = l[j] := by simp [List.getD, hj]
  rw [this]; exact List.getElem_mem hj
theorem rowB_conj {p : Pres} {i j : Nat} (hj : j < (p.conj.getD i []).length) (h : tailB p.orders ((p.conj.getD i []).getD j []) (i + 1) = false) : rowB p i = false := by
  have : ((p.conj.getD i []).all fun v => tailB p.orders v (i + 1)) = false := List.all_eq_false.2 ⟨_, getL_mem hj, by rw [h]; exact Bool.false_ne_true⟩
  rw [rowB, this, Bool.and_false, Bool.and_false]
theorem rowB_of {p : Pres} {i : Nat} (h1 : tailB p.orders (p.P i) (i + 1) = true) (h2 : (p.conj.getD i []).length + 1 + i = p.n) (h3 : ∀ j, j < (p.conj.getD i []).length → tailB p.orders ((p.conj.getD i []).getD j []) (i + 1) = true) : rowB p i = true := by
  simp only [rowB, Bool.and_eq_true, decide_eq_true_eq]
  refine ⟨h1, h2, List.all_eq_true.2 fun v hv => ?_⟩
  obtain ⟨k, hk, rfl⟩ := List.mem_iff_getElem.1 hv
  have := h3 k hk
  rwa [List.getD_eq_getElem?_getD, List.getElem?_eq_getElem hk] at this
theorem rowB_true {p : Pres} {i : Nat} (h : rowB p i = true) : tailB p.orders (p.P i) (i + 1) = true ∧ (p.conj.getD i []).length + 1 + i = p.n ∧ ∀ j, j < (p.conj.getD i []).length → tailB p.orders ((p.conj.getD i []).getD j []) (i + 1) = true := by
  simp only [rowB, Bool.and_eq_true, decide_eq_true_eq] at h
  refine ⟨h.1, h.2.1, fun j hj => List.all_eq_true.1 h.2.2 _ (getL_mem hj)⟩
theorem ValidP.rk {p : Pres} (h : ValidP p) (k : Nat) (hk : k < p.n) : 2 ≤ p.r k ∧ p.r k ≤ 7 := primesB_at (ordB_true h.ord).1 (getD_mem hk)
theorem ValidP.valid {p : Pres} (h : ValidP p) : Valid p := by
  refine ⟨fun k hk => (h.rk k hk).1, fun i hi => (tailB_VI hi).1 (rowB_true (h.row i hi)).1, fun i j hij hj => ?_⟩
  obtain ⟨_, h2, h3⟩ := rowB_true (h.row i (by omega))
  exact (tailB_VI (by omega)).1 (h3 (j - i - 1) (by omega))
theorem ValidP.clen {p : Pres} (h : ValidP p) (i : Nat) (hi : i < p.n) : (p.conj.getD i []).length + 1 + i = p.n := (rowB_true (h.row i hi)).2.1
end Go.Proofs.Ytiikoappknejgaa
namespace Go.Proofs.Ytiikoappknejgaa
set_option linter.unusedVariables false
set_option linter.unusedSimpArgs false
set_option maxRecDepth 100000
open Go.RowKit

--== impl.IsGroupPrime
theorem i_IsGroupPrime (n : Int) (w : World) : Calls Try.prog 38 #[.int .i64 n] w fun e w' => e = .returned (.bool (primeB n)) ∧ w = w' := by
  by_cases h : n = 2 ∨ n = 3 ∨ n = 5 ∨ n = 7
  · rcases h with rfl | rfl | rfl | rfl <;>
    · go_enter Try.func38, Try.ntmps38
      go_wp2
      go_ret
      exact ⟨rfl, rfl⟩
  · have h2 : (n == 2) = false := by simp; omega
    have h3 : (n == 3) = false := by simp; omega
    have h5 : (n == 5) = false := by simp; omega
    have h7 : (n == 7) = false := by simp; omega
    go_enter Try.func38, Try.ntmps38
    go_wp2
    go_ret
    exact ⟨ret_bool (by simp [primeB, h2, h3, h5, h7]), rfl⟩
--== spec.l01Prime
theorem s_l01Prime (n : Int) (w : World) : Calls Try.prog 43 #[.int .i64 n] w fun e w' => e = .returned (.bool (primeB n)) ∧ w = w' := by
  by_cases h : n = 2 ∨ n = 3 ∨ n = 5 ∨ n = 7
  · rcases h with rfl | rfl | rfl | rfl <;>
    · go_enter Try.func43, Try.ntmps43
      go_wp2
      go_ret
      exact ⟨rfl, rfl⟩
  · have h2 : (n == 2) = false := by simp; omega
    have h3 : (n == 3) = false := by simp; omega
    have h5 : (n == 5) = false := by simp; omega
    have h7 : (n == 7) = false := by simp; omega
    go_enter Try.func43, Try.ntmps43
    go_wp2
    go_ret
    exact ⟨ret_bool (by simp [primeB, h2, h3, h5, h7]), rfl⟩
--== impl.isZero
set_option maxHeartbeats 400000 in
theorem i_isZero (v : Value) (xs : List Int) (w : World) (hv : Rd w v xs) :
    Calls Try.prog 60 #[v] w fun e w' => e = .returned (.bool (zeroB xs)) ∧ w = w' := by
  obtain ⟨ao, cap, rfl, hc1, hc2, _, hA⟩ := hv
  go_enter Try.func60, Try.ntmps60
  go_wp2
  go_loop [7] (fun i => ∃ j : Nat, j ≤ xs.length ∧ i = .int .i64 j ∧ ∀ t, t < j → xs.getD t 0 = 0) (fun i => xs.length - (intOf i).toNat)
  case atStart => exact ⟨0, Nat.zero_le _, rfl, fun t ht => by omega⟩
  case round =>
    obtain ⟨j, hj, rfl, hall⟩ := hrel
    have HA := Lib.hid hall
    clear hall
    by_cases hlt : j < xs.length
    · rcases hA with hA | ⟨b, off, rfl, hA⟩
      · omega
      have hcell := hA j hlt
      clear hA
      generalize hx : xs.getD j 0 = x at hcell
      have HX := Lib.hid hx
      clear hx
      by_cases h0 : x = 0
      · subst h0
        go_wp2
        go_round
        case rel => exact ⟨j + 1, by omega, by go_num, fun t ht => by
          by_cases h : t = j
          · subst h; exact HX.out
          · exact HA.out t (by omega)⟩
        case measure => simp [intOf]; omega
      · have h1 : (x == 0) = false := by simpa using h0
        have HN := Lib.hid h0
        clear h0
        go_wp2
        go_ret
        exact ⟨ret_bool (zeroB_false hlt (by rw [HX.out]; exact HN.out)).symm, rfl⟩
    · obtain rfl : j = xs.length := by omega
      go_wp2
      go_ret
      exact ⟨ret_bool (zeroB_true.2 HA.out).symm, rfl⟩
--== pointers to presentations
/-- v points to a presentation's three cells -/
def PtrP (w : World) (v : Value) (p : Pres) : Prop := ∃ b v1 v2 v3, v = .pointer (some ⟨b, 0, none⟩) ∧ w.cell? ⟨b, 0, none⟩ = some v1 ∧ w.cell? ⟨b, 1, none⟩ = some v2 ∧ w.cell? ⟨b, 2, none⟩ = some v3 ∧ RdP w v1 v2 v3 p
theorem PtrP.of_cells {w w' : World} {v : Value} {p : Pres} (h : PtrP w v p) (hc : ∀ a u, w.cell? a = some u → w'.cell? a = some u) : PtrP w' v p := by
  obtain ⟨b, v1, v2, v3, rfl, h1, h2, h3, h4⟩ := h
  exact ⟨b, v1, v2, v3, rfl, hc _ _ h1, hc _ _ h2, hc _ _ h3, h4.1.of_cells hc, h4.2.1.of_cells hc, h4.2.2.of_cells hc⟩
theorem PtrP.below {w w' : World} {v : Value} {p : Pres} (h : PtrP w v p) (hb : Below w.heap.size w w') : PtrP w' v p := h.of_cells (below_cells hb)
--== impl.isExponents
set_option maxHeartbeats 800000 in
theorem i_isExponents (vp v : Value) (p : Pres) (xs : List Int) (w : World) (hp : PtrP w vp p) (hv : Rd w v xs) (ho : primesB p.orders = true) :
    Calls Try.prog 56 #[vp, v] w fun e w' => e = .returned (.bool (tailB p.orders xs 0)) ∧ w = w' := by
  obtain ⟨pb, v1, v2, v3, rfl, hp1, hp2, hp3, hR, _, _⟩ := hp
  clear hp2 hp3
  obtain ⟨os, pw, cj⟩ := p
  simp only at hR ho ⊢
  obtain ⟨ao, cap, rfl, hc1, hc2, _, hA⟩ := hv
  obtain ⟨aq, capq, rfl, hq1, hq2, _, hB⟩ := hR
  by_cases hl : xs.length = os.length
  · have HL := Lib.hid hl
    have hl1 : ((xs.length : Int) == (os.length : Int)) = true := by simp [hl]
    have hl2 : ((xs.length : Int) != (os.length : Int)) = false := by simp [hl]
    clear hl
    go_enter Try.func56, Try.ntmps56
    go_wp2
    go_loop [17] (fun i => ∃ j : Nat, j ≤ xs.length ∧ i = .int .i64 j ∧ ∀ t, t < j → expAt os xs 0 t = true) (fun i => xs.length - (intOf i).toNat)
    case atStart => exact ⟨0, Nat.zero_le _, rfl, fun t ht => by omega⟩
    case round =>
      clear hl1 hl2
      obtain ⟨j, hj, rfl, hall⟩ := hrel
      have HA := Lib.hid hall
      clear hall
      by_cases hlt : j < xs.length
      · have hlt' : j < os.length := by have := HL.out; omega
        rcases hA with hA | ⟨b, off, rfl, hA⟩
        · omega
        rcases hB with hB | ⟨b', off', rfl, hB⟩
        · omega
        have hcell := hA j hlt
        have hcell' := hB j hlt'
        have hbd := primesB_at ho (getD_mem hlt')
        clear hA hB
        have HE : Hid (expAt os xs 0 j = inB (xs.getD j 0) 0 (os.getD j 0 - 1)) := by show _ = _; simp [expAt]
        generalize xs.getD j 0 = x at *
        generalize os.getD j 0 = o at *
        by_cases hin : inB x 0 (o - 1) = true
        · go_wp2_with (go_at_call 28; refine (i_inside _ _ _ _).mono ?_; rintro e w' ⟨rfl, rfl⟩)
          go_round
          case rel => exact ⟨j + 1, by omega, by go_num, fun t ht => by
            by_cases h : t = j
            · subst h; rw [HE.out]; exact hin
            · exact HA.out t (by omega)⟩
          case measure => simp [intOf]; omega
        · have hin' : inB x 0 (o - 1) = false := by simpa using hin
          clear hin
          go_wp2_with (go_at_call 28; refine (i_inside _ _ _ _).mono ?_; rintro e w' ⟨rfl, rfl⟩)
          go_ret
          exact ⟨ret_bool (tailB_no2 hlt (by rw [HE.out]; exact hin')).symm, rfl⟩
      · obtain rfl : j = xs.length := by omega
        go_wp2
        go_ret
        exact ⟨ret_bool (tailB_of HL.out HA.out).symm, rfl⟩
  · have HL := Lib.hid hl
    have hl1 : ((xs.length : Int) == (os.length : Int)) = false := by simp; omega
    have hl2 : ((xs.length : Int) != (os.length : Int)) = true := by simp; omega
    clear hl
    go_enter Try.func56, Try.ntmps56
    go_wp2
    go_ret
    exact ⟨ret_bool (tailB_no HL.out).symm, rfl⟩
--== quiet
theorem rq {P : Program} {f : FuncId} {args : Array Value} {w : World} {v : Value} (h : Calls P f args w fun e w' => e = .returned v ∧ w = w') : Calls P f args w (RetQuiet w v) :=
  h.mono fun _ _ ⟨h1, h2⟩ => ⟨h1, 0, h2.symm⟩
--== spec.l07Exponents
set_option maxHeartbeats 800000 in
theorem s_l07Exponents (vo v : Value) (os xs : List Int) (z : Nat) (zi : Int) (w : World) (hz : zi = (z : Int) - 1) (hz1 : z ≤ 1000) (hp : Rd w vo os) (hv : Rd w v xs) (ho : primesB os = true) :
    Calls Try.prog 45 #[vo, v, .int .i64 zi] w (RetQuiet w (.bool (tailB os xs z))) := by
  obtain ⟨ao, cap, rfl, hc1, hc2, _, hA⟩ := hv
  obtain ⟨aq, capq, rfl, hq1, hq2, _, hB⟩ := hp
  have HZ := Lib.hid hz
  have hz0 : -1 ≤ zi := by omega
  have hz2 : zi ≤ 1000 := by omega
  clear hz
  by_cases hl : xs.length = os.length
  · have HL := Lib.hid hl
    have hl1 : ((xs.length : Int) == (os.length : Int)) = true := by simp [hl]
    have hl2 : ((xs.length : Int) != (os.length : Int)) = false := by simp [hl]
    clear hl
    go_enter Try.func45, Try.ntmps45
    go_wp2
    go_loopw [7] (fun i wr => ∃ j : Nat, j ≤ xs.length ∧ i = .int .i64 j ∧ (∀ t, t < j → expAt os xs z t = true) ∧ ∃ n, wr = w.drewN n) (fun i _ => xs.length - (intOf i).toNat)
    case atStart => exact ⟨0, Nat.zero_le _, rfl, fun t ht => by omega, 0, rfl⟩
    case round =>
      clear hl1 hl2
      obtain ⟨j, hj, rfl, hall, n, hn⟩ := hrel
      have HA := Lib.hid hall
      have HN := Lib.hid hn
      clear hall hn
      by_cases hlt : j < xs.length
      · have hlt' : j < os.length := by have := HL.out; omega
        rcases hA with hA | ⟨b, off, rfl, hA⟩
        · omega
        rcases hB with hB | ⟨b', off', rfl, hB⟩
        · omega
        have hcell0 := hA j hlt
        have hcell0' := hB j hlt'
        have hcell : wr.cell? ⟨b, off + j, none⟩ = some (.int .i64 (xs.getD j 0)) := by rw [HN.out]; exact hcell0
        have hcell' : wr.cell? ⟨b', off' + j, none⟩ = some (.int .i64 (os.getD j 0)) := by rw [HN.out]; exact hcell0'
        have hbd := primesB_at ho (getD_mem hlt')
        clear hA hB hcell0 hcell0'
        have HE : Hid (expAt os xs z j = (inB (xs.getD j 0) 0 (os.getD j 0 - 1) && (decide (z ≤ j) || xs.getD j 0 == 0))) := rfl
        generalize xs.getD j 0 = x at *
        generalize os.getD j 0 = o at *
        have W1 : IntKind.i64.wrap (o - 1) = o - 1 := IntWalk.i64_in _ (by omega)
        by_cases hin : inB x 0 (o - 1) = true
        · by_cases hzj : (j : Int) ≤ zi
          · have W2 : decide ((j : Int) ≤ zi) = true := by simpa using hzj
            have hzj' : Hid (decide (z ≤ j) = false) := by show _ = _; have := HZ.out; simp; omega
            by_cases h0 : x = 0
            · subst h0
              go_wp2_with fail
              go_quiet ((go_at_call 31; exact Calls.quiet_of (rq (s_l01In _ _ _ _))))
              clear W1 W2
              go_wp2_with fail
              go_roundw
              case rel => exact ⟨j + 1, by omega, by go_num, fun t ht => by
                by_cases h : t = j
                · subst h; rw [HE.out, hin]; simp
                · exact HA.out t (by omega), by rw [HN.out]; exact drewN_drewN _ _ _⟩
              case measure => simp [intOf]; omega
            · have h1 : (x == 0) = false := by simpa using h0
              have h2 : (x != 0) = true := by simpa using h0
              have HX : Hid ((x == 0) = false) := Lib.hid h1
              clear h0
              go_wp2_with fail
              go_quiet ((go_at_call 31; exact Calls.quiet_of (rq (s_l01In _ _ _ _))))
              clear W1 W2
              go_wp2_with fail
              go_ret
              exact ⟨ret_bool (tailB_no2 hlt (by rw [HE.out, hzj'.out, HX.out]; simp)).symm, by rw [HN.out]; exact drewN_drewN _ _ _⟩
          · have W2 : decide ((j : Int) ≤ zi) = false := by simpa using hzj
            have hzj' : Hid (decide (z ≤ j) = true) := by show _ = _; have := HZ.out; simp; omega
            go_wp2_with fail
            go_quiet ((go_at_call 31; exact Calls.quiet_of (rq (s_l01In _ _ _ _))))
            clear W1 W2
            go_wp2_with fail
            go_roundw
            case rel => exact ⟨j + 1, by omega, by go_num, fun t ht => by
              by_cases h : t = j
              · subst h; rw [HE.out, hin, hzj'.out]; rfl
              · exact HA.out t (by omega), by rw [HN.out]; exact drewN_drewN _ _ _⟩
            case measure => simp [intOf]; omega
        · have hin' : inB x 0 (o - 1) = false := by simpa using hin
          clear hin
          go_wp2_with fail
          go_quiet ((go_at_call 31; exact Calls.quiet_of (rq (s_l01In _ _ _ _))))
          clear W1
          go_wp2_with fail
          go_ret
          exact ⟨ret_bool (tailB_no2 hlt (by rw [HE.out, hin']; rfl)).symm, by rw [HN.out]; exact drewN_drewN _ _ _⟩
      · obtain rfl : j = xs.length := by omega
        go_wp2_with fail
        go_ret
        exact ⟨ret_bool (tailB_of HL.out HA.out).symm, n, HN.out⟩
  · have HL := Lib.hid hl
    have hl1 : ((xs.length : Int) == (os.length : Int)) = false := by simp; omega
    have hl2 : ((xs.length : Int) != (os.length : Int)) = true := by simp; omega
    clear hl
    go_enter Try.func45, Try.ntmps45
    go_wp2
    go_ret
    exact ⟨ret_bool (tailB_no HL.out).symm, 0, rfl⟩
--== parts of slices
theorem Rd.pre {w : World} {b off n cap m : Nat} {xs : List Int} (h : Rd w (.slice (some ⟨b, off, none⟩) n cap) xs) (hm : m ≤ n) : Rd w (.slice (some ⟨b, off, none⟩) m cap) (xs.take m) := by
  obtain ⟨ao, cap', he, h1, h2, h3, h4⟩ := h
  simp only [Value.slice.injEq] at he
  obtain ⟨rfl, rfl, rfl⟩ := he
  have hl : (xs.take m).length = m := by simp; omega
  refine ⟨_, _, by rw [hl], by omega, h2, h3, ?_⟩
  rcases h4 with h4 | ⟨b', off', he, h4⟩
  · exact .inl (by omega)
  · cases he
    refine .inr ⟨_, _, rfl, fun j hj => ?_⟩
    rw [hl] at hj
    rw [h4 j (by omega), take_getD _ _ _ hj]
theorem Rd2.at {w : World} {ao : Option Addr} {n cap : Nat} {xss : List (List Int)} (h : Rd2 w (.slice ao n cap) xss) {j : Nat} (hj : j < xss.length) :
    ∃ b off r, ao = some ⟨b, off, none⟩ ∧ w.cell? ⟨b, off + j, none⟩ = some r ∧ Rd w r (xss.getD j []) := by
  obtain ⟨ao', cap', he, h1, h2, h3⟩ := h.open
  simp only [Value.slice.injEq] at he
  obtain ⟨rfl, rfl, rfl⟩ := he
  rcases h3 with h3 | ⟨b, off, rfl, h3⟩
  · omega
  · obtain ⟨r, hr, hx⟩ := h3 j hj
    exact ⟨b, off, r, rfl, hr, hx⟩
theorem Rd3.at {w : World} {ao : Option Addr} {n cap : Nat} {xss : List (List (List Int))} (h : Rd3 w (.slice ao n cap) xss) {j : Nat} (hj : j < xss.length) :
    ∃ b off r, ao = some ⟨b, off, none⟩ ∧ w.cell? ⟨b, off + j, none⟩ = some r ∧ Rd2 w r (xss.getD j []) := by
  obtain ⟨ao', cap', he, h1, h2, h3⟩ := h.open
  simp only [Value.slice.injEq] at he
  obtain ⟨rfl, rfl, rfl⟩ := he
  rcases h3 with h3 | ⟨b, off, rfl, h3⟩
  · omega
  · obtain ⟨r, hr, hx⟩ := h3 j hj
    exact ⟨b, off, r, rfl, hr, hx⟩
--== impl.tailVector
set_option maxHeartbeats 800000 in
theorem i_tailVector (vp v : Value) (p : Pres) (xs : List Int) (i : Nat) (w : World) (hp : PtrP w vp p) (hv : Rd w v xs) (ho : primesB p.orders = true) (hi : i < p.n) (hn : p.n ≤ 1000) :
    Calls Try.prog 39 #[vp, .int .i64 i, v] w fun e w' => e = .returned (.bool (tailB p.orders xs (i + 1))) ∧ w = w' := by
  have hR := hv
  obtain ⟨ao, cap, rfl, hc1, hc2, _, hA⟩ := hv
  have HT := Lib.hid (tailB_split (os := p.orders) (v := xs) (z := i + 1))
  by_cases ht : tailB p.orders xs 0 = true
  · obtain ⟨hl, _⟩ := tailB_true ht
    have hlt : i + 1 ≤ xs.length := by unfold Pres.n at hi; omega
    clear hl
    rcases hA with hA | ⟨b, off, rfl, hA⟩
    · omega
    have hS := hR.pre hlt
    go_enter Try.func39, Try.ntmps39
    go_wp2_with (first | (go_at_call 56; refine (i_isExponents _ _ p xs _ hp hR ho).mono ?_; rintro e w' ⟨rfl, rfl⟩) | (go_at_call 60; refine (i_isZero _ _ _ hS).mono ?_; rintro e w' ⟨rfl, rfl⟩))
    go_ret
    exact ⟨ret_bool (by rw [HT.out]; first | (rw [ht]; rfl) | simp [ht]), rfl⟩
  · have ht' : tailB p.orders xs 0 = false := by simpa using ht
    clear ht
    have HT' : Hid (tailB p.orders xs (i + 1) = false) := by show _ = _; rw [HT.out, ht']; rfl
    go_enter Try.func39, Try.ntmps39
    go_wp2_with (go_at_call 56; refine (i_isExponents _ _ p xs _ hp hR ho).mono ?_; rintro e w' ⟨rfl, rfl⟩)
    go_ret
    exact ⟨ret_bool HT'.out.symm, rfl⟩
--== spec.l07Product
theorem prod_take_bd {os : List Int} (h : primesB os = true) (j : Nat) : 1 ≤ prodS (os.take j) ∧ prodS (os.take j) ≤ 5103 := by
  have : primesB (os.take j) = true := List.all_eq_true.2 fun x hx => List.all_eq_true.1 h x (List.mem_of_mem_take hx)
  have := prod_both _ this
  omega
set_option maxHeartbeats 800000 in
theorem s_l07Product (v : Value) (os : List Int) (w : World) (hv : Rd w v os) (ho : primesB os = true) :
    Calls Try.prog 44 #[v] w fun e w' => e = .returned (.int .i64 (prodS os)) ∧ w = w' := by
  obtain ⟨ao, cap, rfl, hc1, hc2, _, hA⟩ := hv
  go_enter Try.func44, Try.ntmps44
  go_wp2
  go_loop [3, 4] (fun u i => ∃ j : Nat, j ≤ os.length ∧ i = .int .i64 j ∧ u = .int .i64 (prodS (os.take j))) (fun _ i => os.length - (intOf i).toNat)
  case atStart => exact ⟨0, Nat.zero_le _, rfl, rfl⟩
  case round =>
    obtain ⟨j, hj, rfl, rfl⟩ := hrel
    have hbd := prod_take_bd ho j
    by_cases hlt : j < os.length
    · rcases hA with hA | ⟨b, off, rfl, hA⟩
      · omega
      have hcell := hA j hlt
      have hob := primesB_at ho (getD_mem hlt)
      have HS : Hid (prodS (os.take (j + 1)) = if prodS (os.take j) ≤ 729 then prodS (os.take j) * os.getD j 0 else prodS (os.take j)) := by
        show _ = _; rw [take_snoc os j 0 hlt, prodS_snoc]
      clear hA
      generalize os.getD j 0 = o at *
      generalize prodS (os.take j) = u at *
      by_cases h729 : u ≤ 729
      · have hm : -9223372036854775808 ≤ u * o ∧ u * o ≤ 9223372036854775807 := by
          have h1 : u * o ≤ 729 * 7 := Int.mul_le_mul h729 hob.2 (by omega) (by omega)
          have h2 : 0 ≤ u * o := Int.mul_nonneg (by omega) (by omega)
          omega
        go_wp2
        go_round
        case rel => exact ⟨j + 1, by omega, by go_num, by rw [HS.out, if_pos h729]⟩
        case measure => simp [intOf]; omega
      · go_wp2
        go_round
        case rel => exact ⟨j + 1, by omega, by go_num, by rw [HS.out, if_neg h729]⟩
        case measure => simp [intOf]; omega
    · obtain rfl : j = os.length := by omega
      go_wp2
      go_ret
      exact ⟨ret_int (by simp), rfl⟩
end Go.Proofs.Ytiikoappknejgaa
namespace Go.Proofs.Ytiikoappknejgaa
set_option linter.unusedVariables false
set_option linter.unusedSimpArgs false
set_option maxRecDepth 100000
open Go.RowKit

theorem Rd.at {w : World} {ao : Option Addr} {n cap : Nat} {xs : List Int} (h : Rd w (.slice ao n cap) xs) {j : Nat} (hj : j < xs.length) :
    ∃ b off, ao = some ⟨b, off, none⟩ ∧ w.cell? ⟨b, off + j, none⟩ = some (.int .i64 (xs.getD j 0)) := by
  obtain ⟨ao', cap', he, h1, h2, h3, h4⟩ := h
  simp only [Value.slice.injEq] at he
  obtain ⟨rfl, rfl, rfl⟩ := he
  rcases h4 with h4 | ⟨b, off, rfl, h4⟩
  · omega
  · exact ⟨b, off, rfl, h4 j hj⟩
theorem RdP.of_cells {w w' : World} {v1 v2 v3 : Value} {p : Pres} (h : RdP w v1 v2 v3 p) (hc : ∀ a u, w.cell? a = some u → w'.cell? a = some u) : RdP w' v1 v2 v3 p := ⟨h.1.of_cells hc, h.2.1.of_cells hc, h.2.2.of_cells hc⟩
theorem RdP.drewN {w : World} {n : Nat} {v1 v2 v3 : Value} {p : Pres} (h : RdP w v1 v2 v3 p) : RdP (w.drewN n) v1 v2 v3 p := h
--== spec.IsPresentation
theorem s_IsPresentation_no (v1 v2 v3 : Value) (p : Pres) (w : World) (hv : RdP w v1 v2 v3 p) (hs : ¬ (p.n ≤ 6 ∧ p.powers.length = p.n ∧ p.conj.length = p.n)) :
    Calls Try.prog 20 #[.agg #[v1, v2, v3]] w (RetV w (.bool (validB p))) := by
  obtain ⟨h1, h2, h3⟩ := hv
  obtain ⟨ao1, cap1, rfl, _, _⟩ := h1.form
  obtain ⟨ao2, cap2, rfl, _, _⟩ := h2.form
  obtain ⟨ao3, cap3, rfl, _, _⟩ := h3.form
  have HV := Lib.hid (validB_size hs)
  have g0 := below_alloc w (Obj.cells #[Value.slice ao1 p.orders.length cap1, Value.slice ao2 p.powers.length cap2, Value.slice ao3 p.conj.length cap3] 28)
  unfold Pres.n at hs
  by_cases q1 : p.orders.length ≤ 6
  · by_cases q2 : p.powers.length = p.orders.length
    · have q3 : ¬ p.conj.length = p.orders.length := fun h => hs ⟨q1, q2, h⟩
      have t2 : ((p.powers.length : Int) == (p.orders.length : Int)) = true := by simp [q2]
      have t2' : ((p.powers.length : Int) != (p.orders.length : Int)) = false := by simp [q2]
      have t3 : ((p.conj.length : Int) == (p.orders.length : Int)) = false := by simp; omega
      have t3' : ((p.conj.length : Int) != (p.orders.length : Int)) = true := by simp; omega
      clear q2 q3 hs
      go_enter Try.func20, Try.ntmps20
      go_wp2
      go_ret
      exact ⟨ret_bool HV.out.symm, g0⟩
    · have t2 : ((p.powers.length : Int) == (p.orders.length : Int)) = false := by simp; omega
      have t2' : ((p.powers.length : Int) != (p.orders.length : Int)) = true := by simp; omega
      clear q2 hs
      go_enter Try.func20, Try.ntmps20
      go_wp2
      go_ret
      exact ⟨ret_bool HV.out.symm, g0⟩
  · clear hs
    go_enter Try.func20, Try.ntmps20
    go_wp2
    go_ret
    exact ⟨ret_bool HV.out.symm, g0⟩
set_option maxHeartbeats 4000000 in
theorem s_IsPresentation (v1 v2 v3 : Value) (p : Pres) (w : World) (hv : RdP w v1 v2 v3 p) :
    Calls Try.prog 20 #[.agg #[v1, v2, v3]] w (RetV w (.bool (validB p))) := by
  by_cases hs : p.n ≤ 6 ∧ p.powers.length = p.n ∧ p.conj.length = p.n
  case neg => exact s_IsPresentation_no v1 v2 v3 p w hv hs
  obtain ⟨q1, q2, q3⟩ := hs
  have hR := Lib.hid hv
  obtain ⟨h1, h2, h3⟩ := hv
  obtain ⟨ao1, cap1, rfl, _, _⟩ := h1.form
  obtain ⟨ao2, cap2, rfl, _, _⟩ := h2.form
  obtain ⟨ao3, cap3, rfl, _, _⟩ := h3.form
  have g0 := below_alloc w (Obj.cells #[Value.slice ao1 p.orders.length cap1, Value.slice ao2 p.powers.length cap2, Value.slice ao3 p.conj.length cap3] 28)
  have t2 : ((p.powers.length : Int) == (p.orders.length : Int)) = true := by have h : p.powers.length = p.orders.length := q2; simp [h]
  have t2' : ((p.powers.length : Int) != (p.orders.length : Int)) = false := by have h : p.powers.length = p.orders.length := q2; simp [h]
  have t3 : ((p.conj.length : Int) == (p.orders.length : Int)) = true := by have h : p.conj.length = p.orders.length := q3; simp [h]
  have t3' : ((p.conj.length : Int) != (p.orders.length : Int)) = false := by have h : p.conj.length = p.orders.length := q3; simp [h]
  have Q1 : Hid (p.orders.length = p.n) := rfl
  have Q2 := Lib.hid q2
  have Q3 := Lib.hid q3
  have q1' : p.orders.length ≤ 6 := q1
  clear q2 q3 q1
  go_enter Try.func20, Try.ntmps20
  go_wp2
  clear t2 t2' t3 t3'
  have r1 := h1.below g0
  go_loop [4] (fun i => ∃ j : Nat, j ≤ p.orders.length ∧ i = .int .i64 j ∧ primesB (p.orders.take j) = true) (fun i => p.orders.length - (intOf i).toNat)
  case atStart => exact ⟨0, Nat.zero_le _, rfl, rfl⟩
  case round =>
    obtain ⟨j, hj, rfl, hpr⟩ := hrel
    have HP := Lib.hid hpr
    clear hpr
    by_cases hlt : j < p.orders.length
    · obtain ⟨b, off, rfl, hcell⟩ := r1.at hlt
      have HS : Hid (primesB (p.orders.take (j + 1)) = (primesB (p.orders.take j) && primeB (p.orders.getD j 0))) := by show _ = _; rw [take_snoc p.orders j 0 hlt, primesB_snoc]
      have HN := Lib.hid (ordB_no1 hlt)
      generalize p.orders.getD j 0 = o at *
      by_cases ho : primeB o = true
      · go_wp2_with (go_at_call 43; refine (s_l01Prime _ _).mono ?_; rintro e w' ⟨rfl, rfl⟩)
        go_round
        case rel => exact ⟨j + 1, by omega, by go_num, by rw [HS.out, HP.out, ho]; rfl⟩
        case measure => simp [intOf]; omega
      · have ho' : primeB o = false := by simpa using ho
        clear ho
        go_wp2_with (go_at_call 43; refine (s_l01Prime _ _).mono ?_; rintro e w' ⟨rfl, rfl⟩)
        go_ret
        exact ⟨ret_bool (validB_ord (ordB_no2 (HN.out ho'))).symm, g0⟩
    · obtain rfl : j = p.orders.length := by omega
      have hpr : primesB p.orders = true := by have := HP.out; rwa [List.take_length] at this
      clear HP
      have HP := Lib.hid hpr
      clear hpr
      by_cases h729 : prodS p.orders ≤ 729
      case neg =>
        go_wp2_with (go_at_call 44; refine (s_l07Product _ _ _ r1 HP.out).mono ?_; rintro e w' ⟨rfl, rfl⟩)
        go_ret
        exact ⟨ret_bool (validB_ord (ordB_no4 (by omega))).symm, g0⟩
      have HO : Hid (ordB p.orders = true) := by show _ = _; simp [ordB, HP.out, h729]
      go_wp2_with (go_at_call 44; refine (s_l07Product _ _ _ r1 HP.out).mono ?_; rintro e w' ⟨rfl, rfl⟩)
      have r0 : ∀ k : Nat, RdP ((w.alloc (Obj.cells #[Value.slice ao1 p.orders.length cap1, Value.slice ao2 p.powers.length cap2, Value.slice ao3 p.conj.length cap3] 28)).drewN k) (Value.slice ao1 p.orders.length cap1) (Value.slice ao2 p.powers.length cap2) (Value.slice ao3 p.conj.length cap3) p := fun k => (hR.out.below g0).drewN
      have R0 := Lib.hid r0
      clear r0 h1 h2 h3 r1
      go_loopw [5] (fun i wr => ∃ j : Nat, j ≤ p.orders.length ∧ i = .int .i64 j ∧ (∀ t, t < j → rowB p t = true) ∧ ∃ n, wr = (w.alloc (Obj.cells #[Value.slice ao1 p.orders.length cap1, Value.slice ao2 p.powers.length cap2, Value.slice ao3 p.conj.length cap3] 28)).drewN n) (fun i _ => p.orders.length - (intOf i).toNat)
      case atStart => exact ⟨0, Nat.zero_le _, rfl, fun t ht => by omega, 0, rfl⟩
      case round =>
        obtain ⟨j, hj, rfl, hall, n, hn⟩ := hrel
        have HA := Lib.hid hall
        have HN := Lib.hid hn
        clear hall hn
        by_cases hlt : j < p.orders.length
        · have hr : RdP wr (Value.slice ao1 p.orders.length cap1) (Value.slice ao2 p.powers.length cap2) (Value.slice ao3 p.conj.length cap3) p := by rw [HN.out]; exact R0.out n
          have m0 : wr.cell? ⟨w.heap.size, 0, none⟩ = some (Value.slice ao1 p.orders.length cap1) := by rw [HN.out]; simp [go_sem]
          have m1 : wr.cell? ⟨w.heap.size, 1, none⟩ = some (Value.slice ao2 p.powers.length cap2) := by rw [HN.out]; simp [go_sem]
          have m2 : wr.cell? ⟨w.heap.size, 2, none⟩ = some (Value.slice ao3 p.conj.length cap3) := by rw [HN.out]; simp [go_sem]
          obtain ⟨h1, h2, h3⟩ := hr
          obtain ⟨b2, off2, x2, rfl, hc2, hx2⟩ := h2.at (show j < p.powers.length by rw [Q2.out]; exact hlt)
          obtain ⟨b3, off3, x3, rfl, hc3, hx3⟩ := h3.at (show j < p.conj.length by rw [Q3.out]; exact hlt)
          have hp2 : j < p.powers.length := by rw [Q2.out]; exact hlt
          have hp3 : j < p.conj.length := by rw [Q3.out]; exact hlt
          have W1 : IntKind.i64.wrap ((p.orders.length : Int) - 1) = (p.orders.length : Int) - 1 := IntWalk.i64_in _ (by omega)
          have W2 : IntKind.i64.wrap ((p.orders.length : Int) - 1 - j) = (p.orders.length : Int) - 1 - j := IntWalk.i64_in _ (by omega)
          obtain ⟨ao4, cap4, rfl, _, _⟩ := hx3.form
          have HC : Hid ((p.conj.getD j []).length = (p.conj.getD j []).length) := rfl
          have hR3 := Lib.hid hx3
          by_cases ht : tailB p.orders (p.P j) (j + 1) = true
          case neg =>
            have ht' : tailB p.orders (p.P j) (j + 1) = false := by simpa using ht
            clear ht
            have HF := Lib.hid (validB_row (show j < p.n from hlt) (rowB_pow ht'))
            go_wp2_with fail
            go_quiet ((go_at_call 45; exact Calls.quiet_of (s_l07Exponents _ _ p.orders (p.P j) (j + 1) _ _ (by omega) (by omega) (Rd.drewN h1) (Rd.drewN hx2) HP.out)))
            clear W1 W2
            go_wp2_with fail
            go_ret
            exact ⟨ret_bool HF.out.symm, by rw [HN.out]; exact below_drewN (below_drewN g0 _) _⟩
          have HT := Lib.hid ht
          clear ht
          have hq : ∀ wx : World, Rd wx (Value.slice ao1 p.orders.length cap1) p.orders → Rd wx x2 (p.powers.getD j []) → Calls Try.prog 45 #[Value.slice ao1 p.orders.length cap1, x2, .int .i64 j] wx (RetQuiet wx (.bool true)) := fun wx h h' => by
            have := s_l07Exponents _ _ p.orders (p.P j) (j + 1) j _ (by omega) (by omega) h h' HP.out
            rwa [HT.out] at this
          have HQ := Lib.hid hq
          clear hq
          by_cases hl : (p.conj.getD j []).length + 1 + j = p.n
          case neg =>
            have HF := Lib.hid (validB_row (show j < p.n from hlt) (rowB_len hl))
            have t4 : (((p.conj.getD j []).length : Int) == (p.orders.length : Int) - 1 - j) = false := by unfold Pres.n at hl; simp only [beq_eq_false_iff_ne, ne_eq]; omega
            have t4' : (((p.conj.getD j []).length : Int) != (p.orders.length : Int) - 1 - j) = true := by unfold Pres.n at hl; simp only [bne_iff_ne, ne_eq]; omega
            clear hl
            generalize p.conj.getD j [] = cj at *
            go_wp2_with fail
            go_quiet ((go_at_call 45; exact Calls.quiet_of (HQ.out _ (Rd.drewN h1) (Rd.drewN hx2))))
            clear W1 W2 t4 t4'
            go_wp2_with fail
            go_ret
            exact ⟨ret_bool HF.out.symm, by rw [HN.out]; exact below_drewN (below_drewN g0 _) _⟩
          have HL := Lib.hid hl
          have t4 : (((p.conj.getD j []).length : Int) == (p.orders.length : Int) - 1 - j) = true := by unfold Pres.n at hl; simp only [beq_iff_eq]; omega
          have t4' : (((p.conj.getD j []).length : Int) != (p.orders.length : Int) - 1 - j) = false := by unfold Pres.n at hl; simp only [bne_eq_false_iff_eq]; omega
          clear hl
          have HF : Hid (∀ k, k < (p.conj.getD j []).length → tailB p.orders ((p.conj.getD j []).getD k []) (j + 1) = false → validB p = false) := fun k hk h => validB_row (show j < p.n from hlt) (rowB_conj hk h)
          have HG : Hid ((∀ k, k < (p.conj.getD j []).length → tailB p.orders ((p.conj.getD j []).getD k []) (j + 1) = true) → rowB p j = true) := fun h => rowB_of HT.out HL.out h
          have Hc3 : Hid ((w.alloc (Obj.cells #[Value.slice ao1 p.orders.length cap1, Value.slice (some ⟨b2, off2, none⟩) p.powers.length cap2, Value.slice (some ⟨b3, off3, none⟩) p.conj.length cap3] 28)).cell? ⟨b3, off3 + j, none⟩ = some (.slice ao4 (p.conj.getD j []).length cap4)) := by
            have := hc3; rw [HN.out] at this; exact this
          have Hx3 : Hid (Rd2 (w.alloc (Obj.cells #[Value.slice ao1 p.orders.length cap1, Value.slice (some ⟨b2, off2, none⟩) p.powers.length cap2, Value.slice (some ⟨b3, off3, none⟩) p.conj.length cap3] 28)) (.slice ao4 (p.conj.getD j []).length cap4) (p.conj.getD j [])) := by
            have := hx3; rw [HN.out] at this; exact this
          generalize p.conj.getD j [] = cj at *
          go_wp2_with fail
          go_quiet ((go_at_call 45; exact Calls.quiet_of (HQ.out _ (Rd.drewN h1) (Rd.drewN hx2))))
          clear W1 W2 t4 t4' m1 hc2 hx2 HQ
          go_wp2_with fail
          have HN2 : Hid (wr.drewN nq = (w.alloc (Obj.cells #[Value.slice ao1 p.orders.length cap1, Value.slice (some ⟨b2, off2, none⟩) p.powers.length cap2, Value.slice (some ⟨b3, off3, none⟩) p.conj.length cap3] 28)).drewN (n + nq)) := by
            show _ = _; rw [HN.out]; simp [World.drewN, Nat.add_assoc]
          go_loopw [6] (fun i wr2 => ∃ k : Nat, k ≤ cj.length ∧ i = .int .i64 k ∧ (∀ t, t < k → tailB p.orders (cj.getD t []) (j + 1) = true) ∧ ∃ n, wr2 = (w.alloc (Obj.cells #[Value.slice ao1 p.orders.length cap1, Value.slice (some ⟨b2, off2, none⟩) p.powers.length cap2, Value.slice (some ⟨b3, off3, none⟩) p.conj.length cap3] 28)).drewN n) (fun i _ => cj.length - (intOf i).toNat)
          case atStart => exact ⟨0, Nat.zero_le _, rfl, fun t ht => by omega, _, HN2.out⟩
          case round =>
            obtain ⟨k, hk, rfl, hall, n2, hn2⟩ := hrel
            have HA2 := Lib.hid hall
            have HN3 := Lib.hid hn2
            clear hall hn2 m0 m2 h1 h2 h3 hx3 hc3
            have m0 : wr.cell? ⟨w.heap.size, 0, none⟩ = some (Value.slice ao1 p.orders.length cap1) := by rw [HN3.out]; simp [go_sem]
            have m2 : wr.cell? ⟨w.heap.size, 2, none⟩ = some (Value.slice (some ⟨b3, off3, none⟩) p.conj.length cap3) := by rw [HN3.out]; simp [go_sem]
            have hc3 : wr.cell? ⟨b3, off3 + j, none⟩ = some (.slice ao4 cj.length cap4) := by rw [HN3.out]; exact Hc3.out
            have hr : RdP wr (Value.slice ao1 p.orders.length cap1) (Value.slice (some ⟨b2, off2, none⟩) p.powers.length cap2) (Value.slice (some ⟨b3, off3, none⟩) p.conj.length cap3) p := by rw [HN3.out]; exact R0.out n2
            have hx3 : Rd2 wr (.slice ao4 cj.length cap4) cj := by rw [HN3.out]; exact Hx3.out
            by_cases hk2 : k < cj.length
            · obtain ⟨b4, off4, x4, rfl, hc4, hx4⟩ := hx3.at hk2
              clear hx3
              have HF2 := Lib.hid (HF.out k hk2)
              by_cases ht : tailB p.orders (cj.getD k []) (j + 1) = true
              · have hq : ∀ wx : World, Rd wx (Value.slice ao1 p.orders.length cap1) p.orders → Rd wx x4 (cj.getD k []) → Calls Try.prog 45 #[Value.slice ao1 p.orders.length cap1, x4, .int .i64 j] wx (RetQuiet wx (.bool true)) := fun wx h h' => by
                  have := s_l07Exponents _ _ p.orders _ (j + 1) j _ (by omega) (by omega) h h' HP.out
                  rwa [ht] at this
                have HQ := Lib.hid hq
                have HT2 := Lib.hid ht
                clear hq ht
                go_wp2_with fail
                go_quiet ((go_at_call 45; exact Calls.quiet_of (HQ.out _ (Rd.drewN hr.1) (Rd.drewN hx4))))
                go_wp2_with fail
                go_roundw
                case rel => exact ⟨k + 1, by omega, by go_num, fun t ht => by
                  by_cases h : t = k
                  · subst h; exact HT2.out
                  · exact HA2.out t (by omega), by rw [HN3.out]; exact drewN_drewN _ _ _⟩
                case measure => simp [intOf]; omega
              · have ht' : tailB p.orders (cj.getD k []) (j + 1) = false := by simpa using ht
                clear ht
                have hq : ∀ wx : World, Rd wx (Value.slice ao1 p.orders.length cap1) p.orders → Rd wx x4 (cj.getD k []) → Calls Try.prog 45 #[Value.slice ao1 p.orders.length cap1, x4, .int .i64 j] wx (RetQuiet wx (.bool false)) := fun wx h h' => by
                  have := s_l07Exponents _ _ p.orders _ (j + 1) j _ (by omega) (by omega) h h' HP.out
                  rwa [ht'] at this
                have HQ := Lib.hid hq
                have HT2 := Lib.hid ht'
                clear hq ht'
                go_wp2_with fail
                go_quiet ((go_at_call 45; exact Calls.quiet_of (HQ.out _ (Rd.drewN hr.1) (Rd.drewN hx4))))
                go_wp2_with fail
                go_ret
                exact ⟨ret_bool (HF2.out HT2.out).symm, by rw [HN3.out]; exact below_drewN (below_drewN g0 _) _⟩
            · obtain rfl : k = cj.length := by omega
              have HB := Lib.hid (HG.out HA2.out)
              go_wp2_with fail
              go_roundw
              case rel => exact ⟨j + 1, by omega, by go_num, fun t ht => by
                by_cases h : t = j
                · subst h; exact HB.out
                · exact HA.out t (by omega), n2, HN3.out⟩
              case measure => simp [intOf]; omega
        · obtain rfl : j = p.orders.length := by omega
          have HV : Hid (validB p = true) := validB_true.2 ⟨q1', Q2.out, Q3.out, HO.out, HA.out⟩
          go_wp2_with fail
          go_ret
          exact ⟨ret_bool HV.out.symm, by rw [HN.out]; exact below_drewN g0 _⟩
--== impl.IsPresentation
theorem i_IsPresentation_no (v1 v2 v3 : Value) (p : Pres) (w : World) (hv : RdP w v1 v2 v3 p) (hs : ¬ (p.n ≤ 6 ∧ p.powers.length = p.n ∧ p.conj.length = p.n)) :
    Calls Try.prog 18 #[.agg #[v1, v2, v3]] w (RetV w (.bool (validB p))) := by
  obtain ⟨h1, h2, h3⟩ := hv
  obtain ⟨ao1, cap1, rfl, _, _⟩ := h1.form
  obtain ⟨ao2, cap2, rfl, _, _⟩ := h2.form
  obtain ⟨ao3, cap3, rfl, _, _⟩ := h3.form
  have HV := Lib.hid (validB_size hs)
  have g0 := below_alloc w (Obj.cells #[Value.slice ao1 p.orders.length cap1, Value.slice ao2 p.powers.length cap2, Value.slice ao3 p.conj.length cap3] 28)
  unfold Pres.n at hs
  by_cases q1 : p.orders.length ≤ 6
  · by_cases q2 : p.powers.length = p.orders.length
    · have q3 : ¬ p.conj.length = p.orders.length := fun h => hs ⟨q1, q2, h⟩
      have t2 : ((p.powers.length : Int) == (p.orders.length : Int)) = true := by simp [q2]
      have t2' : ((p.powers.length : Int) != (p.orders.length : Int)) = false := by simp [q2]
      have t3 : ((p.conj.length : Int) == (p.orders.length : Int)) = false := by simp; omega
      have t3' : ((p.conj.length : Int) != (p.orders.length : Int)) = true := by simp; omega
      clear q2 q3 hs
      go_enter Try.func18, Try.ntmps18
      go_wp2
      go_ret
      exact ⟨ret_bool HV.out.symm, g0⟩
    · have t2 : ((p.powers.length : Int) == (p.orders.length : Int)) = false := by simp; omega
      have t2' : ((p.powers.length : Int) != (p.orders.length : Int)) = true := by simp; omega
      clear q2 hs
      go_enter Try.func18, Try.ntmps18
      go_wp2
      go_ret
      exact ⟨ret_bool HV.out.symm, g0⟩
  · clear hs
    go_enter Try.func18, Try.ntmps18
    go_wp2
    go_ret
    exact ⟨ret_bool HV.out.symm, g0⟩
set_option maxHeartbeats 4000000 in
theorem i_IsPresentation (v1 v2 v3 : Value) (p : Pres) (w : World) (hv : RdP w v1 v2 v3 p) :
    Calls Try.prog 18 #[.agg #[v1, v2, v3]] w (RetV w (.bool (validB p))) := by
  by_cases hs : p.n ≤ 6 ∧ p.powers.length = p.n ∧ p.conj.length = p.n
  case neg => exact i_IsPresentation_no v1 v2 v3 p w hv hs
  obtain ⟨q1, q2, q3⟩ := hs
  have hR := Lib.hid hv
  obtain ⟨h1, h2, h3⟩ := hv
  obtain ⟨ao1, cap1, rfl, _, _⟩ := h1.form
  obtain ⟨ao2, cap2, rfl, _, _⟩ := h2.form
  obtain ⟨ao3, cap3, rfl, _, _⟩ := h3.form
  have g0 := below_alloc w (Obj.cells #[Value.slice ao1 p.orders.length cap1, Value.slice ao2 p.powers.length cap2, Value.slice ao3 p.conj.length cap3] 28)
  have t2 : ((p.powers.length : Int) == (p.orders.length : Int)) = true := by have h : p.powers.length = p.orders.length := q2; simp [h]
  have t2' : ((p.powers.length : Int) != (p.orders.length : Int)) = false := by have h : p.powers.length = p.orders.length := q2; simp [h]
  have t3 : ((p.conj.length : Int) == (p.orders.length : Int)) = true := by have h : p.conj.length = p.orders.length := q3; simp [h]
  have t3' : ((p.conj.length : Int) != (p.orders.length : Int)) = false := by have h : p.conj.length = p.orders.length := q3; simp [h]
  have Q1 : Hid (p.orders.length = p.n) := rfl
  have Q2 := Lib.hid q2
  have Q3 := Lib.hid q3
  have q1' : p.orders.length ≤ 6 := q1
  clear q2 q3 q1
  go_enter Try.func18, Try.ntmps18
  go_wp2
  clear t2 t2' t3 t3'
  have r0 : RdP (w.alloc (Obj.cells #[Value.slice ao1 p.orders.length cap1, Value.slice ao2 p.powers.length cap2, Value.slice ao3 p.conj.length cap3] 28)) (Value.slice ao1 p.orders.length cap1) (Value.slice ao2 p.powers.length cap2) (Value.slice ao3 p.conj.length cap3) p := hR.out.below g0
  have PT : PtrP (w.alloc (Obj.cells #[Value.slice ao1 p.orders.length cap1, Value.slice ao2 p.powers.length cap2, Value.slice ao3 p.conj.length cap3] 28)) (.pointer (some ⟨w.heap.size, 0, none⟩)) p := ⟨_, _, _, _, rfl, by simp [go_sem], by simp [go_sem], by simp [go_sem], r0⟩
  have r1 := r0.1
  have r2 := r0.2.1
  have r3 := r0.2.2
  clear h1 h2 h3 r0
  go_loop [4, 32] (fun u i => ∃ j : Nat, j ≤ p.orders.length ∧ i = .int .i64 j ∧ u = .int .i64 (prodO (p.orders.take j)) ∧ primesB (p.orders.take j) = true ∧ prodO (p.orders.take j) ≤ 729) (fun _ i => p.orders.length - (intOf i).toNat)
  case atStart => exact ⟨0, Nat.zero_le _, rfl, rfl, rfl, by simp [prodO]⟩
  case round =>
    obtain ⟨j, hj, rfl, rfl, hpr, hle⟩ := hrel
    have hge := (prod_both _ hpr).1
    have HP := Lib.hid hpr
    clear hpr
    by_cases hlt : j < p.orders.length
    · obtain ⟨b, off, rfl, hcell⟩ := r1.at hlt
      have HS : Hid (primesB (p.orders.take (j + 1)) = (primesB (p.orders.take j) && primeB (p.orders.getD j 0))) := by show _ = _; rw [take_snoc p.orders j 0 hlt, primesB_snoc]
      have HT : Hid (prodO (p.orders.take (j + 1)) = prodO (p.orders.take j) * p.orders.getD j 0) := by show _ = _; rw [take_snoc p.orders j 0 hlt, prodO_snoc]
      have HN := Lib.hid (ordB_no1 hlt)
      have HM : Hid (729 < prodO (p.orders.take (j + 1)) → ordB p.orders = false) := fun h => ordB_no3 h
      generalize p.orders.getD j 0 = o at *
      generalize prodO (p.orders.take j) = u at *
      by_cases ho : primeB o = true
      · have hob := primeB_true.1 ho
        have hob' : 2 ≤ o ∧ o ≤ 7 := by omega
        have hm0 : 0 ≤ u * o := Int.mul_nonneg (by omega) (by omega)
        have hm1 : u * o ≤ 729 * 7 := Int.mul_le_mul hle hob'.2 (by omega) (by omega)
        have hm2 : u * o ≤ 5103 := by omega
        clear hob hm1
        by_cases h729 : u * o ≤ 729
        · go_wp2_with (go_at_call 38; refine (i_IsGroupPrime _ _).mono ?_; rintro e w' ⟨rfl, rfl⟩)
          go_round
          case rel => exact ⟨j + 1, by omega, by go_num, by rw [HT.out], by rw [HS.out, HP.out, ho]; rfl, by rw [HT.out]; exact h729⟩
          case measure => simp [intOf]; omega
        · go_wp2_with (go_at_call 38; refine (i_IsGroupPrime _ _).mono ?_; rintro e w' ⟨rfl, rfl⟩)
          go_ret
          exact ⟨ret_bool (validB_ord (HM.out (by rw [HT.out]; omega))).symm, g0⟩
      · have ho' : primeB o = false := by simpa using ho
        clear ho
        go_wp2_with (go_at_call 38; refine (i_IsGroupPrime _ _).mono ?_; rintro e w' ⟨rfl, rfl⟩)
        go_ret
        exact ⟨ret_bool (validB_ord (ordB_no2 (HN.out ho'))).symm, g0⟩
    · obtain rfl : j = p.orders.length := by omega
      have hpr : primesB p.orders = true := by have := HP.out; rwa [List.take_length] at this
      have HO : Hid (ordB p.orders = true) := ordB_of hpr (by simpa using hle)
      clear HP hle hge
      have HP := Lib.hid hpr
      clear hpr
      go_wp2_with fail
      go_loop [50] (fun i => ∃ j : Nat, j ≤ p.orders.length ∧ i = .int .i64 j ∧ (∀ t, t < j → rowB p t = true)) (fun i => p.orders.length - (intOf i).toNat)
      case atStart => exact ⟨0, Nat.zero_le _, rfl, fun t ht => by omega⟩
      case round =>
        obtain ⟨j, hj, rfl, hall⟩ := hrel
        have HA := Lib.hid hall
        clear hall
        by_cases hlt : j < p.orders.length
        · obtain ⟨b2, off2, x2, rfl, hc2, hx2⟩ := r2.at (show j < p.powers.length by rw [Q2.out]; exact hlt)
          obtain ⟨b3, off3, x3, rfl, hc3, hx3⟩ := r3.at (show j < p.conj.length by rw [Q3.out]; exact hlt)
          have hp2 : j < p.powers.length := by rw [Q2.out]; exact hlt
          have hp3 : j < p.conj.length := by rw [Q3.out]; exact hlt
          obtain ⟨ao4, cap4, rfl, _, _⟩ := hx3.form
          by_cases ht : tailB p.orders (p.P j) (j + 1) = true
          case neg =>
            have ht' : tailB p.orders (p.P j) (j + 1) = false := by simpa using ht
            clear ht
            have HF := Lib.hid (validB_row (show j < p.n from hlt) (rowB_pow ht'))
            go_wp2_with fail
            refine (i_tailVector _ _ p (p.P j) j _ PT hx2 HP.out hlt (by unfold Pres.n; omega)).mono ?_
            rintro e w' ⟨rfl, rfl⟩
            rw [ht']
            go_wp2_with fail
            go_ret
            exact ⟨ret_bool HF.out.symm, g0⟩
          have HT := Lib.hid ht
          clear ht
          by_cases hl : (p.conj.getD j []).length + 1 + j = p.n
          case neg =>
            have HF := Lib.hid (validB_row (show j < p.n from hlt) (rowB_len hl))
            have t4 : (((p.conj.getD j []).length : Int) == (p.orders.length : Int) - 1 - j) = false := by unfold Pres.n at hl; simp only [beq_eq_false_iff_ne, ne_eq]; omega
            have t4' : (((p.conj.getD j []).length : Int) != (p.orders.length : Int) - 1 - j) = true := by unfold Pres.n at hl; simp only [bne_iff_ne, ne_eq]; omega
            clear hl
            generalize p.conj.getD j [] = cj at *
            go_wp2_with fail
            refine (i_tailVector _ _ p (p.P j) j _ PT hx2 HP.out hlt (by unfold Pres.n; omega)).mono ?_
            rintro e w' ⟨rfl, rfl⟩
            rw [HT.out]
            go_wp2_with fail
            go_ret
            exact ⟨ret_bool HF.out.symm, g0⟩
          have HL := Lib.hid hl
          have t4 : (((p.conj.getD j []).length : Int) == (p.orders.length : Int) - 1 - j) = true := by unfold Pres.n at hl; simp only [beq_iff_eq]; omega
          have t4' : (((p.conj.getD j []).length : Int) != (p.orders.length : Int) - 1 - j) = false := by unfold Pres.n at hl; simp only [bne_eq_false_iff_eq]; omega
          clear hl
          have HF : Hid (∀ k, k < (p.conj.getD j []).length → tailB p.orders ((p.conj.getD j []).getD k []) (j + 1) = false → validB p = false) := fun k hk h => validB_row (show j < p.n from hlt) (rowB_conj hk h)
          have HG : Hid ((∀ k, k < (p.conj.getD j []).length → tailB p.orders ((p.conj.getD j []).getD k []) (j + 1) = true) → rowB p j = true) := fun h => rowB_of HT.out HL.out h
          generalize p.conj.getD j [] = cj at *
          go_wp2_with fail
          refine (i_tailVector _ _ p (p.P j) j _ PT hx2 HP.out hlt (by unfold Pres.n; omega)).mono ?_
          rintro e w' ⟨rfl, rfl⟩
          rw [HT.out]
          go_wp2_with fail
          clear t4 t4'
          go_loop [80] (fun i => ∃ k : Nat, k ≤ cj.length ∧ i = .int .i64 k ∧ (∀ t, t < k → tailB p.orders (cj.getD t []) (j + 1) = true)) (fun i => cj.length - (intOf i).toNat)
          case atStart => exact ⟨0, Nat.zero_le _, rfl, fun t ht => by omega⟩
          case round =>
            obtain ⟨k, hk, rfl, hall⟩ := hrel
            have HA2 := Lib.hid hall
            clear hall
            by_cases hk2 : k < cj.length
            · obtain ⟨b4, off4, x4, rfl, hc4, hx4⟩ := hx3.at hk2
              have HF2 := Lib.hid (HF.out k hk2)
              by_cases ht : tailB p.orders (cj.getD k []) (j + 1) = true
              · have HT2 := Lib.hid ht
                clear ht
                go_wp2_with fail
                refine (i_tailVector _ _ p _ j _ PT hx4 HP.out hlt (by unfold Pres.n; omega)).mono ?_
                rintro e w' ⟨rfl, rfl⟩
                rw [HT2.out]
                go_wp2_with fail
                go_round
                case rel => exact ⟨k + 1, by omega, by go_num, fun t ht => by
                  by_cases h : t = k
                  · subst h; exact HT2.out
                  · exact HA2.out t (by omega)⟩
                case measure => simp [intOf]; omega
              · have ht' : tailB p.orders (cj.getD k []) (j + 1) = false := by simpa using ht
                clear ht
                have HT2 := Lib.hid ht'
                clear ht'
                go_wp2_with fail
                refine (i_tailVector _ _ p _ j _ PT hx4 HP.out hlt (by unfold Pres.n; omega)).mono ?_
                rintro e w' ⟨rfl, rfl⟩
                rw [HT2.out]
                go_wp2_with fail
                go_ret
                exact ⟨ret_bool (HF2.out HT2.out).symm, g0⟩
            · obtain rfl : k = cj.length := by omega
              have HB := Lib.hid (HG.out HA2.out)
              go_wp2_with fail
              go_round
              case rel => exact ⟨j + 1, by omega, by go_num, fun t ht => by
                by_cases h : t = j
                · subst h; exact HB.out
                · exact HA.out t (by omega)⟩
              case measure => simp [intOf]; omega
        · obtain rfl : j = p.orders.length := by omega
          have HV : Hid (validB p = true) := validB_true.2 ⟨q1', Q2.out, Q3.out, HO.out, HA.out⟩
          go_wp2_with fail
          go_ret
          exact ⟨ret_bool HV.out.symm, g0⟩
end Go.Proofs.Ytiikoappknejgaa
