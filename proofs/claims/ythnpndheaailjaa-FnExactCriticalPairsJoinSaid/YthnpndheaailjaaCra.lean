/-
  Critical pairs: the words in order, and that each is reducible at 0 and at its second index (plain).
-/
import Derived.Test.YthnpndheaailjaaStp
namespace Go.Proofs.Ythnpndheaailjaa
set_option linter.unusedVariables false
set_option linter.unusedSimpArgs false
set_option maxRecDepth 100000
open Go.RowKit

--== plain
abbrev Itm := List Int × Nat
/-- word, left, right of an item -/
def pr3 (p : Pres) (it : Itm) : List (List Int) := [it.1, stepL p it.1 0, stepL p it.1 it.2]
def flC (p : Pres) (L : List Itm) : List (List Int) := L.flatMap (pr3 p)
theorem flC_snoc (p : Pres) (L : List Itm) (it : Itm) : flC p (L ++ [it]) = flC p L ++ pr3 p it := by simp [flC]
theorem flC_len (p : Pres) (L : List Itm) : (flC p L).length = L.length * 3 := by
  induction L with
  | nil => rfl
  | cons a L ih => rw [show flC p (a :: L) = pr3 p a ++ flC p L from rfl, List.length_append, ih, List.length_cons, Nat.succ_mul]; simp [pr3]; omega
/-- an item's word is positive, small, and reducible at both indices -/
structure CG (p : Pres) (it : Itm) : Prop where
  pos : PosW p.n it.1
  len : it.1.length ≤ 100
  at' : it.2 < it.1.length
  r0 : redB p.orders it.1 0 = true
  rt : redB p.orders it.1 it.2 = true
theorem CG.lt0 {p : Pres} {it : Itm} (h : CG p it) : 0 < it.1.length := by have := h.at'; omega
def itC (i j k : Nat) : Itm := ([(k : Int) + 1, (j : Int) + 1, (i : Int) + 1], 1)
def it2 (p : Pres) (i j : Nat) : Itm := (List.replicate (p.r j).toNat ((j : Int) + 1) ++ [(i : Int) + 1], (p.r j).toNat - 1)
def it3 (p : Pres) (i j : Nat) : Itm := (((j : Int) + 1) :: List.replicate (p.r i).toNat ((i : Int) + 1), 1)
def it4 (p : Pres) (i : Nat) : Itm := (List.replicate ((p.r i).toNat + 1) ((i : Int) + 1), 1)
theorem posW_of {n : Nat} {w : List Int} (h : ∀ l ∈ w, ∃ q : Nat, l = (q : Int) + 1 ∧ q < n) : PosW n w := fun j hj => h _ (getD_mem hj)
theorem redB_runR {p : Pres} (hV : ValidP p) {w : List Int} {t q : Nat} (hq : w.getD t 0 = (q : Int) + 1) (hqn : q < p.n) (ht : t ≤ w.length) (hr : t + (p.r q).toNat ≤ w.length) (hall : ∀ i, i < (p.r q).toNat → w.getD (t + i) 0 = (q : Int) + 1) : redB p.orders w t = true := by
  have h7 := hV.rk q hqn
  unfold redB
  rw [Bool.or_eq_true]
  refine .inr (decide_eq_true ?_)
  have h1 : (p.r q).toNat ≤ runL w t := (runL_ge ht).2 ⟨hr, fun i hi => by rw [hall i hi, hq]⟩
  rw [hq, show ((q : Int) + 1 - 1).toNat = q by omega]
  show p.r q ≤ _
  omega
theorem getD_rep {n : Nat} {x : Int} {i : Nat} (h : i < n) (l : List Int) : (List.replicate n x ++ l).getD i 0 = x := by
  rw [List.getD, List.getElem?_append_left (by simpa using h), List.getElem?_replicate, if_pos h]; rfl
theorem CG.c {p : Pres} {i j k : Nat} (hij : i < j) (hjk : j < k) (hk : k < p.n) : CG p (itC i j k) where
  pos := posW_of fun l hl => by
    simp only [itC, List.mem_cons, List.not_mem_nil, or_false] at hl
    rcases hl with rfl | rfl | rfl
    · exact ⟨k, rfl, hk⟩
    · exact ⟨j, rfl, by omega⟩
    · exact ⟨i, rfl, by omega⟩
  len := by simp [itC]
  at' := by simp [itC]
  r0 := redB_desc (by simp [itC]) (by simp [itC]; omega)
  rt := redB_desc (by simp [itC]) (by simp [itC]; omega)
theorem CG.two {p : Pres} (hV : ValidP p) {i j : Nat} (hij : i < j) (hj : j < p.n) : CG p (it2 p i j) where
  pos := posW_of fun l hl => by
    simp only [it2, List.mem_append, List.mem_replicate, List.mem_cons, List.not_mem_nil, or_false] at hl
    rcases hl with ⟨_, rfl⟩ | rfl
    · exact ⟨j, rfl, hj⟩
    · exact ⟨i, rfl, by omega⟩
  len := by have := hV.rk j hj; simp [it2]; omega
  at' := by have := hV.rk j hj; simp [it2]; omega
  r0 := by
    have := hV.rk j hj
    refine redB_runR hV (q := j) ?_ hj (Nat.zero_le _) (by simp [it2]) fun i hi => ?_
    · exact getD_rep (by omega) _
    · rw [Nat.zero_add]; exact getD_rep hi _
  rt := by
    have h7 := hV.rk j hj
    refine redB_desc (by simp [it2]; omega) ?_
    show (List.replicate (p.r j).toNat ((j : Int) + 1) ++ [(i : Int) + 1]).getD ((p.r j).toNat - 1 + 1) 0 < (List.replicate (p.r j).toNat ((j : Int) + 1) ++ [(i : Int) + 1]).getD ((p.r j).toNat - 1) 0
    have a1 : (List.replicate (p.r j).toNat ((j : Int) + 1) ++ [(i : Int) + 1]).getD ((p.r j).toNat - 1) 0 = (j : Int) + 1 := getD_rep (by omega) _
    rw [a1, List.getD, List.getElem?_append_right (by simp; omega)]
    simp only [List.length_replicate, show (p.r j).toNat - 1 + 1 - (p.r j).toNat = 0 by omega, List.getElem?_cons_zero, Option.getD_some]
    omega
theorem CG.three {p : Pres} (hV : ValidP p) {i j : Nat} (hij : i < j) (hj : j < p.n) : CG p (it3 p i j) where
  pos := posW_of fun l hl => by
    simp only [it3, List.mem_cons, List.mem_replicate] at hl
    rcases hl with rfl | ⟨_, rfl⟩
    · exact ⟨j, rfl, hj⟩
    · exact ⟨i, rfl, by omega⟩
  len := by have := hV.rk i (by omega); simp [it3]; omega
  at' := by have := hV.rk i (by omega); simp [it3]; omega
  r0 := by
    have h7 := hV.rk i (by omega)
    obtain ⟨m, hm⟩ : ∃ m, (p.r i).toNat = m + 1 := ⟨(p.r i).toNat - 1, by omega⟩
    refine redB_desc (by simp [it3]; omega) ?_
    show (((j : Int) + 1) :: List.replicate (p.r i).toNat ((i : Int) + 1)).getD (0 + 1) 0 < (((j : Int) + 1) :: List.replicate (p.r i).toNat ((i : Int) + 1)).getD 0 0
    rw [hm, List.replicate_succ]
    simp [List.getD]
    omega
  rt := by
    have h7 := hV.rk i (by omega)
    have e : ∀ t, t < (p.r i).toNat → (((j : Int) + 1) :: List.replicate (p.r i).toNat ((i : Int) + 1)).getD (1 + t) 0 = (i : Int) + 1 := fun t ht => by
      rw [Nat.add_comm, List.getD, List.getElem?_cons_succ, List.getElem?_replicate, if_pos ht]; rfl
    refine redB_runR hV (q := i) ?_ (by omega) (by simp [it3]) (by simp [it3]; omega) fun t ht => e t ht
    exact e 0 (by omega)
theorem CG.four {p : Pres} (hV : ValidP p) {i : Nat} (hi : i < p.n) : CG p (it4 p i) where
  pos := posW_of fun l hl => by
    simp only [it4, List.mem_replicate] at hl
    exact ⟨i, hl.2, hi⟩
  len := by have := hV.rk i hi; simp [it4]; omega
  at' := by have := hV.rk i hi; simp [it4]; omega
  r0 := by
    have h7 := hV.rk i hi
    have e : ∀ t, t < (p.r i).toNat + 1 → (it4 p i).1.getD t 0 = (i : Int) + 1 := fun t ht => by
      show (List.replicate _ _).getD t 0 = _
      rw [List.getD, List.getElem?_replicate, if_pos ht]; rfl
    exact redB_runR hV (q := i) (e 0 (by omega)) hi (Nat.zero_le _) (by simp [it4]) fun t ht => e _ (by omega)
  rt := by
    have h7 := hV.rk i hi
    have e : ∀ t, t < (p.r i).toNat + 1 → (it4 p i).1.getD t 0 = (i : Int) + 1 := fun t ht => by
      show (List.replicate _ _).getD t 0 = _
      rw [List.getD, List.getElem?_replicate, if_pos ht]; rfl
    exact redB_runR hV (q := i) (e 1 (by omega)) hi (by simp [it4]) (by simp [it4]; omega) fun t ht => e (1 + t) (by omega)
--== plain (the order of the words)
/-- the words of three letters: k of the innermost loop, m of the middle one, m of the outer one -/
def wC (i j k : Nat) : List Itm := (List.range k).map fun c => itC i j (j + 1 + c)
def wB (n i m : Nat) : List Itm := (List.range m).flatMap fun d => wC i (i + 1 + d) (n - (i + 1 + d + 1))
def wA (n m : Nat) : List Itm := (List.range m).flatMap fun i => wB n i (n - (i + 1))
def w2 (p : Pres) (i m : Nat) : List Itm := (List.range m).map fun d => it2 p i (i + 1 + d)
def w2A (p : Pres) (m : Nat) : List Itm := (List.range m).flatMap fun i => w2 p i (p.n - (i + 1))
def w3 (p : Pres) (i m : Nat) : List Itm := (List.range m).map fun d => it3 p i (i + 1 + d)
def w3A (p : Pres) (m : Nat) : List Itm := (List.range m).flatMap fun i => w3 p i (p.n - (i + 1))
def w4 (p : Pres) (m : Nat) : List Itm := (List.range m).map fun i => it4 p i
def cpL (p : Pres) : List Itm := wA p.n p.n ++ (w2A p p.n ++ (w3A p p.n ++ w4 p p.n))
theorem wC_succ (i j k : Nat) : wC i j (k + 1) = wC i j k ++ [itC i j (j + 1 + k)] := by simp [wC, List.range_succ]
theorem wB_succ (n i m : Nat) : wB n i (m + 1) = wB n i m ++ wC i (i + 1 + m) (n - (i + 1 + m + 1)) := by simp [wB, List.range_succ]
theorem wA_succ (n m : Nat) : wA n (m + 1) = wA n m ++ wB n m (n - (m + 1)) := by simp [wA, List.range_succ]
theorem w2_succ (p : Pres) (i m : Nat) : w2 p i (m + 1) = w2 p i m ++ [it2 p i (i + 1 + m)] := by simp [w2, List.range_succ]
theorem w2A_succ (p : Pres) (m : Nat) : w2A p (m + 1) = w2A p m ++ w2 p m (p.n - (m + 1)) := by simp [w2A, List.range_succ]
theorem w3_succ (p : Pres) (i m : Nat) : w3 p i (m + 1) = w3 p i m ++ [it3 p i (i + 1 + m)] := by simp [w3, List.range_succ]
theorem w3A_succ (p : Pres) (m : Nat) : w3A p (m + 1) = w3A p m ++ w3 p m (p.n - (m + 1)) := by simp [w3A, List.range_succ]
theorem w4_succ (p : Pres) (m : Nat) : w4 p (m + 1) = w4 p m ++ [it4 p m] := by simp [w4, List.range_succ]
theorem fm_len {α β : Type} (f : α → List β) (b : Nat) : ∀ l : List α, (∀ x ∈ l, (f x).length ≤ b) → (l.flatMap f).length ≤ l.length * b
  | [], _ => by simp
  | x :: l, h => by
    have h1 := fm_len f b l fun y hy => h y (List.mem_cons_of_mem _ hy)
    have h2 := h x (List.mem_cons_self)
    rw [List.flatMap_cons, List.length_append, List.length_cons, Nat.succ_mul]
    omega
theorem wC_len (i j k : Nat) : (wC i j k).length = k := by simp [wC]
theorem wB_len {n i m : Nat} (hn : n ≤ 6) (hm : m ≤ 6) : (wB n i m).length ≤ 36 := by
  have := fm_len (fun d => wC i (i + 1 + d) (n - (i + 1 + d + 1))) 6 (List.range m) fun d _ => by rw [wC_len]; omega
  unfold wB
  simp only [List.length_range] at this
  omega
theorem wA_len {n m : Nat} (hn : n ≤ 6) (hm : m ≤ 6) : (wA n m).length ≤ 216 := by
  have := fm_len (fun i => wB n i (n - (i + 1))) 36 (List.range m) fun d _ => wB_len hn (by omega)
  unfold wA
  simp only [List.length_range] at this
  omega
theorem w2_len (p : Pres) (i m : Nat) : (w2 p i m).length = m := by simp [w2]
theorem w3_len (p : Pres) (i m : Nat) : (w3 p i m).length = m := by simp [w3]
theorem w4_len (p : Pres) (m : Nat) : (w4 p m).length = m := by simp [w4]
theorem w2A_len {p : Pres} {m : Nat} (hn : p.n ≤ 6) (hm : m ≤ 6) : (w2A p m).length ≤ 36 := by
  have := fm_len (fun i => w2 p i (p.n - (i + 1))) 6 (List.range m) fun d _ => by rw [w2_len]; omega
  unfold w2A
  simp only [List.length_range] at this
  omega
theorem w3A_len {p : Pres} {m : Nat} (hn : p.n ≤ 6) (hm : m ≤ 6) : (w3A p m).length ≤ 36 := by
  have := fm_len (fun i => w3 p i (p.n - (i + 1))) 6 (List.range m) fun d _ => by rw [w3_len]; omega
  unfold w3A
  simp only [List.length_range] at this
  omega
theorem cpL_len {p : Pres} (hn : p.n ≤ 6) : (cpL p).length ≤ 300 := by
  unfold cpL
  simp only [List.length_append, w4_len]
  have := wA_len hn hn
  have := w2A_len (p := p) hn hn
  have := w3A_len (p := p) hn hn
  omega
theorem cpL_good {p : Pres} (hV : ValidP p) {it : Itm} (h : it ∈ cpL p) : CG p it := by
  unfold cpL at h
  simp only [List.mem_append] at h
  rcases h with h | h | h | h
  · unfold wA wB wC at h
    simp only [List.mem_flatMap, List.mem_map, List.mem_range] at h
    obtain ⟨i, hi, d, hd, c, hc, rfl⟩ := h
    exact CG.c (by omega) (by omega) (by omega)
  · unfold w2A w2 at h
    simp only [List.mem_flatMap, List.mem_map, List.mem_range] at h
    obtain ⟨i, hi, d, hd, rfl⟩ := h
    exact CG.two hV (by omega) (by omega)
  · unfold w3A w3 at h
    simp only [List.mem_flatMap, List.mem_map, List.mem_range] at h
    obtain ⟨i, hi, d, hd, rfl⟩ := h
    exact CG.three hV (by omega) (by omega)
  · unfold w4 at h
    simp only [List.mem_map, List.mem_range] at h
    obtain ⟨i, hi, rfl⟩ := h
    exact CG.four hV hi
--== end
end Go.Proofs.Ythnpndheaailjaa
