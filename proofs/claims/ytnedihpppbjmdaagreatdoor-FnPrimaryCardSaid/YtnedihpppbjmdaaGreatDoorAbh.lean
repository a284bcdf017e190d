/-
  The reference's factors of a product of cyclic groups; what is no group is told.
-/
import Derived.Test.YtnedihpppbjmdaaGreatDoorAbd
import Derived.Test.YtnedihpppbjmdaaGreatDoorAbf
import Derived.Test.YtnedihpppbjmdaaGreatDoorPrc
namespace Go.Proofs.YtnedihpppbjmdaaGreatDoor
set_option linter.unusedVariables false
set_option linter.unusedSimpArgs false
set_option maxRecDepth 100000
open Go.RowKit

/-- a call that hands back a group and a code -/
def RetAb (w : World) (O : List Nat → Int → Int → Prop) (e : Ending) (w' : World) : Prop := ∃ v fs r k, e = .returned (.tuple #[.agg #[v, .int .i64 r], .int .i64 k]) ∧ Ints w' w.heap.size v (nI fs) ∧ O fs r k ∧ Below w.heap.size w w'
/-- the group, unless it is too large -/
def MadeO (fs0 : List Nat) (r0 : Int) (fs : List Nat) (r k : Int) : Prop := (abP fs0 r0 ∧ fs = fs0 ∧ r = r0 ∧ k = 0) ∨ (¬ abP fs0 r0 ∧ fs = [] ∧ r = 0 ∧ k = 3)
/-- a call that hands back the group that it was given, or none -/
def RetMade (w : World) (v0 : Value) (fs0 : List Nat) (r0 : Int) (e : Ending) (w' : World) : Prop := ∃ v fs r k, e = .returned (.tuple #[.agg #[v, .int .i64 r], .int .i64 k]) ∧ ((v = v0 ∧ fs = fs0) ∨ (v = .slice none 0 0 ∧ fs = [])) ∧ MadeO fs0 r0 fs r k ∧ Below w.heap.size w w'
/-- the product of cyclic groups of orders S, and a rank -/
def SumO (S : List Nat) (r0 : Int) (fs : List Nat) (r k : Int) : Prop := (okU (colS S) ∧ abP (colS S).reverse r0 ∧ fs = (colS S).reverse ∧ r = r0 ∧ k = 0) ∨ (¬ (okU (colS S) ∧ abP (colS S).reverse r0) ∧ fs = [] ∧ r = 0 ∧ k = 3)
theorem sum_made {S fs : List Nat} {r0 r k : Int} (h : okU (colS S)) (hm : MadeO (colS S).reverse r0 fs r k) : SumO S r0 fs r k := by
  rcases hm with ⟨a, b, c, d⟩ | ⟨a, b, c, d⟩
  · exact .inl ⟨h, a, b, c, d⟩
  · exact .inr ⟨fun hh => a hh.2, b, c, d⟩
theorem sum_lim {S : List Nat} {r0 : Int} (h : ¬ okU (colS S)) : SumO S r0 [] 0 3 := .inr ⟨fun hh => h hh.1, rfl, rfl, rfl⟩
theorem SumO.uniq {S fs fs' : List Nat} {r0 r r' k k' : Int} (h : SumO S r0 fs r k) (h' : SumO S r0 fs' r' k') : fs = fs' ∧ r = r' ∧ k = k' := by
  rcases h with ⟨a, b, c, d, e⟩ | ⟨a, b, c, d⟩ <;> rcases h' with ⟨a', b', c', d', e'⟩ | ⟨a', b', c', d'⟩
  · exact ⟨c.trans c'.symm, d.trans d'.symm, e.trans e'.symm⟩
  · exact (a' ⟨a, b⟩).elim
  · exact (a ⟨a', b'⟩).elim
  · exact ⟨b.trans b'.symm, c.trans c'.symm, d.trans d'.symm⟩
theorem fromF_nil (k : Nat) (acc : List Nat) : fromF k [] acc = some acc := by cases k <;> simp [fromF]
theorem fromF_some {k : Nat} {T acc r : List Nat} {p : Nat} (hT : T ≠ []) (h : rndF T 1 [] = some (p, r)) : fromF (k + 1) T acc = fromF k r (p :: acc) := by rw [fromF, if_neg hT, h]
theorem fromF_none {k : Nat} {T acc : List Nat} (hT : T ≠ []) (h : rndF T 1 [] = none) : fromF (k + 1) T acc = none := by rw [fromF, if_neg hT, h]
theorem split_drop {xs : List Nat} {i : Nat} (h : i < xs.length) : xs.drop i = xs.getD i 0 :: xs.drop (i + 1) := by
  rw [List.drop_eq_getElem_cons h, List.getD_eq_getElem?_getD, List.getElem?_eq_getElem h]; rfl
theorem rnd_same {T : List Nat} {i pr : Nat} {rs : List Nat} (h : i + 1 < T.length) (hb : bs (T.getD i 0) = bs (T.getD (i + 1) 0)) : rndF (T.drop i) pr rs = rndF (T.drop (i + 1)) pr (rs ++ [T.getD i 0]) := by
  have e1 := split_drop (xs := T) (i := i) (by omega)
  have e2 := split_drop (xs := T) (i := i + 1) h
  rw [e1, e2, rndF, if_pos hb]
theorem rnd_last {T : List Nat} {i pr : Nat} {rs : List Nat} (h : i < T.length) (hb : i + 1 < T.length → bs (T.getD i 0) ≠ bs (T.getD (i + 1) 0)) :
    rndF (T.drop i) pr rs = if 1000000 / pr < T.getD i 0 then none else rndF (T.drop (i + 1)) (pr * T.getD i 0) rs := by
  rw [split_drop h]
  by_cases h2 : i + 1 < T.length
  · rw [split_drop h2, rndF, if_neg (hb h2)]
  · rw [List.drop_eq_nil_of_le (by omega)]; simp [rndF]
theorem Ints.litA (w : World) (a : Int) : Ints (w.alloc (.cells #[.int .i64 a] 2)) w.heap.size (.slice (some ⟨w.heap.size, 0, none⟩) 1 1) [a] :=
  ⟨by simp, .inr ⟨w.heap.size, 1, #[.int .i64 a], rfl, Nat.le_refl _, heap_alloc_new w _, Nat.le_refl _, by unfold maxLen; omega, by simp, by simp⟩⟩
--== boxes
/-- block b is a box of a group -/
def B2 (w : World) (b : Nat) (v1 v2 : Value) : Prop := w.heap[b]? = some (.cells #[v1, v2] 26 (0, 0))
theorem B2.new (w : World) (v1 v2 : Value) : B2 (w.alloc (.cells #[v1, v2] 26)) w.heap.size v1 v2 := heap_alloc_new w _
theorem B2.lt {w : World} {b : Nat} {v1 v2 : Value} (h : B2 w b v1 v2) : b < w.heap.size := (Array.getElem?_eq_some_iff.1 h).1
theorem B2.below {w w' : World} {B b : Nat} {v1 v2 : Value} (h : B2 w b v1 v2) (hb : Below B w w') (hB : b < B) : B2 w' b v1 v2 := (hb.block b hB).trans h
theorem B2.c0 {w : World} {b : Nat} {v1 v2 : Value} (h : B2 w b v1 v2) : w.cell? ⟨b, 0, none⟩ = some v1 := by unfold B2 at h; simp [World.cell?, h]
theorem B2.c1 {w : World} {b : Nat} {v1 v2 : Value} (h : B2 w b v1 v2) : w.cell? ⟨b, 1, none⟩ = some v2 := by unfold B2 at h; simp [World.cell?, h]
theorem B2.f {w : World} {b : Nat} {v1 v2 : Value} (h : B2 w b v1 v2) (o : Nat) : w.frozen? ⟨b, o, none⟩ = false := by unfold B2 at h; simp [World.frozen?, h]
theorem B2.alloc {w : World} {b : Nat} {v1 v2 : Value} (h : B2 w b v1 v2) (o : Obj) : B2 (w.alloc o) b v1 v2 := h.below (below_alloc w o) h.lt
theorem chg_set2 (w : World) (b : Nat) (x y : Value) : Chg b (b + 1) w ((w.setCell ⟨b, 0, none⟩ x).setCell ⟨b, 1, none⟩ y) :=
  ⟨rfl, rfl, rfl, Nat.le_of_eq (by simp), fun k _ hk => by rw [heap_setCell_other _ _ _ _ (by show k ≠ b; omega), heap_setCell_other _ _ _ _ (by show k ≠ b; omega)]⟩
theorem below_set2 {w w' : World} {b : Nat} (h : Below w.heap.size w w') (hb : w.heap.size ≤ b) (x y : Value) : Below w.heap.size w ((w'.setCell ⟨b, 0, none⟩ x).setCell ⟨b, 1, none⟩ y) :=
  ⟨h.os, h.tape, h.output, by simpa using h.size, fun k hk => by
    rw [heap_setCell_other _ _ _ _ (by show k ≠ b; omega), heap_setCell_other _ _ _ _ (by show k ≠ b; omega)]; exact h.block k hk⟩
theorem B2.set {w : World} {b : Nat} {v1 v2 : Value} (h : B2 w b v1 v2) (x y : Value) : B2 ((w.setCell ⟨b, 0, none⟩ x).setCell ⟨b, 1, none⟩ y) b x y := by
  have h1 := heap_setCell_same w b 0 #[v1, v2] _ x h
  have h2 := heap_setCell_same (w.setCell ⟨b, 0, none⟩ x) b 1 _ _ y h1
  unfold B2
  rw [h2]
  simp
