/-
  Words: is a list a word; its reduced form; its inverse.
  Words: the reduced form, the inverse, the codes.
  slices.Reverse in place.
  Words: the inverse, the codes of arguments, joins.
  Words: the exported functions; joins.
-/
import Derived.Test.YtnedihpppbjmdaaGreatDoorLeaf
import Derived.Lib.AppendZeros
namespace Go.Proofs.YtnedihpppbjmdaaGreatDoor
set_option linter.unusedVariables false
set_option linter.unusedSimpArgs false
set_option maxRecDepth 100000
open Go.RowKit

--== plain (WordsA)
/-- a letter over k generators -/
def letB (k l : Int) : Bool := (l != 0) && inB l (-k) k
/-- a word over k generators -/
def wordB (k : Int) (w : List Int) : Bool := w.all (letB k) && decide (w.length ≤ 64)

theorem all_take_succ (f : Int → Bool) (xs : List Int) (k : Nat) (h : k < xs.length) : (xs.take (k + 1)).all f = ((xs.take k).all f && f (xs.getD k 0)) := by
  rw [take_snoc xs k 0 h]; simp
theorem all_false_of (f : Int → Bool) (xs : List Int) (k : Nat) (h : k < xs.length) (hf : f (xs.getD k 0) = false) : xs.all f = false := by
  rw [List.all_eq_false]; exact ⟨_, getD_mem h, by rw [hf]; simp⟩
theorem letB_zero (k : Int) : letB k 0 = false := by simp [letB]
theorem letB_of {k l : Int} (h : l ≠ 0) : letB k l = inB l (-k) k := by simp [letB, h]

--== IsWord
def isWordB (k : Int) (w : List Int) : Bool := inB k 0 6 && wordB k w
--== plain (WordsB)
/-! ### the reduced form, as a fold -/
def redStep (out : List Int) (l : Int) : List Int := if out.getLast? = some (-l) then out.dropLast else out ++ [l]
def redW (xs : List Int) : List Int := xs.foldl redStep []
theorem redW_succ (xs : List Int) (k : Nat) (h : k < xs.length) : redW (xs.take (k + 1)) = redStep (redW (xs.take k)) (xs.getD k 0) := by
  rw [take_snoc xs k 0 h, redW, List.foldl_append]; rfl
theorem redStep_empty {out : List Int} (l : Int) (h : out.length = 0) : redStep out l = out ++ [l] := by
  have : out = [] := List.eq_nil_of_length_eq_zero h
  subst this; simp [redStep]
theorem getLast_getD {out : List Int} (h : 0 < out.length) : out.getLast? = some (out.getD (out.length - 1) 0) := by
  rw [List.getLast?_eq_getElem?, List.getElem?_eq_getElem (by omega)]
  simp [List.getD, show out.length - 1 < out.length by omega]
theorem redStep_pop {out : List Int} {l : Int} (h : 0 < out.length) (h2 : out.getD (out.length - 1) 0 = -l) : redStep out l = out.take (out.length - 1) := by
  unfold redStep
  rw [getLast_getD h, h2, if_pos rfl, List.dropLast_eq_take]
theorem redStep_push {out : List Int} {l : Int} (h : 0 < out.length) (h2 : out.getD (out.length - 1) 0 ≠ -l) : redStep out l = out ++ [l] := by
  unfold redStep
  rw [getLast_getD h, if_neg (by simpa using h2)]
theorem redStep_length (out : List Int) (l : Int) : (redStep out l).length ≤ out.length + 1 := by
  unfold redStep; split <;> simp
  omega
theorem redW_length (xs : List Int) : (redW xs).length ≤ xs.length := by
  suffices h : ∀ (xs out : List Int), (xs.foldl redStep out).length ≤ out.length + xs.length by simpa [redW] using h xs []
  intro xs
  induction xs with
  | nil => simp
  | cons x xs ih => intro out; have := ih (redStep out x); have := redStep_length out x; simp only [List.foldl_cons, List.length_cons]; omega

/-- numbers that can be negated -/
def Small (xs : List Int) : Prop := ∀ x ∈ xs, -1000000000 ≤ x ∧ x ≤ 1000000000
theorem Small.getD {xs : List Int} (h : Small xs) (j : Nat) (hj : j < xs.length) : -1000000000 ≤ xs.getD j 0 ∧ xs.getD j 0 ≤ 1000000000 := h _ (getD_mem hj)
theorem redW_small {xs : List Int} (h : Small xs) : Small (redW xs) := by
  suffices g : ∀ (ys out : List Int), Small ys → Small out → Small (ys.foldl redStep out) by
    exact g xs [] h fun x hx => by cases hx
  intro ys
  induction ys with
  | nil => intro out _ ho; exact ho
  | cons y ys ih =>
    intro out hy ho
    refine ih _ (fun x hx => hy x (List.mem_cons_of_mem _ hx)) fun x hx => ?_
    unfold redStep at hx
    split at hx
    · exact ho x (List.dropLast_subset _ hx)
    · rcases List.mem_append.1 hx with hx | hx
      · exact ho x hx
      · simp at hx; subst hx; exact hy x (List.mem_cons_self)

--== blocks that a call makes
/-- an empty slice that is not nil -/
theorem Ints.empty (w : World) : Ints (w.alloc (.cells #[] 2)) w.heap.size (.slice (some ⟨w.heap.size, 0, none⟩) 0 0) [] :=
  ⟨rfl, .inr ⟨w.heap.size, 0, #[], rfl, Nat.le_refl _, heap_alloc_new w _, Nat.le_refl _, by simp [maxLen], rfl, rfl⟩⟩
theorem below_alloc (w : World) (o : Obj) : Below w.heap.size w (w.alloc o) := (Below.refl _ _).alloc (Nat.le_refl _) o
--== plain (Rev)
def revTo (xs : List Int) (j : Nat) : List Int := (List.range xs.length).map fun t => if t < j ∨ xs.length ≤ t + j then xs.getD (xs.length - 1 - t) 0 else xs.getD t 0
theorem revTo_length (xs : List Int) (j : Nat) : (revTo xs j).length = xs.length := by simp [revTo]
theorem revTo_getD (xs : List Int) (j t : Nat) (h : t < xs.length) : (revTo xs j).getD t 0 = if t < j ∨ xs.length ≤ t + j then xs.getD (xs.length - 1 - t) 0 else xs.getD t 0 := by
  unfold revTo
  rw [List.getD_eq_getElem?_getD, List.getElem?_map, List.getElem?_range h]
  rfl
theorem ext_getD {xs ys : List Int} (hl : xs.length = ys.length) (h : ∀ j, j < xs.length → xs.getD j 0 = ys.getD j 0) : xs = ys := all_eq hl h
theorem getD_set (xs : List Int) (i t : Nat) (y : Int) (h : t < xs.length) : (xs.set i y).getD t 0 = if i = t then y else xs.getD t 0 := by
  rw [List.getD_eq_getElem?_getD, List.getElem?_set]
  by_cases e : i = t
  · subst e; simp [h]
  · simp [e, List.getD_eq_getElem?_getD]
theorem getD_reverse (xs : List Int) (t : Nat) (h : t < xs.length) : xs.reverse.getD t 0 = xs.getD (xs.length - 1 - t) 0 := by
  rw [List.getD_eq_getElem?_getD, List.getElem?_reverse h, List.getD_eq_getElem?_getD]
theorem revTo_zero (xs : List Int) : revTo xs 0 = xs := by
  refine ext_getD (revTo_length _ _) fun t ht => ?_
  rw [revTo_length] at ht
  rw [revTo_getD _ _ _ ht, if_neg (by omega)]
theorem revTo_end (xs : List Int) (j : Nat) (h : xs.length ≤ 2 * j + 1) : revTo xs j = xs.reverse := by
  refine ext_getD (by rw [revTo_length, List.length_reverse]) fun t ht => ?_
  rw [revTo_length] at ht
  rw [revTo_getD _ _ _ ht, getD_reverse _ _ ht]
  by_cases h1 : t < j ∨ xs.length ≤ t + j
  · rw [if_pos h1]
  · rw [if_neg h1]
    congr 1
    omega
theorem revTo_step (xs : List Int) (j : Nat) (h : 2 * j + 1 < xs.length) :
    ((revTo xs j).set j (xs.getD (xs.length - 1 - j) 0)).set (xs.length - 1 - j) (xs.getD j 0) = revTo xs (j + 1) := by
  refine ext_getD (by simp [revTo_length]) fun t ht => ?_
  rw [List.length_set, List.length_set, revTo_length] at ht
  rw [getD_set _ _ _ _ (by rw [List.length_set, revTo_length]; exact ht), getD_set _ _ _ _ (by rw [revTo_length]; exact ht), revTo_getD _ _ _ ht, revTo_getD _ _ _ ht]
  by_cases e1 : xs.length - 1 - j = t
  · rw [if_pos e1, if_pos (by omega)]
    congr 1; omega
  · rw [if_neg e1]
    by_cases e2 : j = t
    · rw [if_pos e2, if_pos (by omega), e2]
    · rw [if_neg e2]
      by_cases h1 : t < j ∨ xs.length ≤ t + j
      · rw [if_pos h1, if_pos (by omega)]
      · rw [if_neg h1, if_neg (by omega)]

--== slices.Reverse
set_option maxHeartbeats 1000000 in
theorem f_Reverse (B : Nat) (v : Value) (xs : List Int) (w : World) (hv : Ints w B v xs) (hs : xs.length ≤ 1000000000) :
    Calls Tryz.prog 45 #[v] w fun e w' => e = .returned (.tuple #[]) ∧ Ints w' B v xs.reverse ∧ Grew w w' v v ∧ w'.heap.size = w.heap.size := by
  obtain ⟨ao, cap, rfl, hc1, hc2, hA⟩ := hv.form'
  go_enter Tryz.func45, Tryz.ntmps45
  go_wp2
  go_loopw [2, 3] (fun i k wr => ∃ j : Nat, 2 * j ≤ xs.length ∧ i = .int .i64 j ∧ k = .int .i64 ((xs.length : Int) - 1 - j) ∧ Ints wr B (.slice ao xs.length cap) (revTo xs j) ∧ Grew w wr (.slice ao xs.length cap) (.slice ao xs.length cap) ∧ wr.heap.size = w.heap.size) (fun i _ _ => xs.length - (intOf i).toNat)
  case atStart => exact ⟨0, by omega, rfl, by go_num, by rw [revTo_zero]; exact hv, Grew.refl _ _, rfl⟩
  case round =>
    clear hv
    obtain ⟨j, hj, rfl, rfl, hI, hG, hS⟩ := hrel
    have hS' := Lib.hid hS
    clear hS
    by_cases hlt : 2 * j + 1 < xs.length
    · rcases hA with hA | ⟨g, rfl⟩
      · omega
      obtain ⟨hcell, hfz⟩ := hI.cell (revTo_length _ _).symm j (by omega)
      obtain ⟨hcell2, hfz2⟩ := hI.cell (revTo_length _ _).symm (xs.length - 1 - j) (by omega)
      rw [revTo_getD _ _ _ (by omega), if_neg (by omega)] at hcell hcell2
      obtain ⟨h1, h2⟩ := hI.set (revTo_length _ _).symm j (xs.getD (xs.length - 1 - j) 0)
      obtain ⟨h3, h4⟩ := h1.set (by rw [List.length_set, revTo_length]) (xs.length - 1 - j) (xs.getD j 0)
      rw [revTo_step xs j hlt] at h3
      have hG2 := hG.trans ((Grew.of_chg (n := xs.length) (c := cap) h2).trans (Grew.of_chg (n := xs.length) (c := cap) h4))
      clear hI h1 h2 h4 hG
      generalize xs.getD j 0 = x at *
      generalize xs.getD (xs.length - 1 - j) 0 = y at *
      have hlt' : (j : Int) < (xs.length : Int) - 1 - j := by omega
      go_wp2
      go_region
      go_wp2
      go_roundw
      case rel => exact ⟨j + 1, by omega, by go_num, by go_num, h3, ⟨⟨hG2.grown.os, hG2.grown.tape, hG2.grown.output, hG2.grown.size, hG2.grown.block⟩, hG2.moved⟩, by simpa using hS'.out⟩
      case measure => simp [intOf]; omega
    · rw [revTo_end xs j (by omega)] at hI
      have hge : ¬ ((j : Int) < (xs.length : Int) - 1 - j) := by omega
      go_wp2
      go_end0
      exact ⟨rfl, hI, hG, hS'.out⟩

--== plain (WordsC)
/-- The slice value v reads as the lists xss. -/
def Rd2 (w : World) (v : Value) (xss : List (List Int)) : Prop :=
  ∃ vs, RdV w v vs ∧ vs.length = xss.length ∧ ∀ i, i < xss.length → Rd w (vs.getD i undef) (xss.getD i [])

theorem Rd2.of_cells {w w' : World} {v : Value} {xss : List (List Int)} (h : Rd2 w v xss) (hc : ∀ a u, w.cell? a = some u → w'.cell? a = some u) : Rd2 w' v xss := by
  obtain ⟨vs, h1, h2, h3⟩ := h
  exact ⟨vs, h1.of_cells hc, h2, fun i hi => (h3 i hi).of_cells hc⟩
theorem Rd2.below {w w' : World} {v : Value} {xss : List (List Int)} (h : Rd2 w v xss) (hb : Below w.heap.size w w') : Rd2 w' v xss :=
  h.of_cells fun a _ ha => (hb.cell (World.block_lt_of_cell? w a ha)).trans ha

/-- The shape, for a walk: the value, and each row. -/
theorem Rd2.open {w : World} {v : Value} {xss : List (List Int)} (h : Rd2 w v xss) :
    ∃ ao cap, v = .slice ao xss.length cap ∧ xss.length ≤ cap ∧ cap ≤ 9223372036854775807 ∧
      (xss.length = 0 ∨ ∃ b off, ao = some ⟨b, off, none⟩ ∧ ∀ j, j < xss.length → ∃ r, w.cell? ⟨b, off + j, none⟩ = some r ∧ Rd w r (xss.getD j [])) := by
  obtain ⟨vs, ⟨ao, cap, hv, h1, h2, h0, h3⟩, hl, hr⟩ := h
  rw [hl] at hv h1 h3
  refine ⟨ao, cap, hv, h1, h2, ?_⟩
  rcases h3 with h3 | ⟨b, off, rfl, h3⟩
  · exact .inl h3
  · refine .inr ⟨b, off, rfl, fun j hj => ⟨vs.getD j undef, ?_, hr j hj⟩⟩
    rw [h3 j hj, List.getD, List.getElem?_eq_getElem (by omega)]; rfl

theorem below_cells {w w' : World} (hb : Below w.heap.size w w') : ∀ a u, w.cell? a = some u → w'.cell? a = some u :=
  fun a _ ha => (hb.cell (World.block_lt_of_cell? w a ha)).trans ha

/-- A list of lists that the call itself has laid. -/
theorem Rd2.lit {w : World} (t : TypeId) (vs : List Value) (xss : List (List Int)) (hl : vs.length = xss.length) (hm : vs.length ≤ 1000) (h : ∀ i, i < xss.length → Rd w (vs.getD i undef) (xss.getD i [])) :
    Rd2 (w.alloc (.cells vs.toArray t)) (.slice (some ⟨w.heap.size, 0, none⟩) vs.length vs.length) xss := by
  refine ⟨vs, ⟨_, vs.length, rfl, Nat.le_refl _, by omega, fun h => by (cases h), .inr ⟨w.heap.size, 0, rfl, fun j hj => ?_⟩⟩, hl, fun i hi => (h i hi).of_cells (below_cells (below_alloc w _))⟩
  rw [Nat.zero_add, World.cell?_alloc_new]
  simp
theorem Rd2.lit1 {w : World} (t : TypeId) (v : Value) (xs : List Int) (h : Rd w v xs) : Rd2 (w.alloc (.cells #[v] t)) (.slice (some ⟨w.heap.size, 0, none⟩) 1 1) [xs] :=
  Rd2.lit t [v] [xs] rfl (by simp) fun i hi => by
    obtain rfl : i = 0 := by simpa using hi
    exact h
theorem Rd2.lit2 {w : World} (t : TypeId) (v v' : Value) (xs ys : List Int) (h : Rd w v xs) (h' : Rd w v' ys) : Rd2 (w.alloc (.cells #[v, v'] t)) (.slice (some ⟨w.heap.size, 0, none⟩) 2 2) [xs, ys] :=
  Rd2.lit t [v, v'] [xs, ys] rfl (by simp) fun i hi => by
    match i, hi with
    | 0, _ => exact h
    | 1, _ => exact h'
    | i + 2, hi => simp at hi; omega
theorem Rd2.lit4 {w : World} (t : TypeId) (v v' v'' v3 : Value) (xs ys zs us : List Int) (h : Rd w v xs) (h' : Rd w v' ys) (h'' : Rd w v'' zs) (h3 : Rd w v3 us) : Rd2 (w.alloc (.cells #[v, v', v'', v3] t)) (.slice (some ⟨w.heap.size, 0, none⟩) 4 4) [xs, ys, zs, us] :=
  Rd2.lit t [v, v', v'', v3] [xs, ys, zs, us] rfl (by simp) fun i hi => by
    match i, hi with
    | 0, _ => exact h
    | 1, _ => exact h'
    | 2, _ => exact h''
    | 3, _ => exact h3
    | i + 4, hi => simp at hi; omega

/-! ### the inverse -/
def invW (xs : List Int) : List Int := (xs.map fun x => -x).reverse
theorem invW_length (xs : List Int) : (invW xs).length = xs.length := by simp [invW]
theorem neg_succ (xs : List Int) (k : Nat) (h : k < xs.length) : (xs.take (k + 1)).map (fun x => -x) = (xs.take k).map (fun x => -x) ++ [-(xs.getD k 0)] := by
  rw [take_snoc xs k 0 h]; simp
theorem invW_succ (xs : List Int) (k : Nat) (h : k < xs.length) : invW (xs.drop (xs.length - (k + 1))) = invW (xs.drop (xs.length - k)) ++ [-(xs.getD (xs.length - 1 - k) 0)] := by
  have e : xs.drop (xs.length - (k + 1)) = xs.getD (xs.length - 1 - k) 0 :: xs.drop (xs.length - k) := by
    rw [List.drop_eq_getElem_cons (by omega)]
    have h1 : xs.length - (k + 1) = xs.length - 1 - k := by omega
    have h2 : xs.length - (k + 1) + 1 = xs.length - k := by omega
    rw [h2]
    simp [List.getD, h1, show xs.length - 1 - k < xs.length by omega]
  rw [e]; simp [invW]
theorem invW_small {xs : List Int} (h : Small xs) : Small (invW xs) := by
  intro x hx
  simp only [invW, List.mem_reverse, List.mem_map] at hx
  obtain ⟨y, hy, rfl⟩ := hx
  have := h y hy
  omega

--== codes
def codeOf (k : Int) (ws : List (List Int)) : Int := if inB k 0 6 then (if ws.all (wordB k) then 0 else 1) else 2
theorem codeOf_out {k : Int} (ws : List (List Int)) (h : inB k 0 6 = false) : codeOf k ws = 2 := by simp [codeOf, h]
theorem codeOf_in {k : Int} (ws : List (List Int)) (h : inB k 0 6 = true) : codeOf k ws = if ws.all (wordB k) then 0 else 1 := by simp [codeOf, h]
theorem wordB_nil (k : Int) : wordB k [] = true := by simp [wordB]
theorem codeOf_nil (k : Int) (xs : List Int) : codeOf k [xs, []] = codeOf k [xs] := by simp [codeOf, wordB_nil]
theorem codeOf_zero {k : Int} {ws : List (List Int)} (h : codeOf k ws = 0) : (0 ≤ k ∧ k ≤ 6) ∧ ∀ x ∈ ws, wordB k x = true := by
  unfold codeOf at h
  split at h
  · rename_i hk
    refine ⟨inB_true.1 hk, ?_⟩
    split at h
    · rename_i ha; exact List.all_eq_true.1 ha
    · simp at h
  · simp at h
theorem wordB_small {k : Int} {xs : List Int} (hk : k ≤ 6) (h : wordB k xs = true) : Small xs ∧ xs.length ≤ 64 := by
  simp only [wordB, Bool.and_eq_true, decide_eq_true_eq, List.all_eq_true] at h
  refine ⟨fun x hx => ?_, h.2⟩
  have := h.1 x hx
  simp only [letB, Bool.and_eq_true] at this
  have := inB_true.1 this.2
  omega
--== short
def shortW (xs : List Int) : List Int := if xs.length ≤ 64 then xs else []
def codeS (xs : List Int) : Int := if xs.length ≤ 64 then 0 else 3
theorem codeS_in {xs : List Int} (h : xs.length ≤ 64) : codeS xs = 0 ∧ shortW xs = xs := by simp [codeS, shortW, h]
theorem codeS_out {xs : List Int} (h : ¬ xs.length ≤ 64) : codeS xs = 3 ∧ shortW xs = [] := by simp [codeS, shortW, h]
--== plain (WordsD)
def okW (c : Int) (r : List Int) : List Int := if c = 0 then r else []
theorem okW_zero {c : Int} {r : List Int} (h : c = 0) : okW c r = r := if_pos h
theorem okW_ne {c : Int} {r : List Int} (h : ¬ c = 0) : okW c r = [] := if_neg h
theorem below_allocd {w w' : World} {o : Obj} (h : Below (w.alloc o).heap.size (w.alloc o) w') : Below w.heap.size w w' := (below_alloc w o).trans (h.mono (by simp))
theorem Ints.allocd {w w' : World} {o : Obj} {v : Value} {xs : List Int} (h : Ints w' (w.alloc o).heap.size v xs) : Ints w' w.heap.size v xs := h.mono (by simp)
theorem wf_len {xs : List Int} (h : xs.length ≤ 64) : xs.length ≤ 100000000 := by omega

theorem okW_len {k : Int} {xs r : List Int} (h : r.length ≤ xs.length) : (okW (codeOf k [xs]) r).length ≤ 1000000000 := by
  by_cases hc : codeOf k [xs] = 0
  · obtain ⟨⟨_, h6⟩, hw⟩ := codeOf_zero hc
    have := (wordB_small h6 (hw xs (by simp))).2
    rw [okW_zero hc]; omega
  · rw [okW_ne hc]; simp
theorem len_ReduceWord (k : Int) (xs : List Int) : (okW (codeOf k [xs]) (redW xs)).length ≤ 1000000000 := okW_len (redW_length xs)
theorem len_InvertWord (k : Int) (xs : List Int) : (okW (codeOf k [xs]) (invW xs)).length ≤ 1000000000 := okW_len (Nat.le_of_eq (invW_length xs))

--== IsReducedWord
def isRedB (k : Int) (w : List Int) : Bool := isWordB k w && decide (redW w = w)
theorem redW_fix (xs : List Int) : redW xs = xs ↔ (redW xs).length = xs.length := by
  constructor
  · intro h; rw [h]
  · intro h
    -- a fold that never gets shorter only ever appends
    suffices g : ∀ (ys out : List Int), (ys.foldl redStep out).length = out.length + ys.length → ys.foldl redStep out = out ++ ys by
      simpa [redW] using g xs [] (by simpa [redW] using h)
    intro ys
    induction ys with
    | nil => intro out _; simp
    | cons y ys ih =>
      intro out ho
      have hle : ∀ (zs o : List Int), (zs.foldl redStep o).length ≤ o.length + zs.length := by
        intro zs
        induction zs with
        | nil => simp
        | cons z zs ih => intro o; have := ih (redStep o z); have := redStep_length o z; simp only [List.foldl_cons, List.length_cons]; omega
      simp only [List.foldl_cons, List.length_cons] at ho ⊢
      have h1 := hle ys (redStep out y)
      have h2 := redStep_length out y
      have h3 : redStep out y = out ++ [y] := by
        unfold redStep
        split
        · rename_i hq
          exfalso
          have : (redStep out y).length ≤ out.length := by unfold redStep; rw [if_pos hq]; simp
          omega
        · rfl
      rw [h3] at ho h1 ⊢
      rw [ih (out ++ [y]) (by simp at ho ⊢; omega)]
      simp
theorem isRedB_no {k : Int} {w : List Int} (h : isWordB k w = false) : isRedB k w = false := by simp [isRedB, h]
theorem isWordB_in {k : Int} {w : List Int} (h : isWordB k w = true) : (0 ≤ k ∧ k ≤ 6) ∧ wordB k w = true ∧ Small w ∧ w.length ≤ 64 := by
  simp only [isWordB, Bool.and_eq_true] at h
  have hk := inB_true.1 h.1
  exact ⟨hk, h.2, wordB_small hk.2 h.2⟩
--== end
end Go.Proofs.YtnedihpppbjmdaaGreatDoor
