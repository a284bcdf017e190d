/-
  slices.SortFunc over prime powers, slices.Sort and slices.Reverse over numbers, at slices that the call owns.
-/
import Derived.Test.YtnedihpppbjmdaaGreatDoorCma
import Derived.Test.YtnedihpppbjmdaaGreatDoorAbb
import Derived.Test.YtnedihpppbjmdaaGreatDoorShf
import Derived.Sort.OwnSortedInts
namespace Go.Proofs.YtnedihpppbjmdaaGreatDoor
set_option linter.unusedVariables false
set_option linter.unusedSimpArgs false
set_option maxRecDepth 100000
open Go.RowKit Go.Sort

/-- a call that orders a slice in place -/
def RetRow (w : World) (B : Nat) (v : Value) (ys : List Int) (e : Ending) (w' : World) : Prop := e = .returned (.tuple #[]) ∧ Ints w' B v ys ∧ w.grownBy w' v.ownBlock
theorem row_of {w : World} {B g cap k n : Nat} {os : Array Obj} {xs ys : List Int} (hn : n = xs.length) (h : Ints w B (.slice (some ⟨g, 0, none⟩) n cap) xs) (hl : ys.length = xs.length) :
    Ints (grow (putRow (Value.int .i64) (Sort.ahead w k) g 0 ys.toArray) os) B (.slice (some ⟨g, 0, none⟩) n cap) ys ∧ w.grownBy (grow (putRow (Value.int .i64) (Sort.ahead w k) g 0 ys.toArray) os) (Value.slice (some ⟨g, 0, none⟩) n cap).ownBlock := by
  subst hn
  refine ⟨?_, grownBy_sortedI _⟩
  rcases h.2 with ⟨h0, _⟩ | ⟨g', cap', cur, hv, hg, hb, h1, h2, h3, _⟩
  · cases h0
  · cases hv
    have := ownsRow_sortedI (os := os) (n := k) hl hg hb h1 h2 h3
    unfold Ints
    rw [← hl] at this ⊢
    exact this
theorem holds_of {w : World} {B g cap n : Nat} {xs : List Int} (h : Ints w B (.slice (some ⟨g, 0, none⟩) n cap) xs) : Holds (Value.int .i64) w g 0 xs.toArray := by
  rcases h.2 with ⟨h0, _⟩ | ⟨g', cap', cur, hv, hg, hb, h1, h2, h3, h4⟩
  · cases h0
  · cases hv
    rw [Nat.mul_one] at h4
    exact holds_of_blockI hb h4
theorem putRow_map {α : Type} [Inhabited α] (f : α → Int) (enc : α → Value) (he : ∀ x, enc x = .int .i64 (f x)) (w : World) (g : Nat) (d : Array α) : putRow enc w g 0 d = putRow (Value.int .i64) w g 0 (d.map f) := by
  unfold putRow
  congr 1
  funext c
  unfold putCells
  congr 1
  funext k x
  simp only [Array.size_map]
  split
  · next h =>
    rw [he]
    have hk : k - 0 < d.size := by omega
    rw [getElem!_pos d (k - 0) hk, getElem!_pos (d.map f) (k - 0) (by simpa using hk), Array.getElem_map]
  · rfl
/-- the form of an owned slice that is not empty -/
theorem Ints.nz {w : World} {B : Nat} {v : Value} {xs : List Int} (h : Ints w B v xs) (hx : xs ≠ []) : ∃ g cap, v = .slice (some ⟨g, 0, none⟩) xs.length cap ∧ g < w.heap.size := by
  rcases h.2 with ⟨rfl, hl⟩ | ⟨g, cap, cur, hv, hg, hb, _⟩
  · exact (hx (List.eq_nil_of_length_eq_zero hl)).elim
  · exact ⟨g, cap, hv, (Array.getElem?_eq_some_iff.1 hb).1⟩
theorem Ints.z {w : World} {B : Nat} {v : Value} (h : Ints w B v []) : ∃ a cap, v = .slice a 0 cap := by
  obtain ⟨ao, cap, he, _⟩ := h.form; exact ⟨ao, cap, he⟩
--== slices.Reverse
theorem f_RevO {w : World} {B : Nat} {v : Value} {xs : List Int} (h : Ints w B v xs) (hn : xs.length ≤ 1000000) : Calls Tryz.prog 45 #[v] w (RetRow w B v xs.reverse) := by
  by_cases hx : xs = []
  · subst hx
    obtain ⟨a, cap, rfl⟩ := h.z
    exact (Tryz.slices_Reverse_int_empty a cap w).mono fun e w' ⟨he, hw⟩ => by subst hw; exact ⟨he, h, World.grownBy.refl _ _⟩
  · obtain ⟨g, cap, rfl, hg⟩ := h.nz hx
    exact (Tryz.slices_Reverse_int g 0 cap xs w (holds_of h) (by omega)).mono fun e w' ⟨he, k, hw⟩ => by
      subst hw
      have := row_of (k := k) (os := #[]) rfl h (ys := xs.reverse) (by simp)
      rw [grow_empty] at this
      exact ⟨he, this⟩
--== slices.Sort
def RetUp (w : World) (B : Nat) (v : Value) (xs : List Nat) (e : Ending) (w' : World) : Prop := ∃ ys : List Nat, ys.Perm xs ∧ ys.Pairwise (· ≤ ·) ∧ RetRow w B v (nI ys) e w'
theorem nI_toNat (zs : List Int) (xs : List Nat) (h : zs.Perm (nI xs)) : zs = nI (zs.map Int.toNat) ∧ (zs.map Int.toNat).Perm xs := by
  have h1 : ∀ z ∈ zs, 0 ≤ z := fun z hz => by
    obtain ⟨x, _, rfl⟩ := List.mem_map.1 (h.mem_iff.1 hz); exact Int.natCast_nonneg _
  constructor
  · unfold nI
    rw [List.map_map]
    conv => lhs; rw [← List.map_id zs]
    apply List.map_congr_left
    intro z hz
    have := h1 z hz
    simp [Function.comp]; omega
  · have h2 := h.map Int.toNat
    have h3 : (nI xs).map Int.toNat = xs := by
      unfold nI
      rw [List.map_map]
      conv => rhs; rw [← List.map_id xs]
      apply List.map_congr_left
      intro x _
      simp [Function.comp]
    rwa [h3] at h2
theorem f_Sort {w : World} {B : Nat} {v : Value} {xs : List Nat} (h : Ints w B v (nI xs)) (hn : xs.length ≤ 1000000) : Calls Tryz.prog 44 #[v] w (RetUp w B v xs) := by
  by_cases hx : xs = []
  · subst hx
    obtain ⟨a, cap, rfl⟩ := Ints.z h
    exact (Tryz.slices_Sort_int_none a cap w).mono fun e w' ⟨he, hw⟩ => by subst hw; exact ⟨[], List.Perm.refl _, List.Pairwise.nil, he, h, World.grownBy.refl _ _⟩
  · obtain ⟨g, cap, rfl, hg⟩ := h.nz (by simpa [nI] using hx)
    exact (Tryz.slices_Sort_int g 0 cap (nI xs) w (holds_of h) hg (by rw [nI_length]; omega)).mono fun e w' ⟨he, k, os, hw⟩ => by
      subst hw
      have hp := List.mergeSort_perm (nI xs) (fun x y => decide (x ≤ y))
      have hs := List.pairwise_mergeSort (le := fun (x y : Int) => decide (x ≤ y)) (fun a b c h1 h2 => by simp at *; omega) (fun a b => by simp; omega) (nI xs)
      generalize (nI xs).mergeSort (fun x y => decide (x ≤ y)) = zs at *
      obtain ⟨e1, e2⟩ := nI_toNat zs xs hp
      have hr := row_of (k := k) (os := os) rfl h (ys := zs) hp.length_eq
      refine ⟨zs.map Int.toNat, e2, ?_, he, e1 ▸ hr.1, hr.2⟩
      rw [List.pairwise_map]
      exact hs.imp fun h => by simp at h; omega
--== slices.SortFunc
/-- a prime power, as the sort takes it -/
structure PPQ where
  val : Nat
  ok : PPw val
instance : Inhabited PPQ := ⟨⟨2, ppw2⟩⟩
def encQ (x : PPQ) : Value := .int .i64 (x.val : Int)
def cfQ (x y : PPQ) : Int := cfP x.val y.val
theorem ltQ (x y : PPQ) : ltOf cfQ x y = bef x.val y.val := cfP_lt x.val y.val
theorem swoQ : SWO (ltOf cfQ) where
  irrefl x := by rw [ltQ]; exact bef_irrefl _
  trans x y z h1 h2 := by rw [ltQ] at *; exact bef_trans h1 h2
  ntrans x y z h1 h2 := by rw [ltQ] at *; exact bef_ntrans h1 h2
theorem totQ (x y : PPQ) (h1 : ltOf cfQ x y = false) (h2 : ltOf cfQ y x = false) : x = y := by
  rw [ltQ] at *
  cases x; cases y
  congr 1
  exact bef_total h1 h2
theorem cmpQ (blk off size : Nat) (w : World) : CmpLays1 Tryz.prog 32 #[] encQ cfQ blk off size w := by
  intro m os dk hs x y
  exact (i_less x.val y.val x.ok y.ok _).mono fun e w' ⟨he, hb⟩ => ⟨he, grow_of_below hb.1 hb.2⟩
def toQ (xs : List Nat) (h : ∀ q ∈ xs, PPw q) : List PPQ := xs.attach.map fun x => ⟨x.1, h x.1 x.2⟩
theorem toQ_val (xs : List Nat) (h : ∀ q ∈ xs, PPw q) : (toQ xs h).map (fun x => (x.val : Int)) = nI xs := by
  unfold toQ nI
  rw [List.map_map]
  conv => rhs; rw [← List.attach_map_subtype_val xs, List.map_map]
  rfl
theorem toQ_val' (xs : List Nat) (h : ∀ q ∈ xs, PPw q) : (toQ xs h).map PPQ.val = xs := by
  unfold toQ
  rw [List.map_map]
  exact List.attach_map_subtype_val xs
theorem f_SortFunc {w : World} {B : Nat} {v : Value} {xs : List Nat} (h : Ints w B v (nI xs)) (hq : ∀ q ∈ xs, PPw q) (hn : xs.length ≤ 1000000) :
    Calls Tryz.prog 31 #[v, .func (.func 32) #[] #[]] w (RetRow w B v (nI (sortP xs))) := by
  by_cases hx : xs = []
  · subst hx
    obtain ⟨a, cap, rfl⟩ := Ints.z h
    have e : sortP [] = [] := by simp [sortP]
    rw [e]
    exact (Tryz.slices_SortFunc_none (α := PPQ) a cap _ w).mono fun e w' ⟨he, hw⟩ => by subst hw; exact ⟨he, h, World.grownBy.refl _ _⟩
  · obtain ⟨g, cap, rfl, hg⟩ := h.nz (by simpa [nI] using hx)
    have hd : (toQ xs hq).toArray.size = (nI xs).length := by simp [toQ, nI]
    have hmap : (toQ xs hq).toArray.map (fun x => (x.val : Int)) = (nI xs).toArray := by rw [← toQ_val xs hq]; simp
    have hH : Holds encQ w g 0 (toQ xs hq).toArray := by
      intro j hj
      have hj2 : j < (nI xs).toArray.size := by simpa [hd] using hj
      have h1 := holds_of h j hj2
      have e1 : encQ (toQ xs hq).toArray[j]! = Value.int .i64 (nI xs).toArray[j]! := by
        rw [getElem!_pos _ j hj, getElem!_pos _ j hj2]
        have : (nI xs).toArray[j] = ((toQ xs hq).toArray.map (fun x => (x.val : Int)))[j]'(by simpa using hj) := by simp only [hmap]
        rw [this, Array.getElem_map]; rfl
      rw [e1]; exact h1
    have eg : ∀ args w, (callFunc 32 args).run Tryz.prog w = .ok (.enter 32 args) w := enters_of Tryz.func32 (by kernel_rfl) rfl
    have hcon := Tryz.slices_SortFunc_total encQ (fun _ => rfl) cfQ swoQ 32 #[] g 0 cap (toQ xs hq).toArray w eg (cmpQ g 0 _ w) hH hg (by rw [hd, nI_length]; omega) totQ
    rw [hd] at hcon
    refine hcon.mono ?_
    rintro e w' ⟨he, k, os, hw⟩
    subst hw
    have hp := List.mergeSort_perm (toQ xs hq) (fun x y => !(ltOf cfQ) y x)
    have hs := List.pairwise_mergeSort (le := fun x y => !(ltOf cfQ) y x) (fun a b c h1 h2 => by simp at *; exact swoQ.ntrans _ _ _ h2 h1) (fun a b => by
      simp only [ltQ]
      cases h : bef b.val a.val
      · simp
      · simp [bef_asymm h]) (toQ xs hq)
    have e2 : (toQ xs hq).toArray.toList = toQ xs hq := by simp
    rw [e2]
    generalize (toQ xs hq).mergeSort (fun x y => !(ltOf cfQ) y x) = zs at *
    have hz : zs.map PPQ.val = sortP xs := by
      refine sortP_uniq ?_ ?_
      · have := hp.map PPQ.val
        rwa [toQ_val'] at this
      · unfold SortedP
        rw [List.pairwise_map]
        exact hs.imp fun h => by rw [ltQ] at h; simpa using h
    have hz2 : zs.map (fun x => (x.val : Int)) = nI (sortP xs) := by rw [← hz]; unfold nI; rw [List.map_map]; rfl
    unfold sortWorld
    rw [putRow_map (fun x : PPQ => (x.val : Int)) encQ (fun _ => rfl), List.map_toArray, hz2]
    exact ⟨he, row_of rfl h (by rw [nI_length, nI_length]; exact (sortP_perm xs).length_eq)⟩
end Go.Proofs.YtnedihpppbjmdaaGreatDoor
