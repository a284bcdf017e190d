/-
  The parts of a presentation's text, and what they read as (plain).
-/
import Derived.Test.YtgcmhkihonadmaaGreatDoorPpa
import Derived.Test.YtgcmhkihonadmaaGreatDoorPtx
namespace Go.Proofs.YtgcmhkihonadmaaGreatDoor
set_option linter.unusedVariables false
set_option linter.unusedSimpArgs false
set_option maxRecDepth 100000
open Go.RowKit Go.PlainAid

--== vectors of words
theorem rep_vec (k i : Nat) : ∀ (e : List Int), i < e.length → (List.replicate k ((i : Int) + 1)).foldl vecS e = e.set i (e.getD i 0 + k) := by
  induction k with
  | zero =>
    intro e h
    apply List.ext_getElem
    · simp
    · intro t h1 h2
      rw [List.getElem_set]
      by_cases ht : i = t
      · subst ht; rw [if_pos rfl]; simp [h]
      · rw [if_neg ht]; rfl
  | succ k ih =>
    intro e h
    have e1 : vecS e ((i : Int) + 1) = e.set i (e.getD i 0 + 1) := by unfold vecS; rw [show ((i : Int) + 1 - 1).toNat = i by omega]
    rw [List.replicate_succ, List.foldl_cons, e1, ih _ (by simpa using h), gset_selfI _ _ _ h, List.set_set]
    congr 1
    omega
theorem vecL_nwTo {v : List Int} (h : ∀ j, j < v.length → 0 ≤ v.getD j 0) (i : Nat) (hi : i ≤ v.length) : vecL v.length (nwTo v i) = v.take i ++ List.replicate (v.length - i) 0 := by
  induction i with
  | zero => simp [nwTo_zero, vecL]
  | succ i ih =>
    have h1 := h i (by omega)
    have ih' := ih (by omega)
    rw [nwTo_succ v i (v.getD i 0).toNat (by omega)]
    have e : vecL v.length (nwTo v i ++ List.replicate (v.getD i 0).toNat ((i : Int) + 1)) = (List.replicate (v.getD i 0).toNat ((i : Int) + 1)).foldl vecS (vecL v.length (nwTo v i)) := List.foldl_append
    rw [e, rep_vec _ _ _ (by rw [vecL_len]; omega), ih']
    apply List.ext_getElem
    · simp; omega
    · intro t h2 h3
      have ht : t < v.length := by have := h3; simp at this; omega
      rw [List.getElem_set]
      by_cases hti : i = t
      · subst hti
        rw [if_pos rfl]
        have e0 : (v.take i ++ List.replicate (v.length - i) (0 : Int)).getD i 0 = 0 := by
          rw [List.getD_eq_getElem?_getD, List.getElem?_append_right (by simp; omega)]
          simp [List.getElem?_replicate]
          split <;> rfl
        rw [e0, List.getElem_append_left (by simp; omega)]
        simp only [List.getElem_take]
        have : v.getD i 0 = v[i] := by rw [List.getD_eq_getElem?_getD, List.getElem?_eq_getElem ht]; rfl
        omega
      · rw [if_neg hti]
        by_cases hlt : t < i
        · rw [List.getElem_append_left (by simp; omega), List.getElem_append_left (by simp; omega)]
          simp
        · rw [List.getElem_append_right (by simp; omega), List.getElem_append_right (by simp; omega)]
          simp
theorem vecL_nw {v : List Int} {n : Nat} (hn : v.length = n) (h : ∀ j, j < v.length → 0 ≤ v.getD j 0) : vecL n (nwL v) = v := by
  subst hn
  rw [← nwTo_all, vecL_nwTo h _ (Nat.le_refl _), Nat.sub_self, List.take_length, List.replicate_zero, List.append_nil]
theorem nwTo_len7 {xs : List Int} (h : ∀ j, j < xs.length → 0 ≤ xs.getD j 0 ∧ xs.getD j 0 ≤ 6) (i : Nat) (hi : i ≤ xs.length) : (nwTo xs i).length ≤ 6 * i := by
  induction i with
  | zero => simp [nwTo]
  | succ i ih =>
    have h1 := h i (by omega)
    rw [nwTo_succ xs i (xs.getD i 0).toNat (by omega), List.length_append, List.length_replicate]
    have := ih (by omega)
    omega
/-- the exponents of a relation of a valid presentation: its word is a word of its letters -/
theorem nw_wordV {p : Pres} (hV : ValidP p) {z : Nat} {v : List Int} (h : VI p z v) : wordB p.n (nwL v) = true := by
  have hn6 := hV.n6
  have hl := h.len
  have h6 : ∀ j, j < v.length → 0 ≤ v.getD j 0 ∧ v.getD j 0 ≤ 6 := fun j hj => by
    have a := h.lo j (by omega)
    have b := h.hi j (by omega)
    have c := hV.rk j (by omega)
    omega
  have hlen : (nwL v).length ≤ 36 := by
    have := nwTo_len7 h6 v.length (Nat.le_refl _)
    rw [nwTo_all] at this
    omega
  suffices hS : (nwL v).all (letB p.n) = true ∧ (nwL v).length ≤ 64 by simpa [wordB] using hS
  refine ⟨List.all_eq_true.2 fun x hx => ?_, by omega⟩
  have := nwL_pos hl x hx
  have h0 : (x != 0) = true := by simp; omega
  rw [letB, h0, Bool.true_and]
  exact inB_true.2 (by omega)
theorem rd_txt {k : Int} {xs : List Int} (hk : inB k 0 6 = true) (hw : wordB k xs = true) : rdOk k (txtW xs) = true ∧ rdL k (txtW xs) = xs := by
  obtain ⟨h1, h2⟩ := prs_txt hk hw
  cases h : rdOk k (txtW xs) with
  | false => rw [(prs_bad hk h).1] at h1; omega
  | true =>
    obtain ⟨e1, e2⟩ := prs_good hk h
    rw [h1] at e1
    rw [h2] at e2
    by_cases hl : (rdL k (txtW xs)).length ≤ 64
    · rw [(codeS_in hl).2] at e2
      exact ⟨rfl, e2.symm⟩
    · rw [(codeS_out hl).1] at e1; omega
--== letters
theorem lt_mem {k : Nat} {x : UInt8} (hk : k ≤ 6) (h : x ∈ lt1 k) : 97 ≤ x.toNat ∧ x.toNat ≤ 103 := by
  unfold lt1 at h
  rw [List.mem_singleton.1 h, UInt8.toNat_ofNat']
  omega
theorem dg_mem {o : Int} {x : UInt8} (h0 : 0 ≤ o) (h1 : o < 10) (h : x ∈ dg o) : 48 ≤ x.toNat ∧ x.toNat ≤ 57 := by
  rw [dg_small h0 h1] at h
  rw [List.mem_singleton.1 h, UInt8.toNat_ofNat']
  omega
theorem wtx_mem {n : Nat} {v : List Int} {x : UInt8} (hn : n ≤ 6) (hl : v.length = n) (h : x ∈ wtx v) : x.toNat = 49 ∨ (97 ≤ x.toNat ∧ x.toNat ≤ 102) := by
  unfold wtx at h
  by_cases h0 : (nwL v).length = 0
  · rw [txtW_empty h0] at h
    have : x = 49 := by simpa using h
    subst this; exact .inl rfl
  · rw [txtW_ne h0, strOfNums_data] at h
    obtain ⟨y, hy, rfl⟩ := List.mem_map.1 h
    unfold txtL at hy
    obtain ⟨l, hl2, rfl⟩ := List.mem_map.1 hy
    have := nwL_pos hl l hl2
    unfold chI
    rw [if_pos (by omega), UInt8.toNat_ofNat']
    omega
theorem u8_ne {x y : UInt8} (h : x.toNat ≠ y.toNat) : x ≠ y := fun e => h (by rw [e])
theorem not_lt {k : Nat} {c : UInt8} (hk : k ≤ 6) (hc : c.toNat < 97) : c ∉ lt1 k := fun h => by have := lt_mem hk h; omega
theorem not_dg {o : Int} {c : UInt8} (h0 : 0 ≤ o) (h1 : o < 10) (hc : c.toNat < 48 ∨ 57 < c.toNat) : c ∉ dg o := fun h => by have := dg_mem h0 h1 h; omega
theorem not_wtx {n : Nat} {v : List Int} {c : UInt8} (hn : n ≤ 6) (hl : v.length = n) (h1 : c.toNat ≠ 49) (hc : c.toNat < 97) : c ∉ wtx v := fun h => by have := wtx_mem hn hl h; omega
--== relations' texts
/-- the left side: the letter, the sign, the order or the letter that acts -/
def lhs (p : Pres) : Rln → Txt
  | (j, none, _) => dg (p.r j)
  | (_, some i, _) => lt1 i
theorem rlnT_eq (p : Pres) (r : Rln) : rlnT p r = lt1 r.1 ++ ([94] ++ (lhs p r ++ ([61] ++ wtx r.2.2))) := by
  obtain ⟨j, o, v⟩ := r
  cases o <;> rfl
structure GdR (p : Pres) (r : Rln) : Prop where
  j : r.1 < p.n
  i : ∀ i, r.2.1 = some i → i < r.1
  vi : ∃ z, VI p z r.2.2
theorem gd_rlns {p : Pres} (hV : ValidP p) {r : Rln} (h : r ∈ rlns p) : GdR p r := by
  rcases List.mem_append.1 h with h | h
  · unfold powsR at h
    obtain ⟨i, hi, h⟩ := List.mem_flatMap.1 h
    have hi := List.mem_range.1 hi
    unfold powR at h
    split at h
    · simp at h
    · rw [List.mem_singleton.1 h]
      exact ⟨hi, fun _ e => (by cases e), _, hV.valid.pow i hi⟩
  · unfold cnjsR at h
    obtain ⟨i, hi, h⟩ := List.mem_flatMap.1 h
    have hi := List.mem_range.1 hi
    unfold cnjI at h
    obtain ⟨d, hd, h⟩ := List.mem_flatMap.1 h
    have hd := List.mem_range.1 hd
    unfold cnjQ at h
    split at h
    · simp at h
    · rw [List.mem_singleton.1 h]
      exact ⟨by show i + 1 + d < p.n; omega, fun k e => (by cases e; show i < i + 1 + d; omega), _, hV.valid.cj i (i + 1 + d) (by omega) (by omega)⟩
theorem not_lhs {p : Pres} (hV : ValidP p) {r : Rln} (h : GdR p r) {c : UInt8} (h1 : c.toNat < 48 ∨ 57 < c.toNat) (h2 : c.toNat < 97) : c ∉ lhs p r := by
  obtain ⟨j, o, v⟩ := r
  have hj : j < p.n := h.j
  have := hV.rk j hj
  have hn6 := hV.n6
  cases o with
  | none => exact not_dg (by omega) (by omega) h1
  | some i => have := h.i i rfl; exact not_lt (by have : i < j := this; omega) h2
theorem not_rlnT {p : Pres} (hV : ValidP p) {r : Rln} (h : GdR p r) {c : UInt8} (h1 : c.toNat < 48 ∨ 57 < c.toNat) (h2 : c.toNat < 94) (h3 : c.toNat ≠ 61) : c ∉ rlnT p r := fun m => by
  have hn6 := hV.n6
  have hj := h.j
  obtain ⟨z, hz⟩ := h.vi
  rw [rlnT_eq] at m
  rcases List.mem_append.1 m with m | m
  · exact not_lt (by omega) (by omega) m
  rcases List.mem_append.1 m with m | m
  · rw [List.mem_singleton.1 m] at h2; exact absurd h2 (by decide)
  rcases List.mem_append.1 m with m | m
  · exact not_lhs hV h h1 (by omega) m
  rcases List.mem_append.1 m with m | m
  · rw [List.mem_singleton.1 m] at h3; exact h3 (by decide)
  · exact not_wtx hn6 hz.len (by omega) (by omega) m
theorem not_ordT {p : Pres} (hV : ValidP p) {c : UInt8} (h1 : c.toNat < 48 ∨ 57 < c.toNat) (h2 : c.toNat ≠ 32) : c ∉ ordT p := fun m => by
  unfold ordT at m
  split at m
  · rw [List.mem_singleton.1 m] at h1; exact absurd h1 (by decide)
  · have H : ∀ x ∈ ordsT p p.n, c ∉ x := fun x hx => by
      unfold ordsT at hx
      obtain ⟨i, hi, rfl⟩ := List.mem_map.1 hx
      have := hV.rk i (List.mem_range.1 hi)
      exact not_dg (by omega) (by omega) h1
    revert m H
    generalize ordsT p p.n = xs
    intro m H
    cases xs with
    | nil => rw [Lib.join_nil] at m; simp at m
    | cons a r =>
      rw [Lib.join_cons] at m
      rcases List.mem_append.1 m with m | m
      · exact H a List.mem_cons_self m
      · unfold Lib.joinTail at m
        obtain ⟨y, hy, m⟩ := List.mem_flatten.1 m
        obtain ⟨x, hx, rfl⟩ := List.mem_map.1 hy
        rcases List.mem_append.1 m with m | m
        · rw [List.mem_singleton.1 m] at h2; exact h2 (by decide)
        · exact H x (List.mem_cons_of_mem _ hx) m
/-- the reference's parts of a text -/
theorem spl_ptx {p : Pres} (hV : ValidP p) : spl 59 (ptx p) = ordT p :: (rlns p).map fun r => 32 :: rlnT p r := by
  rw [ptx_rlns, spl_join (by decide) (not_ordT hV (by decide) (by decide)) fun x hx => by
    obtain ⟨r, hr, rfl⟩ := List.mem_map.1 hx
    exact not_rlnT hV (gd_rlns hV hr) (by decide) (by decide) (by decide), List.map_map]
  rfl
/-- the program's parts of a text -/
theorem split_ptx {p : Pres} (hV : ValidP p) : Lib.split (ptx p) [59, 32] = ordT p :: (rlns p).map (rlnT p) := by
  rw [ptx_rlns]
  exact split_tail 59 [32] _ _ (not_ordT hV (by decide) (by decide)) fun x hx => by
    obtain ⟨r, hr, rfl⟩ := List.mem_map.1 hx
    exact not_rlnT hV (gd_rlns hV hr) (by decide) (by decide) (by decide)
/-- a relation's two sides -/
theorem spl_rln {p : Pres} (hV : ValidP p) {r : Rln} (h : GdR p r) : spl 61 (32 :: rlnT p r) = [32 :: (lt1 r.1 ++ ([94] ++ lhs p r)), wtx r.2.2] := by
  have hn6 := hV.n6
  have hj := h.j
  obtain ⟨z, hz⟩ := h.vi
  have e : 32 :: rlnT p r = (32 :: (lt1 r.1 ++ ([94] ++ lhs p r))) ++ 61 :: wtx r.2.2 := by rw [rlnT_eq]; simp
  rw [e]
  refine spl_two (fun m => ?_) (not_wtx hn6 hz.len (by decide) (by decide))
  rcases List.mem_cons.1 m with m | m
  · exact absurd m (by decide)
  rcases List.mem_append.1 m with m | m
  · exact not_lt (by omega) (by decide) m
  rcases List.mem_append.1 m with m | m
  · exact absurd (List.mem_singleton.1 m) (by decide)
  · exact not_lhs hV h (by decide) (by decide) m
theorem cut_rln {p : Pres} (hV : ValidP p) {r : Rln} (h : GdR p r) : Lib.cut (rlnT p r) [61] = (lt1 r.1 ++ 94 :: lhs p r, wtx r.2.2, true) := by
  have hn6 := hV.n6
  have hj := h.j
  have e : rlnT p r = (lt1 r.1 ++ 94 :: lhs p r) ++ 61 :: wtx r.2.2 := by rw [rlnT_eq]; simp
  rw [e]
  refine cut_hit _ fun m => ?_
  rcases List.mem_append.1 m with m | m
  · exact not_lt (by omega) (by decide) m
  rcases List.mem_cons.1 m with m | m
  · exact absurd m (by decide)
  · exact not_lhs hV h (by decide) (by decide) m
theorem cut_lhs {p : Pres} (hV : ValidP p) {r : Rln} (h : GdR p r) : Lib.cut (lt1 r.1 ++ 94 :: lhs p r) [94] = (lt1 r.1, lhs p r, true) := by
  have hn6 := hV.n6
  have hj := h.j
  exact cut_hit _ (not_lt (by omega) (by decide))
/-- the orders' parts -/
theorem spl_ord {p : Pres} (hV : ValidP p) (h0 : 0 < p.n) : spl 32 (ordT p) = ordsT p p.n ∧ Lib.split (ordT p) [32] = ordsT p p.n := by
  have H : ∀ x ∈ ordsT p p.n, (32 : UInt8) ∉ x := fun x hx => by
    unfold ordsT at hx
    obtain ⟨i, hi, rfl⟩ := List.mem_map.1 hx
    have := hV.rk i (List.mem_range.1 hi)
    exact not_dg (by omega) (by omega) (by decide)
  have hl := ordsT_len p p.n
  unfold ordT
  rw [if_neg (by omega)]
  revert H hl
  generalize ordsT p p.n = xs
  intro H hl
  cases xs with
  | nil => simp at hl; omega
  | cons a r =>
    rw [Lib.join_cons]
    refine ⟨?_, split_tail 32 [] r a (H a List.mem_cons_self) fun x hx => H x (List.mem_cons_of_mem _ hx)⟩
    rw [spl_join (s := []) (by simp) (H a List.mem_cons_self) fun x hx => H x (List.mem_cons_of_mem _ hx)]
    simp
--== end
end Go.Proofs.YtgcmhkihonadmaaGreatDoor
