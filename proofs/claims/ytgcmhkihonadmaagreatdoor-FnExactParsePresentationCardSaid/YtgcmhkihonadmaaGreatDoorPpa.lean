/-
  Parts of texts: cut at a byte, at a text; relations of a presentation and their texts (plain).
-/
import Derived.Test.YtgcmhkihonadmaaGreatDoorPta
import Derived.Lib.Split
namespace Go.Proofs.YtgcmhkihonadmaaGreatDoor
set_option linter.unusedVariables false
set_option linter.unusedSimpArgs false
set_option maxRecDepth 100000
open Go.RowKit

--== parts at a byte
theorem strs_lenS {ss : List ByteArray} {l : List Txt} (h : ss.map (·.data.toList) = l) : ss.length = l.length := by rw [← h]; simp
/-- the parts of a text at a byte: done, the part under way, what is left -/
def splG (b : UInt8) : List Txt → Txt → Txt → List Txt
  | d, c, [] => d ++ [c]
  | d, c, x :: r => if x = b then splG b (d ++ [c]) [] r else splG b d (c ++ [x]) r
def spl (b : UInt8) (t : Txt) : List Txt := splG b [] [] t
theorem splG_hit (b : UInt8) (d : List Txt) (c r : Txt) : splG b d c (b :: r) = splG b (d ++ [c]) [] r := by rw [splG, if_pos rfl]
theorem splG_miss {b x : UInt8} (h : x ≠ b) (d : List Txt) (c r : Txt) : splG b d c (x :: r) = splG b d (c ++ [x]) r := by rw [splG, if_neg h]
theorem splG_run (b : UInt8) : ∀ (a : Txt), b ∉ a → ∀ d c r, splG b d c (a ++ r) = splG b d (c ++ a) r := by
  intro a
  induction a with
  | nil => intro _ d c r; rw [List.nil_append, List.append_nil]
  | cons x a ih =>
    intro h d c r
    rw [List.cons_append, splG_miss (fun e => h (by rw [e]; exact List.mem_cons_self)), ih (fun e => h (List.mem_cons_of_mem _ e)), List.append_assoc]; rfl
theorem splG_end {b : UInt8} {a : Txt} (h : b ∉ a) (d : List Txt) (c : Txt) : splG b d c a = d ++ [c ++ a] := by
  have := splG_run b a h d c []
  rw [List.append_nil] at this
  rw [this]; rfl
theorem splG_tail (b : UInt8) (s : Txt) (hs : b ∉ s) : ∀ (xs : List Txt), (∀ x ∈ xs, b ∉ x) → ∀ d (a : Txt), splG b d a (Lib.joinTail (b :: s) xs) = d ++ a :: xs.map (s ++ ·) := by
  intro xs
  induction xs with
  | nil => intro _ d a; rfl
  | cons x xs ih =>
    intro h d a
    have e : Lib.joinTail (b :: s) (x :: xs) = b :: ((s ++ x) ++ Lib.joinTail (b :: s) xs) := by simp [Lib.joinTail]
    have hx : b ∉ s ++ x := fun m => by
      rcases List.mem_append.1 m with m | m
      · exact hs m
      · exact h x List.mem_cons_self m
    rw [e, splG_hit, splG_run b _ hx, ih (fun y hy => h y (List.mem_cons_of_mem _ hy)), List.nil_append, List.map_cons, List.append_assoc]; rfl
theorem spl_join {b : UInt8} {s a : Txt} {xs : List Txt} (hs : b ∉ s) (ha : b ∉ a) (h : ∀ x ∈ xs, b ∉ x) : spl b (a ++ Lib.joinTail (b :: s) xs) = a :: xs.map (s ++ ·) := by
  unfold spl
  rw [splG_run b a ha, List.nil_append, splG_tail b s hs xs h]; rfl
theorem spl_two {b : UInt8} {a r : Txt} (ha : b ∉ a) (hr : b ∉ r) : spl b (a ++ b :: r) = [a, r] := by
  unfold spl
  rw [splG_run b a ha, splG_hit, splG_end hr]; rfl
--== parts at a text
theorem index_at {c : UInt8} {s a : Txt} (r : Txt) (ha : c ∉ a) : Lib.index (a ++ (c :: s) ++ r) (c :: s) = a.length :=
  Lib.index_first (by simp) (by simp [Lib.occAt]) fun j hj => by
    cases h : Lib.occAt (a ++ (c :: s) ++ r) (c :: s) j with
    | false => rfl
    | true =>
      have := Lib.occAt_head rfl h
      rw [List.append_assoc, List.getElem?_append_left hj] at this
      exact absurd (List.mem_of_getElem? this) ha
theorem index_no {c : UInt8} {s a : Txt} (ha : c ∉ a) : Lib.index a (c :: s) = -1 :=
  Lib.index_none fun j hj => by
    cases h : Lib.occAt a (c :: s) j with
    | false => rfl
    | true => exact absurd (List.mem_of_getElem? (Lib.occAt_head rfl h)) ha
theorem cut_hit {c : UInt8} {a : Txt} (r : Txt) (ha : c ∉ a) : Lib.cut (a ++ c :: r) [c] = (a, r, true) := by
  have h := index_at (s := []) r ha
  rw [List.append_assoc] at h
  have e : Lib.index (a ++ c :: r) [c] = a.length := h
  unfold Lib.cut
  rw [e, if_pos (by omega)]
  simp
theorem cut_no {c : UInt8} {a : Txt} (ha : c ∉ a) : Lib.cut a [c] = (a, [], false) := by
  unfold Lib.cut
  rw [index_no ha]; rfl
theorem split_tail (c : UInt8) (s : Txt) : ∀ (xs : List Txt) (a : Txt), c ∉ a → (∀ x ∈ xs, c ∉ x) → Lib.split (a ++ Lib.joinTail (c :: s) xs) (c :: s) = a :: xs := by
  intro xs
  induction xs with
  | nil =>
    intro a ha _
    have e : Lib.index (a ++ Lib.joinTail (c :: s) []) (c :: s) = -1 := by rw [joinTail_nil, List.append_nil]; exact index_no ha
    unfold Lib.split
    rw [Lib.count_miss e, joinTail_nil, List.append_nil]; rfl
  | cons x xs ih =>
    intro a ha h
    have e0 : a ++ Lib.joinTail (c :: s) (x :: xs) = a ++ (c :: s) ++ (x ++ Lib.joinTail (c :: s) xs) := by simp [Lib.joinTail]
    have e := index_at (s := s) (x ++ Lib.joinTail (c :: s) xs) ha
    have hd : (a ++ (c :: s) ++ (x ++ Lib.joinTail (c :: s) xs)).drop (a.length + (c :: s).length) = x ++ Lib.joinTail (c :: s) xs := by
      rw [← List.length_append, List.drop_left]
    have ih' := ih x (h x List.mem_cons_self) fun y hy => h y (List.mem_cons_of_mem _ hy)
    unfold Lib.split at ih' ⊢
    rw [e0, Lib.count_hit (by simp) e, hd, Nat.add_comm 1, Lib.splitK, e]
    have hm : ((a.length : Int) == -1) = false := by rw [beq_eq_false_iff_ne]; omega
    rw [hm, Int.toNat_natCast, hd, ih', Nat.add_zero, List.append_assoc, List.take_left]; rfl
--== relations
/-- a relation: the letter, the letter that acts (none: a power), the exponents -/
abbrev Rln := Nat × Option Nat × List Int
def powR (p : Pres) (i : Nat) : List Rln := if zeroB (p.P i) = true then [] else [(i, none, p.P i)]
def cnjQ (p : Pres) (i j : Nat) : List Rln := if p.C i j = unitL p.n j then [] else [(j, some i, p.C i j)]
def powsR (p : Pres) (m : Nat) : List Rln := (List.range m).flatMap (powR p)
def cnjI (p : Pres) (i m : Nat) : List Rln := (List.range m).flatMap fun d => cnjQ p i (i + 1 + d)
def cnjsR (p : Pres) (m : Nat) : List Rln := (List.range m).flatMap fun i => cnjI p i (p.n - (i + 1))
def rlns (p : Pres) : List Rln := powsR p p.n ++ cnjsR p p.n
def rlnT (p : Pres) : Rln → Txt
  | (j, none, v) => lt1 j ++ ([94] ++ (dg (p.r j) ++ ([61] ++ wtx v)))
  | (j, some i, v) => lt1 j ++ ([94] ++ (lt1 i ++ ([61] ++ wtx v)))
theorem powsT_eq (p : Pres) (m : Nat) : powsT p m = (powsR p m).map (rlnT p) := by
  unfold powsT powsR
  rw [List.map_flatMap]
  congr 1
  funext i
  unfold pow1 powR
  split <;> rfl
theorem cnjsT_eq (p : Pres) (m : Nat) : cnjsT p m = (cnjsR p m).map (rlnT p) := by
  unfold cnjsT cnjsR
  rw [List.map_flatMap]
  congr 1
  funext i
  unfold cnjR cnjI
  rw [List.map_flatMap]
  congr 1
  funext d
  unfold cnj1 cnjQ
  split <;> rfl
theorem ptx_rlns (p : Pres) : ptx p = ordT p ++ Lib.joinTail [59, 32] ((rlns p).map (rlnT p)) := by
  rw [ptx_eq, powsT_eq, cnjsT_eq, ← joinTail_app, ← List.map_append]; rfl
/-- a relation that a valid presentation can hold -/
def GoodR (p : Pres) : Rln → Prop
  | (j, none, v) => j < p.n ∧ v.length = p.n ∧ SmE v
  | (j, some i, v) => i < j ∧ j < p.n ∧ v.length = p.n ∧ SmE v
--== setting a relation
def setR (p : Pres) : Rln → Pres
  | (j, none, v) => ⟨p.orders, p.powers.set j v, p.conj⟩
  | (j, some i, v) => ⟨p.orders, p.powers, p.conj.set i ((p.conj.getD i []).set (j - i - 1) v)⟩
def setA (p : Pres) (rs : List Rln) : Pres := rs.foldl setR p
theorem setA_app (p : Pres) (a b : List Rln) : setA p (a ++ b) = setA (setA p a) b := List.foldl_append
theorem setA_snoc (p : Pres) (a : List Rln) (r : Rln) : setA p (a ++ [r]) = setR (setA p a) r := by rw [setA_app]; rfl
theorem set_range {α : Type} (f g : Nat → α) (n m : Nat) (x : α) (hx : x = g m) (h : ∀ i, i ≠ m → f i = g i) : ((List.range n).map f).set m x = (List.range n).map g := by
  apply List.ext_getElem
  · simp
  · intro i h1 h2
    rw [List.getElem_set]
    by_cases e : m = i
    · subst e; rw [if_pos rfl, hx]; simp
    · rw [if_neg e]; simp; exact h i (fun e' => e e'.symm)
def pwAt (p : Pres) (m : Nat) : List (List Int) := (List.range p.n).map fun i => if i < m then p.P i else zrow p.n
def cjAt (p : Pres) (m c : Nat) : List (List (List Int)) := (List.range p.n).map fun i => (List.range (p.n - (i + 1))).map fun d => if i < m ∨ (i = m ∧ d < c) then p.C i (i + 1 + d) else unitL p.n (i + 1 + d)
theorem setA_pows {p : Pres} (hV : ValidP p) (c : List (List (List Int))) (m : Nat) : setA ⟨p.orders, pwAt p 0, c⟩ (powsR p m) = ⟨p.orders, pwAt p m, c⟩ := by
  induction m with
  | zero => rfl
  | succ m ih =>
    rw [show powsR p (m + 1) = powsR p m ++ powR p m by simp [powsR, List.range_succ], setA_app, ih]
    unfold powR
    by_cases hz : zeroB (p.P m) = true
    · rw [if_pos hz]
      show (⟨_, _, _⟩ : Pres) = _
      congr 1
      apply List.map_congr_left
      intro i hi
      have hi := List.mem_range.1 hi
      by_cases h : i < m
      · rw [if_pos h, if_pos (by omega)]
      · rw [if_neg h]
        by_cases h2 : i = m
        · subst h2
          rw [if_pos (by omega)]
          have hl := (hV.valid.pow i hi).len
          apply List.ext_getElem
          · simp [zrow, hl]
          · intro k h1 h3
            have := zeroB_true.1 hz k h3
            rw [List.getD_eq_getElem?_getD, List.getElem?_eq_getElem h3] at this
            simp only [Option.getD_some] at this
            rw [this]; simp [zrow]
        · rw [if_neg (by omega)]
    · rw [if_neg hz]
      show (⟨_, _, _⟩ : Pres) = _
      congr 1
      exact set_range _ _ _ _ _ (by rw [if_pos (by omega)]) fun i hi => by
        by_cases h : i < m
        · rw [if_pos h, if_pos (by omega)]
        · rw [if_neg h, if_neg (by omega)]
theorem cjAt_row (p : Pres) (m c i : Nat) (hi : i < p.n) : (cjAt p m c).getD i [] = (List.range (p.n - (i + 1))).map fun d => if i < m ∨ (i = m ∧ d < c) then p.C i (i + 1 + d) else unitL p.n (i + 1 + d) := by
  unfold cjAt
  rw [List.getD_eq_getElem?_getD, List.getElem?_map, List.getElem?_range hi]; rfl
theorem setA_cnjI (p : Pres) (pw : List (List Int)) (m : Nat) (hm : m < p.n) (c : Nat) (hc : c ≤ p.n - (m + 1)) : setA ⟨p.orders, pw, cjAt p m 0⟩ (cnjI p m c) = ⟨p.orders, pw, cjAt p m c⟩ := by
  induction c with
  | zero => rfl
  | succ c ih =>
    rw [show cnjI p m (c + 1) = cnjI p m c ++ cnjQ p m (m + 1 + c) by simp [cnjI, List.range_succ], setA_app, ih (by omega)]
    unfold cnjQ
    by_cases hz : p.C m (m + 1 + c) = unitL p.n (m + 1 + c)
    · rw [if_pos hz]
      show (⟨_, _, _⟩ : Pres) = _
      congr 1
      apply List.map_congr_left
      intro i hi
      apply List.map_congr_left
      intro d hd
      by_cases h : i < m ∨ (i = m ∧ d < c)
      · rw [if_pos h, if_pos (by omega)]
      · rw [if_neg h]
        by_cases h2 : i = m ∧ d = c
        · obtain ⟨rfl, rfl⟩ := h2
          rw [if_pos (by omega), hz]
        · rw [if_neg (by omega)]
    · rw [if_neg hz]
      show (⟨_, _, _⟩ : Pres) = _
      congr 1
      rw [cjAt_row p m c m hm, show m + 1 + c - m - 1 = c by omega]
      refine set_range _ _ _ _ _ ?_ fun i hi => ?_
      · exact set_range _ _ _ _ _ (by rw [if_pos (by omega)]) fun d hd => by
          by_cases h : m < m ∨ (m = m ∧ d < c)
          · rw [if_pos h, if_pos (by omega)]
          · rw [if_neg h, if_neg (by omega)]
      · apply List.map_congr_left
        intro d hd
        by_cases h : i < m ∨ (i = m ∧ d < c)
        · rw [if_pos h, if_pos (by omega)]
        · rw [if_neg h, if_neg (by omega)]
theorem cjAt_next (p : Pres) (m : Nat) : cjAt p m (p.n - (m + 1)) = cjAt p (m + 1) 0 := by
  unfold cjAt
  apply List.map_congr_left
  intro i hi
  apply List.map_congr_left
  intro d hd
  have hd := List.mem_range.1 hd
  by_cases h : i < m ∨ (i = m ∧ d < p.n - (m + 1))
  · rw [if_pos h, if_pos (by omega)]
  · rw [if_neg h, if_neg (by rcases Nat.lt_trichotomy i m with h1 | h1 | h1 <;> (try subst h1) <;> omega)]
theorem setA_cnjs (p : Pres) (pw : List (List Int)) (m : Nat) (hm : m ≤ p.n) : setA ⟨p.orders, pw, cjAt p 0 0⟩ (cnjsR p m) = ⟨p.orders, pw, cjAt p m 0⟩ := by
  induction m with
  | zero => rfl
  | succ m ih =>
    rw [show cnjsR p (m + 1) = cnjsR p m ++ cnjI p m (p.n - (m + 1)) by simp [cnjsR, List.range_succ], setA_app, ih (by omega), setA_cnjI p pw m (by omega) _ (Nat.le_refl _), cjAt_next]
theorem triv_at (p : Pres) : triv p.orders = ⟨p.orders, pwAt p 0, cjAt p 0 0⟩ := by
  unfold triv trivP
  congr 1
  · unfold trivPow pwAt
    apply List.ext_getElem
    · simp [Pres.n]
    · intro i h1 h2; simp [Pres.n]
  · unfold trivConj cjAt trivRow
    apply List.map_congr_left
    intro i hi
    rw [show p.orders.length - 1 - i = p.n - (i + 1) by unfold Pres.n; omega]
    apply List.map_congr_left
    intro d hd
    rw [if_neg (by omega)]; rfl
/-- all relations set: the presentation itself -/
theorem setA_all {p : Pres} (hV : ValidP p) : setA (triv p.orders) (rlns p) = p := by
  rw [triv_at, rlns, setA_app, setA_pows hV, setA_cnjs p _ _ (Nat.le_refl _)]
  have h1 : pwAt p p.n = p.powers := by
    apply List.ext_getElem
    · simp [pwAt, hV.pl]
    · intro i h1 h2
      have hi : i < p.n := by rw [← hV.pl]; exact h2
      simp [pwAt, hi, Pres.P, h2]
  have h2 : cjAt p p.n 0 = p.conj := by
    apply List.ext_getElem
    · simp [cjAt, hV.cl]
    · intro i h1 h2
      have hi : i < p.n := by rw [← hV.cl]; exact h2
      have hrow := hV.row i hi
      unfold rowB at hrow
      simp only [Bool.and_eq_true, decide_eq_true_eq] at hrow
      have hlen := hrow.2.1
      have he : p.conj.getD i [] = p.conj[i] := by rw [List.getD_eq_getElem?_getD, List.getElem?_eq_getElem h2]; rfl
      rw [he] at hlen
      simp only [cjAt, List.getElem_map, List.getElem_range]
      apply List.ext_getElem
      · simp; omega
      · intro d h3 h4
        have hd : d < p.n - (i + 1) := by simpa using h3
        simp only [List.getElem_map, List.getElem_range]
        rw [if_pos (Or.inl hi)]
        unfold Pres.C
        rw [he, show i + 1 + d - i - 1 = d by omega, List.getD_eq_getElem?_getD, List.getElem?_eq_getElem h4]; rfl
  rw [h1, h2]
--== end
end Go.Proofs.YtgcmhkihonadmaaGreatDoor
