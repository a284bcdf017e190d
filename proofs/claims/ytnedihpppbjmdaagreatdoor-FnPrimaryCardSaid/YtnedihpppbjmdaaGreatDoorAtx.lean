/-
  Texts of abelian groups (plain): their words, how they are cut and read.
-/
import Derived.Lib.Join
import Derived.Lib.Split
import Derived.Lib.SmallJoins
import Derived.Lib.ItoaNum
import Derived.Lib.ParseIntB
import Derived.Lib.Strings
namespace Go.Proofs.YtnedihpppbjmdaaGreatDoor
set_option linter.unusedVariables false
set_option linter.unusedSimpArgs false
set_option maxRecDepth 100000

abbrev Tx := List UInt8
/-- the words of a group's text -/
def atw (fs : List Nat) (r : Nat) : List Tx := fs.map (fun f => 67 :: Lib.decDigits f) ++ List.replicate r [90]
def sepX : Tx := [32, 120, 32]
/-- the text of a group -/
def atx (fs : List Nat) (r : Nat) : Tx := if atw fs r = [] then [49] else Lib.join (atw fs r) sepX
--== digits
theorem byte_of {k : Nat} (h : k < 10) : (UInt8.ofNat (48 + k)).toNat = 48 + k := by
  rw [UInt8.toNat_ofNat']; omega
theorem dec_last {n : Nat} (h : ¬ n < 10) : Lib.decDigits n = Lib.decDigits (n / 10) ++ [UInt8.ofNat (48 + n % 10)] := by rw [Lib.decDigits, dif_neg h]
theorem dec_mem : ∀ (n : Nat), ∀ b ∈ Lib.decDigits n, 48 ≤ b.toNat ∧ b.toNat ≤ 57 := by
  intro n
  induction n using Nat.strongRecOn with
  | ind n ih =>
    intro b hb
    by_cases h : n < 10
    · rw [Lib.decDigits_one h, List.mem_singleton] at hb
      rw [hb, byte_of h]; omega
    · rw [dec_last h] at hb
      rcases List.mem_append.1 hb with h1 | h1
      · exact ih (n / 10) (by omega) b h1
      · rw [List.mem_singleton] at h1
        rw [h1, byte_of (by omega)]; omega
theorem dec_ne (n : Nat) : Lib.decDigits n ≠ [] := by
  by_cases h : n < 10
  · rw [Lib.decDigits_one h]; simp
  · rw [dec_last h]; simp
theorem dec_len : ∀ (k n : Nat), n < 10 ^ (k + 1) → (Lib.decDigits n).length ≤ k + 1
  | 0, n, h => by rw [Lib.decDigits_one (by simpa using h)]; simp
  | k + 1, n, h => by
    by_cases h1 : n < 10
    · rw [Lib.decDigits_one h1]; simp
    · rw [dec_last h1, List.length_append]
      have := dec_len k (n / 10) (by rw [Nat.div_lt_iff_lt_mul (by omega)]; rw [Nat.pow_succ] at h; exact h)
      simp; omega
theorem parse_run (M : Nat) : ∀ (n : Nat), n ≤ M → n ≤ 1000000000000 → ∀ r, Lib.parseUintM M 0 (Lib.decDigits n ++ r) = Lib.parseUintM M n r := by
  intro n
  induction n using Nat.strongRecOn with
  | ind n ih =>
    intro hM hn r
    by_cases h : n < 10
    · rw [Lib.decDigits_one h, List.singleton_append, Lib.parseUintM, byte_of h, if_pos (by omega), if_neg (by omega), if_neg (by omega)]
      congr 1; omega
    · rw [dec_last h, List.append_assoc, ih (n / 10) (by omega) (by omega) (by omega), List.singleton_append, Lib.parseUintM, byte_of (by omega), if_pos (by omega), if_neg (by omega), if_neg (by omega)]
      congr 1; omega
/-- a numeral is read as its number -/
theorem parse_dec {n : Nat} (hn : n ≤ 1000000000000) : Lib.parseIntB 64 (Lib.decDigits n) = .ok (n : Int) := by
  have hu : Lib.parseUintB 64 (Lib.decDigits n) = .ok n := by
    unfold Lib.parseUintB
    rw [if_neg (dec_ne n)]
    have h := parse_run (2 ^ 64 - 1) n (by omega) hn []
    rw [List.append_nil] at h
    rw [h]; rfl
  cases hd : Lib.decDigits n with
  | nil => exact (dec_ne n hd).elim
  | cons c r =>
    have hc := dec_mem n c (by rw [hd]; simp)
    unfold Lib.parseIntB
    dsimp only
    have e1 : ¬ (c.toNat = 43 ∨ c.toNat = 45) := by omega
    have e2 : ¬ c.toNat = 45 := by omega
    rw [if_neg e1, ← hd, hu]
    dsimp only
    rw [if_neg (by omega), if_neg (by intro h; exact e2 h.1), if_neg e2]
--== words
theorem atw_mem {fs : List Nat} {r : Nat} {x : Tx} (h : x ∈ atw fs r) : (∃ f ∈ fs, x = 67 :: Lib.decDigits f) ∨ x = [90] := by
  rcases List.mem_append.1 h with h1 | h1
  · obtain ⟨f, hf, rfl⟩ := List.mem_map.1 h1; exact .inl ⟨f, hf, rfl⟩
  · exact .inr (List.eq_of_mem_replicate h1)
theorem atw_clean {fs : List Nat} {r : Nat} {x : Tx} (h : x ∈ atw fs r) : (32 : UInt8) ∉ x := by
  rcases atw_mem h with ⟨f, _, rfl⟩ | rfl
  · intro hm
    rcases List.mem_cons.1 hm with h1 | h1
    · exact absurd h1 (by decide)
    · have := dec_mem f _ h1
      have e : (32 : UInt8).toNat = 32 := rfl
      omega
  · decide
theorem atw_len (fs : List Nat) (r : Nat) : (atw fs r).length = fs.length + r := by simp [atw]
theorem indexX_at {c : UInt8} {s a : Tx} (r : Tx) (ha : c ∉ a) : Lib.index (a ++ (c :: s) ++ r) (c :: s) = a.length :=
  Lib.index_first (by simp) (by simp [Lib.occAt]) fun j hj => by
    cases h : Lib.occAt (a ++ (c :: s) ++ r) (c :: s) j with
    | false => rfl
    | true =>
      have := Lib.occAt_head rfl h
      rw [List.append_assoc, List.getElem?_append_left hj] at this
      exact absurd (List.mem_of_getElem? this) ha
theorem indexX_no {c : UInt8} {s a : Tx} (ha : c ∉ a) : Lib.index a (c :: s) = -1 :=
  Lib.index_none fun j hj => by
    cases h : Lib.occAt a (c :: s) j with
    | false => rfl
    | true => exact absurd (List.mem_of_getElem? (Lib.occAt_head rfl h)) ha
theorem splitX_tail (c : UInt8) (s : Tx) : ∀ (xs : List Tx) (a : Tx), c ∉ a → (∀ x ∈ xs, c ∉ x) → Lib.split (a ++ Lib.joinTail (c :: s) xs) (c :: s) = a :: xs := by
  intro xs
  induction xs with
  | nil =>
    intro a ha _
    have e : Lib.index (a ++ Lib.joinTail (c :: s) []) (c :: s) = -1 := by rw [show Lib.joinTail (c :: s) [] = [] from rfl, List.append_nil]; exact indexX_no ha
    unfold Lib.split
    rw [Lib.count_miss e, show Lib.joinTail (c :: s) [] = [] from rfl, List.append_nil]; rfl
  | cons x xs ih =>
    intro a ha h
    have e0 : a ++ Lib.joinTail (c :: s) (x :: xs) = a ++ (c :: s) ++ (x ++ Lib.joinTail (c :: s) xs) := by simp [Lib.joinTail]
    have e := indexX_at (s := s) (x ++ Lib.joinTail (c :: s) xs) ha
    have hd : (a ++ (c :: s) ++ (x ++ Lib.joinTail (c :: s) xs)).drop (a.length + (c :: s).length) = x ++ Lib.joinTail (c :: s) xs := by
      rw [← List.length_append, List.drop_left]
    have ih' := ih x (h x List.mem_cons_self) fun y hy => h y (List.mem_cons_of_mem _ hy)
    unfold Lib.split at ih' ⊢
    rw [e0, Lib.count_hit (by simp) e, hd, Nat.add_comm 1, Lib.splitK, e]
    have hm : ((a.length : Int) == -1) = false := by rw [beq_eq_false_iff_ne]; omega
    rw [hm, Int.toNat_natCast, hd, ih', Nat.add_zero, List.append_assoc, List.take_left]; rfl
/-- a group's text falls into its words -/
theorem split_atx {fs : List Nat} {r : Nat} (h : atw fs r ≠ []) : Lib.split (atx fs r) sepX = atw fs r := by
  unfold atx
  rw [if_neg h]
  cases hw : atw fs r with
  | nil => exact (h hw).elim
  | cons a xs =>
    rw [Lib.join_cons]
    exact splitX_tail 32 [120, 32] xs a (atw_clean (fs := fs) (r := r) (by rw [hw]; simp)) fun x hx => atw_clean (fs := fs) (r := r) (by rw [hw]; exact List.mem_cons_of_mem _ hx)
theorem atx_one {fs : List Nat} {r : Nat} : atx fs r = [49] ↔ atw fs r = [] := by
  unfold atx
  constructor
  · intro h
    apply Classical.byContradiction
    intro hn
    rw [if_neg hn] at h
    cases hw : atw fs r with
    | nil => exact hn hw
    | cons a xs =>
      rw [hw, Lib.join_cons] at h
      rcases atw_mem (fs := fs) (r := r) (x := a) (by rw [hw]; simp) with ⟨f, _, rfl⟩ | rfl
      · simp at h
      · simp at h
  · intro h; rw [if_pos h]
/-- as the reference lays it: each word behind " x ", then the first three bytes away -/
def refT (fs : List Nat) (r : Nat) : Tx := Lib.joinTail sepX (atw fs r)
theorem refT_drop {fs : List Nat} {r : Nat} (h : atw fs r ≠ []) : (refT fs r).drop 3 = atx fs r ∧ 3 ≤ (refT fs r).length := by
  unfold refT atx
  rw [if_neg h]
  cases hw : atw fs r with
  | nil => exact (h hw).elim
  | cons a xs =>
    rw [Lib.join_cons]
    refine ⟨by simp [Lib.joinTail, sepX], by simp [Lib.joinTail, sepX]⟩
theorem refT_nil {fs : List Nat} {r : Nat} : refT fs r = [] ↔ atw fs r = [] := by
  unfold refT
  cases atw fs r with
  | nil => simp [Lib.joinTail]
  | cons a xs => simp [Lib.joinTail, sepX]
/-- a word with a number: its prefix and the rest -/
theorem cutC (f : Nat) : Lib.hasPrefix (67 :: Lib.decDigits f) [67] = true ∧ Lib.trimPrefix (67 :: Lib.decDigits f) [67] = Lib.decDigits f := by
  have h : Lib.hasPrefix (67 :: Lib.decDigits f) [67] = true := by simp [Lib.hasPrefix]
  exact ⟨h, by unfold Lib.trimPrefix; rw [h]; rfl⟩
end Go.Proofs.YtnedihpppbjmdaaGreatDoor
