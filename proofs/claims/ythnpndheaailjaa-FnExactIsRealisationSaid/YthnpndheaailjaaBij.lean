/-
  Bijections: the test, the inverse, the composition.
-/
import Derived.Test.YthnpndheaailjaaWordsD
namespace Go.Proofs.Ythnpndheaailjaa
set_option linter.unusedVariables false
set_option linter.unusedSimpArgs false
set_option maxRecDepth 100000
open Go.RowKit

/-- an owned row of bools -/
def Bools (w : World) (B : Nat) (v : Value) (bs : List Bool) : Prop := w.ownsRow B 4 1 v bs.length (bs.map Value.bool)

theorem Bools.cell {w : World} {B g n cap : Nat} {bs : List Bool} (h : Bools w B (.slice (some ⟨g, 0, none⟩) n cap) bs) (hn : n = bs.length) (j : Nat) (hj : j < n) :
    w.cell? ⟨g, j, none⟩ = some (.bool (bs.getD j false)) ∧ w.frozen? ⟨g, j, none⟩ = false := by
  subst hn
  have h1 : w.ownsRow B 4 1 (.slice (some ⟨g, 0, none⟩) bs.length cap) bs.length (bs.map Value.bool) := h
  exact ⟨by rw [h1.cellAt j (by omega)]; simp [List.getD, hj], h1.frozenAt j⟩
theorem Bools.set {w : World} {B g cap n : Nat} {bs : List Bool} (hn : n = bs.length) (h : Bools w B (.slice (some ⟨g, 0, none⟩) n cap) bs) (j : Nat) (y : Bool) :
    Bools (w.setCell ⟨g, j, none⟩ (.bool y)) B (.slice (some ⟨g, 0, none⟩) n cap) (bs.set j y) ∧ Chg g (g + 1) w (w.setCell ⟨g, j, none⟩ (.bool y)) := by
  subst hn
  have h1 : w.ownsRow B 4 1 (.slice (some ⟨g, 0, none⟩) bs.length cap) bs.length (bs.map Value.bool) := h
  obtain ⟨a, b⟩ := h1.stored j (.bool y)
  refine ⟨?_, Chg.of_grown b⟩
  unfold Bools
  rw [List.length_set, List.map_set]
  exact a

/-- 'make([]bool, n)' -/
theorem wp_mkBools {P : Program} (w : World) {ops : Array Oper} {rest : List Oper} {o : Oper} {a : Act} {Q : Exit → Act → World → Prop} (hgd : o.guard = none) (l c : Operand) (ho : o.op = Op.makeSlice 145 l c)
    (i : TypeInfo) (ht : P.underlying 145 = some (.slice 4)) (hi : P.info? 4 = some i) (hz : i.zero = some (.bool false)) (hsize : i.size = 1) (hby : i.bytes = 1)
    (kl kc : IntKind) (L C : Int) (n : Nat) (hl : a.eval l = .int kl L) (hc : a.eval c = .int kc C) (hL : L = (n : Int)) (hC : C = (n : Int)) (hn : n ≤ 1000000000)
    (h : ∀ w', Bools w' w.heap.size (.slice (some ⟨w.heap.size, 0, none⟩) n n) (List.replicate n false) → Below w.heap.size w w' → w.heap.size < w'.heap.size → wpList P ops Q rest (a.put o.dst (.slice (some ⟨w.heap.size, 0, none⟩) n n)) w') :
    wpList P ops Q (o :: rest) a w := by
  refine wpList_make_full w hgd l c 145 ho w.heap.size 4 i (.bool false) 1 ht hi hz hsize kl kc L C n hl hc hL hC (by rw [hby]; omega) (by unfold maxLen; omega) (Nat.le_refl _) ?_
  intro w' hown hg
  have hI : Bools w' w.heap.size (.slice (some ⟨w.heap.size, 0, none⟩) n n) (List.replicate n false) := by
    unfold Bools
    rw [Nat.mul_one, show (Value.bool false).cells = #[.bool false] from rfl, toList_madeCells_one] at hown
    rw [List.length_replicate, List.map_replicate]
    exact hown
  exact h w' hI ((Below.refl _ _).grown hg (Nat.le_refl _) (by intro k hk; cases hk)) (World.ownsRow.lt hI _ rfl).2

/-! ### the test -/
def bijAt (xs : List Int) (j : Nat) : Bool := inB (xs.getD j 0) 0 ((xs.length : Int) - 1) && !((xs.take j).contains (xs.getD j 0))
def bijB (xs : List Int) : Bool := (List.range xs.length).all (bijAt xs)
def isBijB (xs : List Int) : Bool := decide (xs.length ≤ 128) && bijB xs
def seenL (n : Nat) (ys : List Int) : List Bool := (List.range n).map fun (t : Nat) => ys.contains (t : Int)
theorem seenL_length (n : Nat) (ys : List Int) : (seenL n ys).length = n := by simp [seenL]
theorem seenL_getD (n : Nat) (ys : List Int) (t : Nat) (h : t < n) : (seenL n ys).getD t false = ys.contains (t : Int) := by
  unfold seenL; rw [List.getD_eq_getElem?_getD, List.getElem?_map, List.getElem?_range h]; rfl
theorem seenL_zero (n : Nat) : seenL n [] = List.replicate n false := by
  unfold seenL
  apply List.ext_getElem (by simp)
  intro i h1 h2
  simp
theorem seenL_set (n : Nat) (xs : List Int) (j : Nat) (hj : j < xs.length) (m : Nat) (hx : xs.getD j 0 = (m : Int)) : (seenL n (xs.take j)).set m true = seenL n (xs.take (j + 1)) := by
  rw [take_snoc xs j 0 hj, hx]
  apply List.ext_getElem (by simp [seenL])
  intro i h1 h2
  simp only [seenL, List.getElem_set, List.getElem_map, List.getElem_range]
  by_cases e : m = i
  · subst e; simp
  · rw [if_neg e, Bool.eq_iff_iff]
    simp only [List.contains_iff_mem, List.mem_append, List.mem_singleton]
    constructor
    · intro h; exact .inl h
    · rintro (h | h)
      · exact h
      · omega
theorem bijB_false {xs : List Int} {j : Nat} (hj : j < xs.length) (h : bijAt xs j = false) : bijB xs = false := by
  unfold bijB; rw [List.all_eq_false]; exact ⟨j, List.mem_range.2 hj, by rw [h]; simp⟩
theorem bijB_true {xs : List Int} (h : ∀ j, j < xs.length → bijAt xs j = true) : bijB xs = true := List.all_eq_true.2 fun j hj => h j (List.mem_range.1 hj)
theorem bijB_at {xs : List Int} (h : bijB xs = true) (j : Nat) (hj : j < xs.length) : ∃ m : Nat, xs.getD j 0 = (m : Int) ∧ m < xs.length := by
  have h1 := List.all_eq_true.1 h j (List.mem_range.2 hj)
  simp only [bijAt, Bool.and_eq_true] at h1
  have h2 := inB_true.1 h1.1
  exact ⟨(xs.getD j 0).toNat, by omega, by omega⟩
theorem isBijB_at {xs : List Int} (h : isBijB xs = true) : bijB xs = true ∧ xs.length ≤ 128 := by
  simp only [isBijB, Bool.and_eq_true, decide_eq_true_eq] at h; exact ⟨h.2, h.1⟩

--== impl.isBijection
set_option maxHeartbeats 2000000 in
theorem i_isBijection (v : Value) (xs : List Int) (w : World) (hv : Rd w v xs) (hs : xs.length ≤ 100000000) :
    Calls Try.prog 99 #[v] w (RetV w (.bool (bijB xs))) := by
  obtain ⟨i0, hi, hz0, hz1, hz2⟩ := info_parts Try.infoBool
  obtain ⟨ao, cap, rfl, _, _, _, hA⟩ := hv
  go_enter Try.func99, Try.ntmps99
  go_wp2_with (at_make; refine wp_mkBools _ rfl _ _ rfl i0 Try.underlying145 hi hz0 hz1 hz2 _ _ _ _ xs.length rfl rfl rfl rfl (by omega) ?_)
  intro w1 hI0 hB0 hgt
  go_wp2_with fail
  go_loopw [5, 11] (fun _ i wr => ∃ j : Nat, j ≤ xs.length ∧ i = .int .i64 j ∧ Bools wr w.heap.size (.slice (some ⟨w.heap.size, 0, none⟩) xs.length xs.length) (seenL xs.length (xs.take j)) ∧ Below w.heap.size w wr ∧ ∀ t, t < j → bijAt xs t = true) (fun _ i _ => xs.length - (intOf i).toNat)
  case atStart => exact ⟨0, Nat.zero_le _, rfl, by rw [List.take_zero, seenL_zero]; exact hI0, hB0, fun t h => by omega⟩
  case round =>
    clear hI0 hB0 hgt
    obtain ⟨j, hj, rfl, hI, hB, hall⟩ := hrel
    have hS := hB.size
    have HA := Lib.hid hall
    clear hall
    by_cases hlt : j < xs.length
    · rcases hA with hA | ⟨b, off, rfl, hA⟩
      · omega
      have hc := hA j hlt
      have hcell : wr.cell? ⟨b, off + j, none⟩ = some (.int .i64 (xs.getD j 0)) := (hB.cell (World.block_lt_of_cell? w _ hc)).trans hc
      have HF := Lib.hid (@bijB_false xs j hlt)
      by_cases hin : inB (xs.getD j 0) 0 ((xs.length : Int) - 1) = true
      · obtain ⟨m, hm⟩ : ∃ m : Nat, xs.getD j 0 = (m : Int) := ⟨(xs.getD j 0).toNat, by have := inB_true.1 hin; omega⟩
        have hml : m < xs.length := by have := inB_true.1 hin; omega
        obtain ⟨hcell2, hfz⟩ := hI.cell (seenL_length _ _).symm m hml
        rw [seenL_getD _ _ _ hml] at hcell2
        by_cases hse : (xs.take j).contains (m : Int) = true
        · have HX := Lib.hid (HF.out (by unfold bijAt; rw [hm, hse]; simp))
          rw [hse] at hcell2
          rw [hm] at hcell hin
          clear hA hc hm hse HF hI hfz
          go_wp2_with (go_at_call 73; refine (i_inside _ _ _ _).mono ?_; rintro e w' ⟨rfl, rfl⟩)
          go_ret
          exact ⟨ret_bool HX.out.symm, hB⟩
        · have hse' : (xs.take j).contains (m : Int) = false := by simpa using hse
          obtain ⟨h1, h2⟩ := hI.set (seenL_length _ _).symm m true
          rw [seenL_set _ xs j hlt m hm] at h1
          have hB2 := hB.trans (h2.below (Nat.le_refl _) hS)
          have HX : Hid (∀ t, t < j + 1 → bijAt xs t = true) := fun t ht => by
            by_cases h : t < j
            · exact HA.out t h
            · obtain rfl : t = j := by omega
              unfold bijAt; rw [hin, hm, hse']; rfl
          rw [hse'] at hcell2
          rw [hm] at hcell hin
          clear hA hc hm hse hse' HF HA hI h2
          go_wp2_with (go_at_call 73; refine (i_inside _ _ _ _).mono ?_; rintro e w' ⟨rfl, rfl⟩)
          go_roundw
          case rel => exact ⟨j + 1, by omega, by go_num, h1, hB2, HX.out⟩
          case measure => simp [intOf]; omega
      · have hin' : inB (xs.getD j 0) 0 ((xs.length : Int) - 1) = false := by simpa using hin
        have HX := Lib.hid (HF.out (by unfold bijAt; rw [hin']; rfl))
        clear hA hc HF hI hin
        generalize xs.getD j 0 = x at *
        go_wp2_with (go_at_call 73; refine (i_inside _ _ _ _).mono ?_; rintro e w' ⟨rfl, rfl⟩)
        go_ret
        exact ⟨ret_bool HX.out.symm, hB⟩
    · obtain rfl : j = xs.length := by omega
      have HX := Lib.hid (bijB_true HA.out)
      clear hI
      go_wp2
      go_ret
      exact ⟨ret_bool HX.out.symm, hB⟩
--== spec.IsBijection
set_option maxHeartbeats 2000000 in
theorem s_IsBijection (v : Value) (xs : List Int) (w : World) (hv : Rd w v xs) :
    Calls Try.prog 171 #[v] w (RetV w (.bool (isBijB xs))) := by
  obtain ⟨i0, hi, hz0, hz1, hz2⟩ := info_parts Try.infoBool
  obtain ⟨ao, cap, rfl, _, _, _, hA⟩ := hv
  by_cases h128 : xs.length ≤ 128
  · have HIS : Hid (isBijB xs = bijB xs) := by show _ = _; simp [isBijB, h128]
    go_enter Try.func171, Try.ntmps171
    go_wp2_with (at_make; refine wp_mkBools _ rfl _ _ rfl i0 Try.underlying145 hi hz0 hz1 hz2 _ _ _ _ xs.length rfl rfl rfl rfl (by omega) ?_)
    intro w1 hI0 hB0 hgt
    go_wp2_with fail
    go_loopw [4] (fun i wr => ∃ j : Nat, j ≤ xs.length ∧ i = .int .i64 j ∧ Bools wr w.heap.size (.slice (some ⟨w.heap.size, 0, none⟩) xs.length xs.length) (seenL xs.length (xs.take j)) ∧ Below w.heap.size w wr ∧ ∀ t, t < j → bijAt xs t = true) (fun i _ => xs.length - (intOf i).toNat)
    case atStart => exact ⟨0, Nat.zero_le _, rfl, by rw [List.take_zero, seenL_zero]; exact hI0, hB0, fun t h => by omega⟩
    case round =>
      clear hI0 hB0 hgt
      obtain ⟨j, hj, rfl, hI, hB, hall⟩ := hrel
      have hS := hB.size
      have HA := Lib.hid hall
      clear hall
      by_cases hlt : j < xs.length
      · rcases hA with hA | ⟨b, off, rfl, hA⟩
        · omega
        have hc := hA j hlt
        have hcell : wr.cell? ⟨b, off + j, none⟩ = some (.int .i64 (xs.getD j 0)) := (hB.cell (World.block_lt_of_cell? w _ hc)).trans hc
        have HF := Lib.hid (@bijB_false xs j hlt)
        by_cases hin : inB (xs.getD j 0) 0 ((xs.length : Int) - 1) = true
        · obtain ⟨m, hm⟩ : ∃ m : Nat, xs.getD j 0 = (m : Int) := ⟨(xs.getD j 0).toNat, by have := inB_true.1 hin; omega⟩
          have hml : m < xs.length := by have := inB_true.1 hin; omega
          obtain ⟨hcell2, hfz⟩ := hI.cell (seenL_length _ _).symm m hml
          rw [seenL_getD _ _ _ hml] at hcell2
          by_cases hse : (xs.take j).contains (m : Int) = true
          · have HX := Lib.hid (HF.out (by unfold bijAt; rw [hm, hse]; simp))
            rw [hse] at hcell2
            rw [hm] at hcell hin
            clear hA hc hm hse HF hI hfz
            go_wp2_with (go_at_call 68; refine (s_l01In _ _ _ _).mono ?_; rintro e w' ⟨rfl, rfl⟩)
            go_ret
            exact ⟨ret_bool (by rw [HIS.out, HX.out]), hB⟩
          · have hse' : (xs.take j).contains (m : Int) = false := by simpa using hse
            obtain ⟨h1, h2⟩ := hI.set (seenL_length _ _).symm m true
            rw [seenL_set _ xs j hlt m hm] at h1
            have hB2 := hB.trans (h2.below (Nat.le_refl _) hS)
            have HX : Hid (∀ t, t < j + 1 → bijAt xs t = true) := fun t ht => by
              by_cases h : t < j
              · exact HA.out t h
              · obtain rfl : t = j := by omega
                unfold bijAt; rw [hin, hm, hse']; rfl
            rw [hse'] at hcell2
            rw [hm] at hcell hin
            clear hA hc hm hse hse' HF HA hI h2
            go_wp2_with (go_at_call 68; refine (s_l01In _ _ _ _).mono ?_; rintro e w' ⟨rfl, rfl⟩)
            go_roundw
            case rel => exact ⟨j + 1, by omega, by go_num, h1, hB2, HX.out⟩
            case measure => simp [intOf]; omega
        · have hin' : inB (xs.getD j 0) 0 ((xs.length : Int) - 1) = false := by simpa using hin
          have HX := Lib.hid (HF.out (by unfold bijAt; rw [hin']; rfl))
          clear hA hc HF hI hin
          generalize xs.getD j 0 = x at *
          go_wp2_with (go_at_call 68; refine (s_l01In _ _ _ _).mono ?_; rintro e w' ⟨rfl, rfl⟩)
          go_ret
          exact ⟨ret_bool (by rw [HIS.out, HX.out]), hB⟩
      · obtain rfl : j = xs.length := by omega
        have HX := Lib.hid (bijB_true HA.out)
        clear hI
        go_wp2
        go_ret
        exact ⟨ret_bool (by rw [HIS.out, HX.out]), hB⟩
  · go_enter Try.func171, Try.ntmps171
    go_wp2_with fail
    go_ret
    exact ⟨ret_bool (by simp [isBijB, h128]), Below.refl _ _⟩
--== the inverse
def backTo (xs : List Int) (j : Nat) : List Int := (List.range j).foldl (fun out (t : Nat) => out.set (xs.getD t 0).toNat (t : Int)) (List.replicate xs.length 0)
def backL (xs : List Int) : List Int := backTo xs xs.length
theorem backTo_length (xs : List Int) (j : Nat) : (backTo xs j).length = xs.length := by
  unfold backTo
  induction j with
  | zero => simp
  | succ j ih => rw [List.range_succ, List.foldl_append]; simpa using ih
theorem backTo_succ (xs : List Int) (j m : Nat) (h : xs.getD j 0 = (m : Int)) : backTo xs (j + 1) = (backTo xs j).set m (j : Int) := by
  unfold backTo
  rw [List.range_succ, List.foldl_append]
  simp only [List.foldl_cons, List.foldl_nil]
  rw [h, Int.toNat_natCast]
theorem backTo_zero (xs : List Int) : backTo xs 0 = List.replicate xs.length 0 := rfl
theorem backL_length (xs : List Int) : (backL xs).length = xs.length := backTo_length _ _
--== impl.inverseBijection
set_option maxHeartbeats 2000000 in
theorem i_inverseBijection (v : Value) (xs : List Int) (w : World) (hv : Rd w v xs) (hs : xs.length ≤ 100000000) (hb : bijB xs = true) :
    Calls Try.prog 144 #[v] w (RetInts w (backL xs)) := by
  obtain ⟨i0, hi, hz0, hz1, hz2⟩ := info_parts Try.info2
  obtain ⟨ao, cap, rfl, _, _, _, hA⟩ := hv
  have HBJ := Lib.hid hb
  clear hb
  go_enter Try.func144, Try.ntmps144
  go_wp2_with (at_make; refine wp_mkInts _ rfl _ _ rfl i0 Try.underlying22 hi hz0 hz1 hz2 _ _ _ _ xs.length rfl rfl rfl rfl (by omega) ?_)
  intro w1 hI0 hB0 hgt
  go_wp2_with fail
  go_loopw [4, 5, 11] (fun _ _ i wr => ∃ j : Nat, j ≤ xs.length ∧ i = .int .i64 j ∧ Ints wr w.heap.size (.slice (some ⟨w.heap.size, 0, none⟩) xs.length xs.length) (backTo xs j) ∧ Below w.heap.size w wr) (fun _ _ i _ => xs.length - (intOf i).toNat)
  case atStart => exact ⟨0, Nat.zero_le _, rfl, by rw [backTo_zero]; exact hI0, hB0⟩
  case round =>
    clear hI0 hB0 hgt
    obtain ⟨j, hj, rfl, hI, hB⟩ := hrel
    have hS := hB.size
    by_cases hlt : j < xs.length
    · rcases hA with hA | ⟨b, off, rfl, hA⟩
      · omega
      have hc := hA j hlt
      obtain ⟨m, hm, hml⟩ := bijB_at HBJ.out j hlt
      have hcell : wr.cell? ⟨b, off + j, none⟩ = some (.int .i64 (m : Int)) := by rw [← hm]; exact (hB.cell (World.block_lt_of_cell? w _ hc)).trans hc
      obtain ⟨hcell2, hfz⟩ := hI.cell (backTo_length _ _).symm m hml
      obtain ⟨h1, h2⟩ := hI.set (backTo_length _ _).symm m (j : Int)
      rw [← backTo_succ xs j m hm] at h1
      have hB2 := hB.trans (h2.below (Nat.le_refl _) hS)
      clear hA hc hm hI h2
      generalize (backTo xs j).getD m 0 = y at *
      go_wp2
      go_roundw
      case rel => exact ⟨j + 1, by omega, by go_num, h1, hB2⟩
      case measure => simp [intOf]; omega
    · obtain rfl : j = xs.length := by omega
      go_wp2
      go_ret
      exact ⟨_, rfl, by have := hI; unfold Ints at this ⊢; unfold backL; rw [backTo_length] at this ⊢; exact this, hB⟩
--== spec.l11Back
set_option maxHeartbeats 2000000 in
theorem s_l11Back (v : Value) (xs : List Int) (w : World) (hv : Rd w v xs) (hs : xs.length ≤ 100000000) (hb : bijB xs = true) :
    Calls Try.prog 173 #[v] w (RetInts w (backL xs)) := by
  obtain ⟨i0, hi, hz0, hz1, hz2⟩ := info_parts Try.info2
  obtain ⟨ao, cap, rfl, _, _, _, hA⟩ := hv
  have HBJ := Lib.hid hb
  clear hb
  go_enter Try.func173, Try.ntmps173
  go_wp2_with (at_make; refine wp_mkInts _ rfl _ _ rfl i0 Try.underlying22 hi hz0 hz1 hz2 _ _ _ _ xs.length rfl rfl rfl rfl (by omega) ?_)
  intro w1 hI0 hB0 hgt
  go_wp2_with fail
  go_loopw [4] (fun i wr => ∃ j : Nat, j ≤ xs.length ∧ i = .int .i64 j ∧ Ints wr w.heap.size (.slice (some ⟨w.heap.size, 0, none⟩) xs.length xs.length) (backTo xs j) ∧ Below w.heap.size w wr) (fun i _ => xs.length - (intOf i).toNat)
  case atStart => exact ⟨0, Nat.zero_le _, rfl, by rw [backTo_zero]; exact hI0, hB0⟩
  case round =>
    clear hI0 hB0 hgt
    obtain ⟨j, hj, rfl, hI, hB⟩ := hrel
    have hS := hB.size
    by_cases hlt : j < xs.length
    · rcases hA with hA | ⟨b, off, rfl, hA⟩
      · omega
      have hc := hA j hlt
      obtain ⟨m, hm, hml⟩ := bijB_at HBJ.out j hlt
      have hcell : wr.cell? ⟨b, off + j, none⟩ = some (.int .i64 (m : Int)) := by rw [← hm]; exact (hB.cell (World.block_lt_of_cell? w _ hc)).trans hc
      obtain ⟨hcell2, hfz⟩ := hI.cell (backTo_length _ _).symm m hml
      obtain ⟨h1, h2⟩ := hI.set (backTo_length _ _).symm m (j : Int)
      rw [← backTo_succ xs j m hm] at h1
      have hB2 := hB.trans (h2.below (Nat.le_refl _) hS)
      clear hA hc hm hI h2
      generalize (backTo xs j).getD m 0 = y at *
      go_wp2
      go_roundw
      case rel => exact ⟨j + 1, by omega, by go_num, h1, hB2⟩
      case measure => simp [intOf]; omega
    · obtain rfl : j = xs.length := by omega
      go_wp2
      go_ret
      exact ⟨_, rfl, by have := hI; unfold Ints at this ⊢; unfold backL; rw [backTo_length] at this ⊢; exact this, hB⟩
--== composition
def compL (xs ys : List Int) : List Int := xs.map fun x => ys.getD x.toNat 0
theorem compL_length (xs ys : List Int) : (compL xs ys).length = xs.length := by simp [compL]
theorem compL_succ (xs ys : List Int) (j m : Nat) (hj : j < xs.length) (h : xs.getD j 0 = (m : Int)) : compL (xs.take (j + 1)) ys = compL (xs.take j) ys ++ [ys.getD m 0] := by
  rw [take_snoc xs j 0 hj, h]; simp [compL]
def InR (xs : List Int) (n : Nat) : Prop := ∀ j, j < xs.length → ∃ m : Nat, xs.getD j 0 = (m : Int) ∧ m < n
theorem bijB_inR {xs : List Int} {n : Nat} (h : bijB xs = true) (hn : xs.length = n) : InR xs n := fun j hj => by subst hn; exact bijB_at h j hj
--== make
/-- 'make([]int64, 0, n)' -/
theorem wp_mkInts0 {P : Program} (w : World) {ops : Array Oper} {rest : List Oper} {o : Oper} {a : Act} {Q : Exit → Act → World → Prop} (hgd : o.guard = none) (l c : Operand) (ho : o.op = Op.makeSlice 22 l c)
    (i : TypeInfo) (ht : P.underlying 22 = some (.slice 2)) (hi : P.info? 2 = some i) (hz : i.zero = some (.int .i64 0)) (hsize : i.size = 1) (hby : i.bytes = 8)
    (kl kc : IntKind) (C : Int) (n : Nat) (hl : a.eval l = .int kl 0) (hc : a.eval c = .int kc C) (hC : C = (n : Int)) (hn : n ≤ 1000000000)
    (h : ∀ w', Ints w' w.heap.size (.slice (some ⟨w.heap.size, 0, none⟩) 0 n) [] → Below w.heap.size w w' → w.heap.size < w'.heap.size → wpList P ops Q rest (a.put o.dst (.slice (some ⟨w.heap.size, 0, none⟩) 0 n)) w') :
    wpList P ops Q (o :: rest) a w := by
  refine wpList_make_own w hgd l c 22 ho w.heap.size 2 i (.int .i64 0) 1 ht hi hz hsize kl kc C n hl hc hC (by rw [hby]; omega) (by unfold maxLen; omega) (Nat.le_refl _) ?_
  intro w' hown hg
  exact h w' hown ((Below.refl _ _).grown hg (Nat.le_refl _) (by intro k hk; cases hk)) (World.ownsRow.lt hown _ rfl).2
--== impl.compose
set_option maxHeartbeats 2000000 in
theorem i_compose (va vb : Value) (xs ys : List Int) (w : World) (ha : Rd w va xs) (hb : Rd w vb ys) (hs : xs.length ≤ 100000000) (hr : InR xs ys.length) :
    Calls Try.prog 145 #[va, vb] w (RetInts w (compL xs ys)) := by
  obtain ⟨i0, hi, hz0, hz1, hz2⟩ := info_parts Try.info2
  obtain ⟨ao, cap, rfl, _, _, _, hA⟩ := ha
  obtain ⟨bo, cap', rfl, _, _, _, hBB⟩ := hb
  have HR := Lib.hid hr
  clear hr
  go_enter Try.func145, Try.ntmps145
  go_wp2_with (at_make; refine wp_mkInts0 _ rfl _ _ rfl i0 Try.underlying22 hi hz0 hz1 hz2 _ _ _ xs.length rfl rfl rfl (by omega) ?_)
  intro w1 hI0 hB0 hgt
  go_wp2_with fail
  go_loopw [5, 7, 13] (fun u _ i wr => ∃ j : Nat, j ≤ xs.length ∧ i = .int .i64 j ∧ Ints wr w.heap.size u (compL (xs.take j) ys) ∧ Below w.heap.size w wr) (fun _ _ i _ => xs.length - (intOf i).toNat)
  case atStart => exact ⟨0, Nat.zero_le _, rfl, hI0, hB0⟩
  case round =>
    clear hI0 hB0 hgt
    obtain ⟨j, hj, rfl, hI, hB⟩ := hrel
    have hS := hB.size
    by_cases hlt : j < xs.length
    · rcases hA with hA | ⟨b, off, rfl, hA⟩
      · omega
      have hc := hA j hlt
      obtain ⟨m, hm, hml⟩ := HR.out j hlt
      have hcell : wr.cell? ⟨b, off + j, none⟩ = some (.int .i64 (m : Int)) := by rw [← hm]; exact (hB.cell (World.block_lt_of_cell? w _ hc)).trans hc
      rcases hBB with hBB | ⟨b', off', rfl, hBB⟩
      · omega
      have hc' := hBB m hml
      have hcell' : wr.cell? ⟨b', off' + m, none⟩ = some (.int .i64 (ys.getD m 0)) := (hB.cell (World.block_lt_of_cell? w _ hc')).trans hc'
      have HS := Lib.hid (compL_succ xs ys j m hlt hm)
      have hll : (compL (xs.take j) ys).length ≤ 1000000000 := by rw [compL_length]; simp; omega
      clear hA hBB hc hc' hm
      generalize ys.getD m 0 = y at *
      generalize compL (xs.take j) ys = R at *
      go_wp2_with (at_builtin; refine wp_app1 _ rfl _ _ rfl w.heap.size i0 Try.underlying22 hi hz0 hz1 hz2 _ _ rfl hI y rfl hll (by omega) ?_)
      intro v' w2 hI1 hG hB1
      go_wp2
      go_roundw
      case rel => exact ⟨j + 1, by omega, by go_num, by rw [HS.out]; exact hI1, hB.trans hB1⟩
      case measure => simp [intOf]; omega
    · obtain rfl : j = xs.length := by omega
      rw [List.take_length] at hI
      go_wp2
      go_ret
      exact ⟨_, rfl, hI, hB⟩
--== spec.l11After
set_option maxHeartbeats 2000000 in
theorem s_l11After (va vb : Value) (xs ys : List Int) (w : World) (ha : Rd w va xs) (hb : Rd w vb ys) (hs : xs.length ≤ 100000000) (hr : InR xs ys.length) :
    Calls Try.prog 172 #[va, vb] w (RetInts w (compL xs ys)) := by
  obtain ⟨i0, hi, hz0, hz1, hz2⟩ := info_parts Try.info2
  obtain ⟨ao, cap, rfl, _, _, _, hA⟩ := ha
  obtain ⟨bo, cap', rfl, _, _, _, hBB⟩ := hb
  have HR := Lib.hid hr
  clear hr
  go_enter Try.func172, Try.ntmps172
  go_wp2
  go_loopw [5, 6] (fun u i wr => ∃ j : Nat, j ≤ xs.length ∧ i = .int .i64 j ∧ Ints wr w.heap.size u (compL (xs.take j) ys) ∧ Below w.heap.size w wr) (fun _ i _ => xs.length - (intOf i).toNat)
  case atStart => exact ⟨0, Nat.zero_le _, rfl, Ints.empty w, below_alloc _ _⟩
  case round =>
    obtain ⟨j, hj, rfl, hI, hB⟩ := hrel
    have hS := hB.size
    by_cases hlt : j < xs.length
    · rcases hA with hA | ⟨b, off, rfl, hA⟩
      · omega
      have hc := hA j hlt
      obtain ⟨m, hm, hml⟩ := HR.out j hlt
      have hcell : wr.cell? ⟨b, off + j, none⟩ = some (.int .i64 (m : Int)) := by rw [← hm]; exact (hB.cell (World.block_lt_of_cell? w _ hc)).trans hc
      rcases hBB with hBB | ⟨b', off', rfl, hBB⟩
      · omega
      have hc' := hBB m hml
      have hcell' : wr.cell? ⟨b', off' + m, none⟩ = some (.int .i64 (ys.getD m 0)) := (hB.cell (World.block_lt_of_cell? w _ hc')).trans hc'
      have HS := Lib.hid (compL_succ xs ys j m hlt hm)
      have hll : (compL (xs.take j) ys).length ≤ 1000000000 := by rw [compL_length]; simp; omega
      clear hA hBB hc hc' hm
      generalize ys.getD m 0 = y at *
      generalize compL (xs.take j) ys = R at *
      go_wp2_with (at_builtin; refine wp_app1 _ rfl _ _ rfl w.heap.size i0 Try.underlying22 hi hz0 hz1 hz2 _ _ rfl hI y rfl hll (by omega) ?_)
      intro v' w2 hI1 hG hB1
      go_wp2
      go_roundw
      case rel => exact ⟨j + 1, by omega, by go_num, by rw [HS.out]; exact hI1, hB.trans hB1⟩
      case measure => simp [intOf]; omega
    · obtain rfl : j = xs.length := by omega
      rw [List.take_length] at hI
      go_wp2
      go_ret
      exact ⟨_, rfl, hI, hB⟩
--== exported
def ibL (xs : List Int) : List Int := if isBijB xs then backL xs else []
def ibC (xs : List Int) : Int := if isBijB xs then 0 else 1
def cbC (xs ys : List Int) : Int := if isBijB xs && isBijB ys then (if xs.length = ys.length then 0 else 2) else 1
def cbL (xs ys : List Int) : List Int := if cbC xs ys = 0 then compL xs ys else []
theorem len_InvertBijection (xs : List Int) : (ibL xs).length ≤ 1000000000 := by
  unfold ibL; split
  · rename_i h; have := (isBijB_at h).2; rw [backL_length]; omega
  · simp
theorem cbC_zero {xs ys : List Int} (h : cbC xs ys = 0) : isBijB xs = true ∧ isBijB ys = true ∧ xs.length = ys.length := by
  unfold cbC at h
  split at h
  · rename_i h1; simp only [Bool.and_eq_true] at h1
    split at h
    · rename_i h2; exact ⟨h1.1, h1.2, h2⟩
    · simp at h
  · simp at h
theorem len_ComposeBijections (xs ys : List Int) : (cbL xs ys).length ≤ 1000000000 := by
  unfold cbL; split
  · rename_i h; have := (isBijB_at (cbC_zero h).1).2; rw [compL_length]; omega
  · simp
