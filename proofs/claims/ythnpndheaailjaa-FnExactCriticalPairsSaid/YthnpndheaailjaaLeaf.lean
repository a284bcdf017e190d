/-
  The contracts of the smallest functions: ranges, copies, comparisons, marks.
-/
import Derived.Test.YthnpndheaailjaaBase
namespace Go.Proofs.Ythnpndheaailjaa
set_option linter.unusedVariables false
set_option linter.unusedSimpArgs false
set_option maxRecDepth 100000
open Go.RowKit

def inB (n lo hi : Int) : Bool := decide (lo ≤ n) && decide (n ≤ hi)
theorem inB_true {n lo hi : Int} : inB n lo hi = true ↔ lo ≤ n ∧ n ≤ hi := by simp [inB]
theorem inB_false {n lo hi : Int} : inB n lo hi = false ↔ ¬ (lo ≤ n ∧ n ≤ hi) := by
  rw [← inB_true]; simp

--== spec.l01In
theorem s_l01In (n lo hi : Int) (w : World) : Calls Try.prog 68 #[.int .i64 n, .int .i64 lo, .int .i64 hi] w fun e w' => e = .returned (.bool (inB n lo hi)) ∧ w = w' := by
  by_cases h1 : lo ≤ n <;> by_cases h2 : n ≤ hi <;>
    (go_enter Try.func68, Try.ntmps68
     go_wp2
     go_ret
     exact ⟨ret_bool (by simp [inB, h1, h2]), rfl⟩)
--== impl.inside
theorem i_inside (n lo hi : Int) (w : World) : Calls Try.prog 73 #[.int .i64 n, .int .i64 lo, .int .i64 hi] w fun e w' => e = .returned (.bool (inB n lo hi)) ∧ w = w' := by
  by_cases h1 : lo ≤ n <;> by_cases h2 : n ≤ hi <;>
    (go_enter Try.func73, Try.ntmps73
     go_wp2
     go_ret
     exact ⟨ret_bool (by simp [inB, h1, h2]), rfl⟩)
--== impl.gensFit
theorem i_gensFit (k : Int) (w : World) : Calls Try.prog 111 #[.int .i64 k] w fun e w' => e = .returned (.bool (inB k 0 6)) ∧ w = w' := by
  go_enter Try.func111, Try.ntmps111
  go_wp2_with (go_at_call 73; refine (i_inside _ _ _ _).mono ?_; rintro e w' ⟨rfl, rfl⟩)
  go_ret
  exact ⟨rfl, rfl⟩
--== laws.toInt64S
def fillTo (xs : List Int) (k : Nat) : List Int := xs.take k ++ List.replicate (xs.length - k) 0
theorem fillTo_length (xs : List Int) (k : Nat) (h : k ≤ xs.length) : (fillTo xs k).length = xs.length := by simp [fillTo]; omega
theorem fillTo_zero (xs : List Int) : fillTo xs 0 = List.replicate xs.length 0 := by simp [fillTo]
theorem fillTo_all (xs : List Int) : fillTo xs xs.length = xs := by simp [fillTo]
theorem fillTo_set (xs : List Int) (k : Nat) (h : k < xs.length) : (fillTo xs k).set k (xs.getD k 0) = fillTo xs (k + 1) := by
  unfold fillTo
  rw [take_snoc xs k 0 h, List.set_append_right _ _ (by simp; omega)]
  have : xs.length - k = (xs.length - (k + 1)) + 1 := by omega
  rw [this, List.replicate_succ]
  simp [List.length_take, Nat.min_eq_left (Nat.le_of_lt h)]

set_option maxHeartbeats 400000 in
theorem l_toInt64S (v : Value) (xs : List Int) (w : World) (hv : Rd w v xs) (hs : xs.length ≤ 1000000000) :
    Calls Try.prog 15 #[v] w (RetInts w xs) := by
  obtain ⟨i0, hi, hz0, hz1, hz2⟩ := info_parts Try.info2
  obtain ⟨ao, cap, rfl, hc1, hc2, _, hA⟩ := hv
  go_enter Try.func15, Try.ntmps15
  go_wp2_with (at_make; refine wp_mkInts _ rfl _ _ rfl i0 Try.underlying22 hi hz0 hz1 hz2 _ _ _ _ xs.length rfl rfl rfl rfl (by omega) ?_)
  intro w1 hI hB _
  rw [← fillTo_zero] at hI
  go_wp2
  go_loopw [4] (fun i wr => ∃ k : Nat, k ≤ xs.length ∧ i = .int .i64 k ∧ Ints wr w.heap.size (.slice (some ⟨w.heap.size, 0, none⟩) xs.length xs.length) (fillTo xs k) ∧ Below w.heap.size w wr) (fun i _ => xs.length - (intOf i).toNat)
  case atStart => exact ⟨0, Nat.zero_le _, rfl, hI, hB⟩
  case round =>
    clear hI hB
    obtain ⟨k, hk, rfl, hI, hB⟩ := hrel
    by_cases hlt : k < xs.length
    · rcases hA with hA | ⟨b, off, rfl, hA⟩
      · omega
      have hc := hA k hlt
      have hcell : wr.cell? ⟨b, off + k, none⟩ = some (.int .i64 (xs.getD k 0)) := (hB.cell (World.block_lt_of_cell? w _ hc)).trans hc
      obtain ⟨h1, h2⟩ := hI.set (by rw [fillTo_length _ _ hk]) k (xs.getD k 0)
      rw [fillTo_set xs k hlt] at h1
      have hB2 := hB.trans (h2.below (Nat.le_refl _) hB.size)
      have hold := World.ownsRow.cellAt (xs := (fillTo xs k).map (Value.int .i64)) (n := xs.length) (by have := hI; unfold Ints at this; rw [fillTo_length _ _ hk] at this; exact this) k (by omega)
      rw [getD_map_int _ _ (by rw [fillTo_length _ _ hk]; exact hlt)] at hold
      have hfz := World.ownsRow.frozenAt (xs := (fillTo xs k).map (Value.int .i64)) (n := xs.length) (by have := hI; unfold Ints at this; rw [fillTo_length _ _ hk] at this; exact this) k
      clear hA hc hI h2
      generalize xs.getD k 0 = x at *
      generalize (fillTo xs k).getD k 0 = x0 at *
      go_wp2
      go_roundw
      case rel => exact ⟨k + 1, by omega, by go_num, h1, hB2⟩
      case measure => simp [intOf]; omega
    · obtain rfl : k = xs.length := by omega
      rw [fillTo_all] at hI
      go_wp2
      go_ret
      exact ⟨_, rfl, hI, hB⟩
--== laws.eqInt64S
set_option maxHeartbeats 400000 in
theorem l_eqInt64S (va vb : Value) (xs ys : List Int) (w : World) (ha : Rd w va xs) (hb : Rd w vb ys) :
    Calls Try.prog 17 #[va, vb] w (RetQuiet w (.bool (decide (xs = ys)))) := by
  obtain ⟨ao, cap, rfl, ha1, ha2, _, hA⟩ := ha
  obtain ⟨bo, cap', rfl, hb1, hb2, _, hB⟩ := hb
  by_cases hl : xs.length = ys.length
  · have HL := Lib.hid hl
    have hl1 : ((xs.length : Int) != ys.length) = false := by simp [hl]
    have hl2 : xs.length ≤ ys.length := by omega
    have hl3 : ys.length ≤ xs.length := by omega
    clear hl
    go_enter Try.func17, Try.ntmps17
    go_wp2
    go_loopw [5] (fun i wr => ∃ k : Nat, k ≤ xs.length ∧ i = .int .i64 k ∧ (∀ j, j < k → xs.getD j 0 = ys.getD j 0) ∧ ∃ n, wr = w.drewN n) (fun i _ => xs.length - (intOf i).toNat)
    case atStart => exact ⟨0, Nat.zero_le _, rfl, fun j h => by omega, 0, rfl⟩
    case round =>
      obtain ⟨k, hk, rfl, hpre, n, rfl⟩ := hrel
      have HP := Lib.hid hpre
      clear hpre
      by_cases hlt : k < xs.length
      · rcases hA with hA | ⟨b, off, rfl, hA⟩
        · omega
        rcases hB with hB | ⟨b', off', rfl, hB⟩
        · omega
        have hA' := hA k hlt
        have hB' := hB k (by omega)
        clear hA hB
        by_cases hab : xs.getD k 0 = ys.getD k 0
        · have HAB := Lib.hid hab
          rw [← hab] at hB'
          clear hab
          have HX : Hid (∀ j, j < k + 1 → xs.getD j 0 = ys.getD j 0) := fun j hj => by
            by_cases h : j < k
            · exact HP.out j h
            · obtain rfl : j = k := by omega
              exact HAB.out
          clear HP HAB
          generalize xs.getD k 0 = x at hA' hB'
          go_wp2
          go_quiet (fail)
          go_wp2
          go_roundw
          case rel => exact ⟨k + 1, by omega, by go_num, HX.out, by first | exact ⟨_, rfl⟩ | exact drewN_drewN _ _ _⟩
          case measure => simp [intOf]; omega
        · have HAB := Lib.hid hab
          have hab1 : (xs.getD k 0 != ys.getD k 0) = true := by simpa using hab
          clear hab HP
          have HX : Hid (decide (xs = ys) = false) := decide_eq_false fun e => HAB.out (by rw [e])
          clear HAB
          generalize xs.getD k 0 = x at hA' hab1
          generalize ys.getD k 0 = y at hB' hab1
          go_wp2
          go_quiet (fail)
          go_wp2
          go_ret
          exact ⟨ret_bool HX.out.symm, by first | exact ⟨_, rfl⟩ | exact drewN_drewN _ _ _⟩
      · go_wp2
        go_ret
        exact ⟨ret_bool (decide_eq_true (all_eq HL.out fun j hj => HP.out j (by omega))).symm, n, rfl⟩
  · have HL := Lib.hid hl
    have hl1 : ((xs.length : Int) != ys.length) = true := by simp; omega
    clear hl
    go_enter Try.func17, Try.ntmps17
    go_wp2
    go_ret
    exact ⟨ret_bool (decide_eq_false fun e => HL.out (by rw [e])).symm, 0, rfl⟩
--== marks
def marks (k : Int) (n : Nat) : List Int := (List.range n).map fun (i : Nat) => k + i
def marksTo (k : Int) (xs : List Int) (j : Nat) : List Int := marks k j ++ xs.drop j
theorem marks_length (k : Int) (n : Nat) : (marks k n).length = n := by simp [marks]
theorem marks_getD (k : Int) (n j : Nat) (h : j < n) : (marks k n).getD j 0 = k + j := by simp [marks, List.getD, h]
theorem marksTo_length (k : Int) (xs : List Int) (j : Nat) (h : j ≤ xs.length) : (marksTo k xs j).length = xs.length := by simp [marksTo, marks]; omega
theorem marksTo_zero (k : Int) (xs : List Int) : marksTo k xs 0 = xs := by simp [marksTo, marks]
theorem marksTo_all (k : Int) (xs : List Int) : marksTo k xs xs.length = marks k xs.length := by simp [marksTo]
theorem marksTo_set (k : Int) (xs : List Int) (j : Nat) (h : j < xs.length) : (marksTo k xs j).set j (k + j) = marksTo k xs (j + 1) := by
  unfold marksTo
  rw [List.set_append_right _ _ (by simp [marks]), marks_length, Nat.sub_self]
  have : xs.drop j = xs[j] :: xs.drop (j + 1) := List.drop_eq_getElem_cons h
  rw [this, List.set_cons_zero]
  simp [marks, List.range_succ]

theorem Ints.form' {w : World} {B : Nat} {v : Value} {xs : List Int} (h : Ints w B v xs) :
    ∃ ao cap, v = .slice ao xs.length cap ∧ xs.length ≤ cap ∧ cap ≤ 9223372036854775807 ∧ (xs.length = 0 ∨ ∃ g, ao = some ⟨g, 0, none⟩) := by
  by_cases h0 : xs.length = 0
  · obtain ⟨ao, cap, hv, h1, h2⟩ := h.form
    exact ⟨ao, cap, hv, h1, h2, .inl h0⟩
  · obtain ⟨g, cap, hv, _, _, h1, h2, _⟩ := h.open (by omega)
    exact ⟨_, cap, hv, h1, h2, .inr ⟨g, rfl⟩⟩

theorem Grew.refl (w : World) (v : Value) : Grew w w v v := ⟨World.grownBy.refl _ _, fun _ h => .inl h⟩
theorem Grew.trans {a b c : World} {u v x : Value} (h : Grew a b u v) (k : Grew b c v x) : Grew a c u x := by
  refine ⟨⟨k.grown.os.trans h.grown.os, k.grown.tape.trans h.grown.tape, k.grown.output.trans h.grown.output, Nat.le_trans h.grown.size k.grown.size, fun i hi hne => ?_⟩, fun g hg => ?_⟩
  · have h1 := h.grown.size
    rw [k.grown.block i (by omega) ?_, h.grown.block i hi hne]
    intro e
    rcases h.moved i e.symm with h2 | h2
    · exact hne h2.symm
    · omega
  · rcases k.moved g hg with h1 | h1
    · exact h.moved g h1
    · exact .inr (Nat.le_trans h.grown.size h1)
theorem Grew.of_chg {w w' : World} {g n c : Nat} (h : Chg g (g + 1) w w') : Grew w w' (.slice (some ⟨g, 0, none⟩) n c) (.slice (some ⟨g, 0, none⟩) n c) :=
  ⟨⟨h.os, h.tape, h.output, h.size, fun k hk hne => h.block k hk (by simp [Value.ownBlock] at hne; omega)⟩, fun _ h => .inl h⟩

/-- the cell and the mark of an owned slice -/
theorem Ints.cell {w : World} {B g n cap : Nat} {xs : List Int} (h : Ints w B (.slice (some ⟨g, 0, none⟩) n cap) xs) (hn : n = xs.length) (j : Nat) (hj : j < n) :
    w.cell? ⟨g, j, none⟩ = some (.int .i64 (xs.getD j 0)) ∧ w.frozen? ⟨g, j, none⟩ = false := by
  subst hn
  have h1 : w.ownsRow B 2 1 (.slice (some ⟨g, 0, none⟩) xs.length cap) xs.length (xs.map (Value.int .i64)) := h
  exact ⟨by rw [h1.cellAt j (by omega), getD_map_int xs j hj], h1.frozenAt j⟩

--== laws.markInt64S
set_option maxHeartbeats 400000 in
theorem l_markInt64S (B : Nat) (v : Value) (xs : List Int) (k : Int) (w : World) (hv : Ints w B v xs) (hk0 : 0 ≤ k) (hk1 : k ≤ 1000000000000) (hs : xs.length ≤ 1000000000) :
    Calls Try.prog 18 #[v, .int .i64 k] w fun e w' => e = .returned (.int .i64 (k + xs.length)) ∧ Ints w' B v (marks k xs.length) ∧ Grew w w' v v ∧ w'.heap.size = w.heap.size := by
  obtain ⟨ao, cap, rfl, hc1, hc2, hA⟩ := hv.form'
  go_enter Try.func18, Try.ntmps18
  go_wp2
  go_loopw [1, 5] (fun u i wr => ∃ j : Nat, j ≤ xs.length ∧ i = .int .i64 j ∧ u = .int .i64 (k + j) ∧ Ints wr B (.slice ao xs.length cap) (marksTo k xs j) ∧ Grew w wr (.slice ao xs.length cap) (.slice ao xs.length cap) ∧ wr.heap.size = w.heap.size) (fun _ i _ => xs.length - (intOf i).toNat)
  case atStart => exact ⟨0, Nat.zero_le _, rfl, by go_num, by rw [marksTo_zero]; exact hv, Grew.refl _ _, rfl⟩
  case round =>
    clear hv
    obtain ⟨j, hj, rfl, rfl, hI, hG, hS⟩ := hrel
    have hS' := Lib.hid hS
    clear hS
    by_cases hlt : j < xs.length
    · rcases hA with hA | ⟨g, rfl⟩
      · omega
      obtain ⟨hcell, hfz⟩ := hI.cell (marksTo_length _ _ _ hj).symm j hlt
      obtain ⟨h1, h2⟩ := hI.set (marksTo_length _ _ _ hj).symm j (k + j)
      rw [marksTo_set k xs j hlt] at h1
      have hG2 := hG.trans (Grew.of_chg (n := xs.length) (c := cap) h2)
      clear hI h2 hG
      generalize (marksTo k xs j).getD j 0 = x0 at *
      go_wp2
      go_roundw
      case rel => exact ⟨j + 1, by omega, by go_num, by go_num, h1, hG2, by simpa using hS'.out⟩
      case measure => simp [intOf]; omega
    · obtain rfl : j = xs.length := by omega
      rw [marksTo_all] at hI
      go_wp2
      go_ret
      exact ⟨rfl, hI, hG, hS'.out⟩
--== laws.heldInt64S
set_option maxHeartbeats 400000 in
theorem l_heldInt64S (v : Value) (n : Nat) (k : Int) (w : World) (hv : Rd w v (marks k n)) (hk0 : 0 ≤ k) (hk1 : k ≤ 1000000000000) (hs : n ≤ 1000000000) :
    Calls Try.prog 19 #[v, .int .i64 k] w fun e w' => e = .returned (.int .i64 (k + n)) ∧ w = w' := by
  obtain ⟨ao, cap, rfl, hc1, hc2, _, hA⟩ := hv
  rw [marks_length] at *
  go_enter Try.func19, Try.ntmps19
  go_wp2
  go_loop [1, 5] (fun u i => ∃ j : Nat, j ≤ n ∧ i = .int .i64 j ∧ u = .int .i64 (k + j)) (fun _ i => n - (intOf i).toNat)
  case atStart => exact ⟨0, Nat.zero_le _, rfl, by go_num⟩
  case round =>
    obtain ⟨j, hj, rfl, rfl⟩ := hrel
    by_cases hlt : j < n
    · rcases hA with hA | ⟨b, off, rfl, hA⟩
      · omega
      have hcell := hA j hlt
      rw [marks_getD k n j hlt] at hcell
      clear hA
      go_wp2
      go_round
      case rel => exact ⟨j + 1, by omega, by go_num, by go_num⟩
      case measure => simp [intOf]; omega
    · obtain rfl : j = n := by omega
      go_wp2
      go_ret
      exact ⟨rfl, rfl⟩
end Go.Proofs.Ythnpndheaailjaa
