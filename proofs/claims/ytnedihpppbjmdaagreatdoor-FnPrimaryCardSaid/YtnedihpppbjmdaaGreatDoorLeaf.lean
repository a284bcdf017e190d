/-
  The contracts of the smallest functions: ranges, copies, comparisons, marks.
-/
import Derived.Test.YtnedihpppbjmdaaGreatDoorBase
namespace Go.Proofs.YtnedihpppbjmdaaGreatDoor
set_option linter.unusedVariables false
set_option linter.unusedSimpArgs false
set_option maxRecDepth 100000
open Go.RowKit

def inB (n lo hi : Int) : Bool := decide (lo ≤ n) && decide (n ≤ hi)
theorem inB_true {n lo hi : Int} : inB n lo hi = true ↔ lo ≤ n ∧ n ≤ hi := by simp [inB]
theorem inB_false {n lo hi : Int} : inB n lo hi = false ↔ ¬ (lo ≤ n ∧ n ≤ hi) := by
  rw [← inB_true]; simp

--== spec.l01In
theorem s_l01In (n lo hi : Int) (w : World) : Calls Tryz.prog 35 #[.int .i64 n, .int .i64 lo, .int .i64 hi] w fun e w' => e = .returned (.bool (inB n lo hi)) ∧ w = w' := by
  by_cases h1 : lo ≤ n <;> by_cases h2 : n ≤ hi <;>
    (go_enter Tryz.func35, Tryz.ntmps35
     go_wp2
     go_ret
     exact ⟨ret_bool (by simp [inB, h1, h2]), rfl⟩)
--== impl.inside
theorem i_inside (n lo hi : Int) (w : World) : Calls Tryz.prog 25 #[.int .i64 n, .int .i64 lo, .int .i64 hi] w fun e w' => e = .returned (.bool (inB n lo hi)) ∧ w = w' := by
  by_cases h1 : lo ≤ n <;> by_cases h2 : n ≤ hi <;>
    (go_enter Tryz.func25, Tryz.ntmps25
     go_wp2
     go_ret
     exact ⟨ret_bool (by simp [inB, h1, h2]), rfl⟩)
--== marks
def marks (k : Int) (n : Nat) : List Int := (List.range n).map fun (i : Nat) => k + i
def marksTo (k : Int) (xs : List Int) (j : Nat) : List Int := marks k j ++ xs.drop j
theorem marks_length (k : Int) (n : Nat) : (marks k n).length = n := by simp [marks]
theorem marks_getD (k : Int) (n j : Nat) (h : j < n) : (marks k n).getD j 0 = k + j := by simp [marks, List.getD, h]
theorem marksTo_length (k : Int) (xs : List Int) (j : Nat) (h : j ≤ xs.length) : (marksTo k xs j).length = xs.length := by simp [marksTo, marks]; omega
theorem marksTo_zero (k : Int) (xs : List Int) : marksTo k xs 0 = xs := by simp [marksTo, marks]
theorem marksTo_all (k : Int) (xs : List Int) : marksTo k xs xs.length = marks k xs.length := by simp [marksTo]
theorem marksTo_set (k : Int) (xs : List Int) (j : Nat) (h : j < xs.length) : (marksTo k xs j).set j (k + j) = marksTo k xs (j + 1) := by
  unfold marksTo
  rw [List.set_append_right _ _ (by simp [marks]), marks_length, Nat.sub_self]
  have : xs.drop j = xs[j] :: xs.drop (j + 1) := List.drop_eq_getElem_cons h
  rw [this, List.set_cons_zero]
  simp [marks, List.range_succ]

theorem Ints.form' {w : World} {B : Nat} {v : Value} {xs : List Int} (h : Ints w B v xs) :
    ∃ ao cap, v = .slice ao xs.length cap ∧ xs.length ≤ cap ∧ cap ≤ 9223372036854775807 ∧ (xs.length = 0 ∨ ∃ g, ao = some ⟨g, 0, none⟩) := by
  by_cases h0 : xs.length = 0
  · obtain ⟨ao, cap, hv, h1, h2⟩ := h.form
    exact ⟨ao, cap, hv, h1, h2, .inl h0⟩
  · obtain ⟨g, cap, hv, _, _, h1, h2, _⟩ := h.open (by omega)
    exact ⟨_, cap, hv, h1, h2, .inr ⟨g, rfl⟩⟩

theorem Grew.refl (w : World) (v : Value) : Grew w w v v := ⟨World.grownBy.refl _ _, fun _ h => .inl h⟩
theorem Grew.trans {a b c : World} {u v x : Value} (h : Grew a b u v) (k : Grew b c v x) : Grew a c u x := by
  refine ⟨⟨k.grown.os.trans h.grown.os, k.grown.tape.trans h.grown.tape, k.grown.output.trans h.grown.output, Nat.le_trans h.grown.size k.grown.size, fun i hi hne => ?_⟩, fun g hg => ?_⟩
  · have h1 := h.grown.size
    rw [k.grown.block i (by omega) ?_, h.grown.block i hi hne]
    intro e
    rcases h.moved i e.symm with h2 | h2
    · exact hne h2.symm
    · omega
  · rcases k.moved g hg with h1 | h1
    · exact h.moved g h1
    · exact .inr (Nat.le_trans h.grown.size h1)
theorem Grew.of_chg {w w' : World} {g n c : Nat} (h : Chg g (g + 1) w w') : Grew w w' (.slice (some ⟨g, 0, none⟩) n c) (.slice (some ⟨g, 0, none⟩) n c) :=
  ⟨⟨h.os, h.tape, h.output, h.size, fun k hk hne => h.block k hk (by simp [Value.ownBlock] at hne; omega)⟩, fun _ h => .inl h⟩

/-- the cell and the mark of an owned slice -/
theorem Ints.cell {w : World} {B g n cap : Nat} {xs : List Int} (h : Ints w B (.slice (some ⟨g, 0, none⟩) n cap) xs) (hn : n = xs.length) (j : Nat) (hj : j < n) :
    w.cell? ⟨g, j, none⟩ = some (.int .i64 (xs.getD j 0)) ∧ w.frozen? ⟨g, j, none⟩ = false := by
  subst hn
  have h1 : w.ownsRow B 2 1 (.slice (some ⟨g, 0, none⟩) xs.length cap) xs.length (xs.map (Value.int .i64)) := h
  exact ⟨by rw [h1.cellAt j (by omega), getD_map_int xs j hj], h1.frozenAt j⟩

