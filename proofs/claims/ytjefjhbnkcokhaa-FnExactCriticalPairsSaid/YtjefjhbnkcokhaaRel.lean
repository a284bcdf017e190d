/-
  PresentationRelators.
-/
import Derived.Test.YtjefjhbnkcokhaaTriv
import Derived.Test.YtjefjhbnkcokhaaPow
import Derived.Deep.RegionHeld3
import Derived.IntWalk
namespace Go.Proofs.Ytjefjhbnkcokhaa
set_option linter.unusedVariables false
set_option linter.unusedSimpArgs false
set_option maxRecDepth 100000
open Go.RowKit

theorem run_appI (w : World) (ty : TypeId) (B : Nat) (v : Value) (xs : List Int) (hown : Ints w B v xs) (vx : Value) (ys : List Int) (hrd : Rd w vx ys) (hn : xs.length ≤ 1000000000) (hm : ys.length ≤ 1000000000) (hB : B ≤ w.heap.size) :
    ∃ v' w', (Builtin.append_ #[22, 22] ty #[v, vx]).run Try.prog w = .ok v' w' ∧ Ints w' B v' (xs ++ ys) ∧ Below B w w' := by
  obtain ⟨i0, hi, hz0, hz1, hz2⟩ := info_parts Try.info2
  obtain ⟨v', w', hr, h1, h2, h3⟩ := run_app w B 22 ty 2 i0 (.int .i64 0) 8 Try.underlying22 hi hz0 hz1 hz2 rfl v xs.length (xs.map (Value.int .i64)) hown vx (ys.map (Value.int .i64)) hrd.cells (ints_oneCell _ _) (by simp [maxLen]; omega) (by simp; omega) hB
  have hg : Grew w w' v v' := ⟨h2, h3⟩
  refine ⟨v', w', hr, ?_, hg.below hB fun g hg => (hown.lt g hg).1⟩
  unfold Ints
  rw [List.length_append, List.map_append]
  simpa using h1
theorem Rd.litI (w : World) (xs : List Int) (h : xs.length ≤ 1000) : Rd (w.alloc (.cells (xs.map (Value.int .i64)).toArray 2)) (.slice (some ⟨w.heap.size, 0, none⟩) xs.length xs.length) xs := by
  refine ⟨_, _, rfl, Nat.le_refl _, by omega, fun h => by (cases h), ?_⟩
  by_cases h0 : xs.length = 0
  · exact .inl h0
  · refine .inr ⟨_, _, rfl, fun j hj => ?_⟩
    have : (xs.map (Value.int .i64))[j]? = some (.int .i64 (xs.getD j 0)) := getD_map_int xs j hj
    simp [hj]
theorem balloc {w0 w : World} (h : Below w0.heap.size w0 w) (o : Obj) : Below w0.heap.size w0 (w.alloc o) := h.alloc h.size o
theorem Rd.lit1 (w : World) (x : Int) : Rd (w.alloc (.cells #[.int .i64 x] 2)) (.slice (some ⟨w.heap.size, 0, none⟩) 1 1) [x] :=
  ⟨_, 1, rfl, by simp, by simp, fun h => by (cases h), .inr ⟨_, _, rfl, fun j hj => by
    obtain rfl : j = 0 := by simpa using hj
    simp⟩⟩
theorem rep_single (x : Int) (m : Nat) : rep [x] m = List.replicate m x := by
  induction m with
  | zero => simp [rep, cat]
  | succ m ih => unfold rep cat at *; rw [List.replicate_succ, List.flatten_cons, ih]; rfl
theorem Ints.lit3 (w : World) (a b c : Int) : Ints (w.alloc (.cells #[.int .i64 a, .int .i64 b, .int .i64 c] 2)) w.heap.size (.slice (some ⟨w.heap.size, 0, none⟩) 3 3) [a, b, c] :=
  ⟨rfl, .inr ⟨w.heap.size, 3, #[.int .i64 a, .int .i64 b, .int .i64 c], rfl, Nat.le_refl _, heap_alloc_new w _, by simp, by simp [maxLen], by simp, by simp⟩⟩
theorem Rd.drew {w : World} {v : Value} {xs : List Int} (h : Rd w v xs) : Rd w.drew v xs := h
def rel1 (p : Pres) (i : Nat) : List Int := List.replicate (p.r i).toNat ((i : Int) + 1) ++ invW (nwL (p.P i))
def rel2 (p : Pres) (i k : Nat) : List Int := [-((i : Int) + 1), (i : Int) + k + 2, (i : Int) + 1] ++ invW (nwL ((p.conj.getD i []).getD k []))
def rels1 (p : Pres) (j : Nat) : List (List Int) := (List.range j).map (rel1 p)
def rels2 (p : Pres) (i m : Nat) : List (List Int) := (List.range m).map (rel2 p i)
def rels2s (p : Pres) (j : Nat) : List (List Int) := (List.range j).flatMap fun i => rels2 p i (p.conj.getD i []).length
def relL (p : Pres) : List (List Int) := rels1 p p.n ++ rels2s p p.n
theorem rels1_succ (p : Pres) (j : Nat) : rels1 p (j + 1) = rels1 p j ++ [rel1 p j] := by simp [rels1, List.range_succ]
theorem rels2_succ (p : Pres) (i m : Nat) : rels2 p i (m + 1) = rels2 p i m ++ [rel2 p i m] := by simp [rels2, List.range_succ]
theorem rels2s_succ (p : Pres) (j : Nat) : rels2s p (j + 1) = rels2s p j ++ rels2 p j (p.conj.getD j []).length := by simp [rels2s, List.range_succ]
theorem rels1_len (p : Pres) (j : Nat) : (rels1 p j).length = j := by simp [rels1]
theorem ValidP.smP {p : Pres} (h : ValidP p) {i : Nat} (hi : i < p.n) : SmE (p.P i) := tailB_sm (ordB_true h.ord).1 h.n6 (rowB_true (h.row i hi)).1
theorem ValidP.smC {p : Pres} (h : ValidP p) {i k : Nat} (hi : i < p.n) (hk : k < (p.conj.getD i []).length) : SmE ((p.conj.getD i []).getD k []) := tailB_sm (ordB_true h.ord).1 h.n6 ((rowB_true (h.row i hi)).2.2 k hk)
theorem rels2s_len {p : Pres} (h : ValidP p) (j : Nat) (hj : j ≤ p.n) : (rels2s p j).length ≤ 6 * j := by
  induction j with
  | zero => simp [rels2s]
  | succ j ih =>
    have := ih (by omega)
    have := h.clen j (by omega)
    have := h.n6
    rw [rels2s_succ, List.length_append]
    have e : (rels2 p j (p.conj.getD j []).length).length = (p.conj.getD j []).length := by simp [rels2]
    omega
--== exported
def okXX (c : Bool) (xs : List (List Int)) : List (List Int) := if c then xs else []
/-- what a call leaves that returns a list of lists and a code -/
def RetO2c (w : World) (d : List (List Int)) (c : Int) (e : Ending) (w' : World) : Prop := ∃ v, e = .returned (.tuple #[v, .int .i64 c]) ∧ O2 w' (win w.heap.size w'.heap.size) v d ∧ Below w.heap.size w w'
