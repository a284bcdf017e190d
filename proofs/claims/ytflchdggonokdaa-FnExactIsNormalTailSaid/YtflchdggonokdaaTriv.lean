/-
  Presentations whose relations are trivial.
-/
import Derived.Test.YtflchdggonokdaaOwn
namespace Go.Proofs.Ytflchdggonokdaa
set_option linter.unusedVariables false
set_option linter.unusedSimpArgs false
set_option maxRecDepth 100000
open Go.RowKit

--== slices.Clone
set_option maxHeartbeats 1000000 in
theorem f_Clone (v : Value) (xs : List Int) (w : World) (hv : Rd w v xs) (hs : xs.length ≤ 1000000) :
    Calls Try.prog 61 #[v] w (RetInts w xs) := by
  obtain ⟨i0, hi, hz0, hz1, hz2⟩ := info_parts Try.info2
  have hR := Lib.hid hv
  obtain ⟨ao, cap, rfl, hc1, hc2, h0, hA⟩ := hv
  cases ao with
  | none =>
    have hx : xs = [] := by have := h0 rfl; exact List.eq_nil_of_length_eq_zero (by omega)
    subst hx
    have hc : cap = 0 := h0 rfl
    subst hc
    have hq : ∀ w : World, (binOp .eql 22 (.slice none 0 0) (.slice none 0 0)).run Try.prog w = .ok (.bool true) w := fun w => run_eql_nil w _ _ _ _ _ Try.underlying22
    go_enter Try.func61, Try.ntmps61
    go_wp2
    go_ret
    exact ⟨_, rfl, Ints.nil _ _, Below.refl _ _⟩
  | some ad =>
    clear h0
    have hq : ∀ w : World, (binOp .eql 22 (.slice (some ad) xs.length cap) (.slice none 0 0)).run Try.prog w = .ok (.bool false) w := fun w => run_eql_nil w _ _ _ _ _ Try.underlying22
    go_enter Try.func61, Try.ntmps61
    go_wp2_with (at_builtin; refine wp_appN _ rfl _ _ rfl w.heap.size i0 Try.underlying22 hi hz0 hz1 hz2 _ [] rfl (Ints.empty w) _ xs rfl (hR.out.below (below_alloc _ _)) (by simp) (by omega) (by simp) ?_)
    intro v' w1 hI hG hB
    go_wp2
    go_ret
    exact ⟨_, rfl, by simpa using hI, (below_alloc _ _).trans hB⟩
--== units
def unitL (n k : Nat) : List Int := (List.replicate n (0 : Int)).set k 1
theorem unitL_length (n k : Nat) : (unitL n k).length = n := by simp [unitL]
--== impl.unitVector
set_option maxHeartbeats 1000000 in
theorem i_unitVector (n k : Nat) (w : World) (hk : k < n) (hn : n ≤ 1000) :
    Calls Try.prog 108 #[.int .i64 n, .int .i64 k] w (RetInts w (unitL n k)) := by
  obtain ⟨i0, hi, hz0, hz1, hz2⟩ := info_parts Try.info2
  go_enter Try.func108, Try.ntmps108
  go_wp2_with (at_make; refine wp_mkInts _ rfl _ _ rfl i0 Try.underlying22 hi hz0 hz1 hz2 _ _ _ _ n rfl rfl rfl rfl (by omega) ?_)
  intro w1 hI hB hlt
  obtain ⟨g, cap, he, _, _, _, _, hcell, hfr⟩ := hI.open (by simp; omega)
  simp only [List.length_replicate, Value.slice.injEq, Option.some.injEq, Addr.mk.injEq, and_true, true_and] at he hcell
  obtain ⟨rfl, rfl⟩ := he
  have hc := hcell k hk
  have hf := hfr k
  have hset := hI.set (by simp) k 1
  clear hcell hfr
  go_wp2
  go_ret
  refine ⟨_, rfl, ?_, hB.trans (hset.2.below (Nat.le_refl _) (by omega))⟩
  exact hset.1
--== spec.l07Unit
set_option maxHeartbeats 1000000 in
theorem s_l07Unit (n k : Nat) (w : World) (hk : k < n) (hn : n ≤ 1000) :
    Calls Try.prog 120 #[.int .i64 n, .int .i64 k] w (RetInts w (unitL n k)) := by
  obtain ⟨i0, hi, hz0, hz1, hz2⟩ := info_parts Try.info2
  go_enter Try.func120, Try.ntmps120
  go_wp2_with (at_make; refine wp_mkInts _ rfl _ _ rfl i0 Try.underlying22 hi hz0 hz1 hz2 _ _ _ _ n rfl rfl rfl rfl (by omega) ?_)
  intro w1 hI hB hlt
  obtain ⟨g, cap, he, _, _, _, _, hcell, hfr⟩ := hI.open (by simp; omega)
  simp only [List.length_replicate, Value.slice.injEq, Option.some.injEq, Addr.mk.injEq, and_true, true_and] at he hcell
  obtain ⟨rfl, rfl⟩ := he
  have hc := hcell k hk
  have hf := hfr k
  have hset := hI.set (by simp) k 1
  clear hcell hfr
  go_wp2
  go_ret
  refine ⟨_, rfl, ?_, hB.trans (hset.2.below (Nat.le_refl _) (by omega))⟩
  exact hset.1
--== trivial relations
def zrow (n : Nat) : List Int := List.replicate n 0
def trivPow (n j : Nat) : List (List Int) := List.replicate j (zrow n)
def trivRow (n i m : Nat) : List (List Int) := (List.range m).map fun t => unitL n (i + 1 + t)
def trivConj (n j : Nat) : List (List (List Int)) := (List.range j).map fun i => trivRow n i (n - 1 - i)
def trivP (os : List Int) (j : Nat) : Pres := ⟨os, trivPow os.length j, trivConj os.length j⟩
def triv (os : List Int) : Pres := trivP os os.length
theorem trivPow_succ (n j : Nat) : trivPow n (j + 1) = trivPow n j ++ [zrow n] := by unfold trivPow; rw [List.replicate_succ']
theorem trivConj_succ (n j : Nat) : trivConj n (j + 1) = trivConj n j ++ [trivRow n j (n - 1 - j)] := by simp [trivConj, List.range_succ]
theorem trivRow_succ (n i m : Nat) : trivRow n i (m + 1) = trivRow n i m ++ [unitL n (i + 1 + m)] := by simp [trivRow, List.range_succ]
theorem trivPow_len (n j : Nat) : (trivPow n j).length = j := by simp [trivPow]
theorem trivConj_len (n j : Nat) : (trivConj n j).length = j := by simp [trivConj]
theorem trivRow_len (n i m : Nat) : (trivRow n i m).length = m := by simp [trivRow]
--== the local presentation
/-- what stands at each round's head -/
def TInv (os : List Int) (w : World) (b2 b4 : Nat) (j : Nat) (wr : World) : Prop :=
  ∃ v1 v2 v3, Bx wr b2 (.slice none 0 0) (.slice none 0 0) (.slice none 0 0) ∧ Bx wr b4 v1 v2 v3 ∧ OP wr (fun k => w.heap.size ≤ k ∧ k ≠ b2 ∧ k ≠ b4) v1 v2 v3 (trivP os j) ∧ Below w.heap.size w wr
theorem ON.empty {α : Type} {e : TypeId} {O : World → (Nat → Prop) → Value → List α → Prop} (w : World) : ON e O (w.alloc (.cells #[] e)) (fun k => k = w.heap.size) (.slice (some ⟨w.heap.size, 0, none⟩) 0 0) [] :=
  ⟨[], fun _ _ => False, ⟨rfl, .inr ⟨w.heap.size, 0, #[], by simp, Nat.zero_le _, heap_alloc_new w _, by simp, by simp [maxLen], by simp, by simp⟩⟩, fun g hg => by simp [Value.ownBlock] at hg; exact hg.symm, fun i hi => by simp at hi, fun i hi => by simp at hi, fun i j hi => by simp at hi⟩
