/-
  Presentations whose relations are trivial.
-/
import Derived.Test.YtdagfidnjenjhaaDoorOwn
namespace Go.Proofs.YtdagfidnjenjhaaDoor
set_option linter.unusedVariables false
set_option linter.unusedSimpArgs false
set_option maxRecDepth 100000
open Go.RowKit

--== units
def unitL (n k : Nat) : List Int := (List.replicate n (0 : Int)).set k 1
theorem unitL_length (n k : Nat) : (unitL n k).length = n := by simp [unitL]
--== impl.unitVector
set_option maxHeartbeats 1000000 in
theorem i_unitVector (n k : Nat) (w : World) (hk : k < n) (hn : n ≤ 1000) :
    Calls Tryd.prog 41 #[.int .i64 n, .int .i64 k] w (RetInts w (unitL n k)) := by
  obtain ⟨i0, hi, hz0, hz1, hz2⟩ := info_parts Tryd.info2
  go_enter Tryd.func41, Tryd.ntmps41
  go_wp2_with (at_make; refine wp_mkInts _ rfl _ _ rfl i0 Tryd.underlying22 hi hz0 hz1 hz2 _ _ _ _ n rfl rfl rfl rfl (by omega) ?_)
  intro w1 hI hB hlt
  obtain ⟨g, cap, he, _, _, _, _, hcell, hfr⟩ := hI.open (by simp; omega)
  simp only [List.length_replicate, Value.slice.injEq, Option.some.injEq, Addr.mk.injEq, and_true, true_and] at he hcell
  obtain ⟨rfl, rfl⟩ := he
  have hc := hcell k hk
  have hf := hfr k
  have hset := hI.set (by simp) k 1
  clear hcell hfr
  go_wp2
  go_ret
  refine ⟨_, rfl, ?_, hB.trans (hset.2.below (Nat.le_refl _) (by omega))⟩
  exact hset.1
--== spec.l07Unit
set_option maxHeartbeats 1000000 in
theorem s_l07Unit (n k : Nat) (w : World) (hk : k < n) (hn : n ≤ 1000) :
    Calls Tryd.prog 31 #[.int .i64 n, .int .i64 k] w (RetInts w (unitL n k)) := by
  obtain ⟨i0, hi, hz0, hz1, hz2⟩ := info_parts Tryd.info2
  go_enter Tryd.func31, Tryd.ntmps31
  go_wp2_with (at_make; refine wp_mkInts _ rfl _ _ rfl i0 Tryd.underlying22 hi hz0 hz1 hz2 _ _ _ _ n rfl rfl rfl rfl (by omega) ?_)
  intro w1 hI hB hlt
  obtain ⟨g, cap, he, _, _, _, _, hcell, hfr⟩ := hI.open (by simp; omega)
  simp only [List.length_replicate, Value.slice.injEq, Option.some.injEq, Addr.mk.injEq, and_true, true_and] at he hcell
  obtain ⟨rfl, rfl⟩ := he
  have hc := hcell k hk
  have hf := hfr k
  have hset := hI.set (by simp) k 1
  clear hcell hfr
  go_wp2
  go_ret
  refine ⟨_, rfl, ?_, hB.trans (hset.2.below (Nat.le_refl _) (by omega))⟩
  exact hset.1
--== trivial relations
def zrow (n : Nat) : List Int := List.replicate n 0
def trivPow (n j : Nat) : List (List Int) := List.replicate j (zrow n)
def trivRow (n i m : Nat) : List (List Int) := (List.range m).map fun t => unitL n (i + 1 + t)
def trivConj (n j : Nat) : List (List (List Int)) := (List.range j).map fun i => trivRow n i (n - 1 - i)
def trivP (os : List Int) (j : Nat) : Pres := ⟨os, trivPow os.length j, trivConj os.length j⟩
def triv (os : List Int) : Pres := trivP os os.length
theorem trivPow_succ (n j : Nat) : trivPow n (j + 1) = trivPow n j ++ [zrow n] := by unfold trivPow; rw [List.replicate_succ']
theorem trivConj_succ (n j : Nat) : trivConj n (j + 1) = trivConj n j ++ [trivRow n j (n - 1 - j)] := by simp [trivConj, List.range_succ]
theorem trivRow_succ (n i m : Nat) : trivRow n i (m + 1) = trivRow n i m ++ [unitL n (i + 1 + m)] := by simp [trivRow, List.range_succ]
theorem trivPow_len (n j : Nat) : (trivPow n j).length = j := by simp [trivPow]
theorem trivConj_len (n j : Nat) : (trivConj n j).length = j := by simp [trivConj]
theorem trivRow_len (n i m : Nat) : (trivRow n i m).length = m := by simp [trivRow]
--== the local presentation
/-- what stands at each round's head -/
def TInv (os : List Int) (w : World) (b2 b4 : Nat) (j : Nat) (wr : World) : Prop :=
  ∃ v1 v2 v3, Bx wr b2 (.slice none 0 0) (.slice none 0 0) (.slice none 0 0) ∧ Bx wr b4 v1 v2 v3 ∧ OP wr (fun k => w.heap.size ≤ k ∧ k ≠ b2 ∧ k ≠ b4) v1 v2 v3 (trivP os j) ∧ Below w.heap.size w wr
theorem ON.empty {α : Type} {e : TypeId} {O : World → (Nat → Prop) → Value → List α → Prop} (w : World) : ON e O (w.alloc (.cells #[] e)) (fun k => k = w.heap.size) (.slice (some ⟨w.heap.size, 0, none⟩) 0 0) [] :=
  ⟨[], fun _ _ => False, ⟨rfl, .inr ⟨w.heap.size, 0, #[], by simp, Nat.zero_le _, heap_alloc_new w _, by simp, by simp [maxLen], by simp, by simp⟩⟩, fun g hg => by simp [Value.ownBlock] at hg; exact hg.symm, fun i hi => by simp at hi, fun i hi => by simp at hi, fun i j hi => by simp at hi⟩
