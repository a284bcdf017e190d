/-
  Picked out of the other texts for a seat that has no presentations.
-/
import Derived.Test.YtnedihpppbjmdaaGreatDoorShf
import Derived.Test.YtnedihpppbjmdaaGreatDoorQba
import Derived.Test.YtnedihpppbjmdaaGreatDoorAtx
import Derived.Lib.Join
import Derived.Lib.ItoaNum
import Derived.Lib.SplitLaws
import Derived.Lib.SmallJoins
namespace Go.Proofs.YtnedihpppbjmdaaGreatDoor
set_option linter.unusedVariables false
set_option linter.unusedSimpArgs false
set_option maxRecDepth 100000
open Go.RowKit

abbrev Txt := List UInt8
theorem ba_app (a b : ByteArray) : (a ++ b).data.toList = a.data.toList ++ b.data.toList := by simp [ByteArray.data_append]
theorem ba_of (l : Txt) : (⟨l.toArray⟩ : ByteArray).data.toList = l := by simp
theorem ba_ext {a b : ByteArray} (h : a.data.toList = b.data.toList) : a = b := by
  cases a; cases b
  congr 1
  exact Array.toList_inj.1 h
theorem Tryz.infoStr : (Tryz.prog.info? 9).map (fun i => (i.zero, i.size, i.bytes)) = some (some (.string ⟨#[]⟩), 1, 16) := by kernel_rfl
def Strs (w : World) (B : Nat) (v : Value) (ss : List ByteArray) : Prop := w.ownsRow B 9 1 v ss.length (ss.map Value.string)
theorem Strs.nil (w : World) (B : Nat) : Strs w B (.slice none 0 0) [] := World.ownsRow_nil _ _ _ _
theorem Strs.one (w : World) (s : ByteArray) : Strs (w.alloc (.cells #[.string s] 9)) w.heap.size (.slice (some ⟨w.heap.size, 0, none⟩) 1 1) [s] :=
  ⟨rfl, .inr ⟨w.heap.size, 1, #[.string s], rfl, Nat.le_refl _, heap_alloc_new w _, by simp, by simp [maxLen], by simp, by simp⟩⟩
theorem Strs.form {w : World} {B : Nat} {v : Value} {ss : List ByteArray} (h : Strs w B v ss) : ∃ a c, v = .slice a ss.length c ∧ ss.length ≤ c := by
  rcases h.2 with ⟨rfl, h0⟩ | ⟨g, cap, cur, rfl, _, _, hn, _⟩
  · exact ⟨none, 0, by rw [h0], by omega⟩
  · exact ⟨_, cap, rfl, hn⟩
theorem Strs.formN {w : World} {B : Nat} {v : Value} {ss : List ByteArray} (h : Strs w B v ss) {n : Nat} (e : ss.length = n) : ∃ a c, v = .slice a n c ∧ n ≤ c := e ▸ h.form
theorem Strs.below {w w' : World} {B : Nat} {v : Value} {ss : List ByteArray} (h : Strs w B v ss) (hb : Below w.heap.size w w') : Strs w' B v ss := own_below h hb
theorem Strs.at {w : World} {B : Nat} {a : Option Addr} {n c : Nat} {ss : List ByteArray} (h : Strs w B (.slice a n c) ss) {j : Nat} {s : ByteArray} (hj : ss[j]? = some s) : ∃ g, a = some ⟨g, 0, none⟩ ∧ B ≤ g ∧ g < w.heap.size ∧ w.cell? ⟨g, j, none⟩ = some (.string s) := by
  have hlt : j < ss.length := (List.getElem?_eq_some_iff.1 hj).1
  have h' : w.ownsRow B 9 1 (.slice a n c) ss.length (ss.map Value.string) := h
  rcases h.2 with ⟨_, h0⟩ | ⟨g, cap, cur, he, hB, hg, _⟩
  · omega
  · simp only [Value.slice.injEq] at he
    obtain ⟨rfl, rfl, rfl⟩ := he
    refine ⟨g, rfl, hB, (own_lt h' rfl).2, ?_⟩
    rw [h'.cellAt j (by omega), List.getElem?_map, hj]; rfl
theorem run_appStr (w : World) (B : Nat) (v : Value) (ss : List ByteArray) (hown : Strs w B v ss) (s : ByteArray) (hn : ss.length ≤ 100000000) (hB : B ≤ w.heap.size) :
    ∃ v' w', (Builtin.append_ #[44, 44] 44 #[v, .slice (some ⟨w.heap.size, 0, none⟩) 1 1]).run Tryz.prog (w.alloc (.cells #[.string s] 9)) = .ok v' w' ∧ Strs w' B v' (ss ++ [s]) ∧ Below B w w' := by
  obtain ⟨i0, hi, hz0, hz1, hz2⟩ := info_parts Tryz.infoStr
  obtain ⟨v', w', hr, h1, h2, h3⟩ := run_app (w.alloc (.cells #[.string s] 9)) B 44 44 9 i0 _ 16 Tryz.underlying44 hi hz0 hz1 hz2 rfl v ss.length (ss.map Value.string) (World.ownsRow.alloc hown _)
    (.slice (some ⟨w.heap.size, 0, none⟩) 1 1) [.string s]
    ⟨_, 1, rfl, by simp, by simp, fun h => by (cases h), .inr ⟨w.heap.size, 0, rfl, fun j hj => by
      obtain rfl : j = 0 := by simpa using hj
      simp⟩⟩ (fun y hy => by simp at hy; subst hy; rfl) (by simp [maxLen]; omega) (by simp; omega) (by simp; omega)
  have hg : Grew w w' v v' := ⟨⟨h2.os, h2.tape, h2.output, by have := h2.size; simp at this; omega, fun k hk hne => (h2.block k (by simp; omega) hne).trans (Below.heap_alloc w _ k hk)⟩, fun g hg => (h3 g hg).imp id fun h => by simp at h; omega⟩
  refine ⟨v', w', hr, ?_, hg.below hB fun g hg => (World.ownsRow.lt hown g hg).1⟩
  unfold Strs
  rw [List.length_append, List.map_append]
  exact h1
def RetStrs (w : World) (l : List Txt) (e : Ending) (w' : World) : Prop := ∃ v ss, e = .returned v ∧ Strs w' w.heap.size v ss ∧ ss.map (·.data.toList) = l ∧ Below w.heap.size w w'
theorem strs_len {ss : List ByteArray} {l : List Txt} (h : ss.map (·.data.toList) = l) : ss.length = l.length := by rw [← h]; simp
theorem f_Join {w : World} {B : Nat} {a : Option Addr} {n c : Nat} {ss : List ByteArray} (h : Strs w B (.slice a n c) ss) (h0 : 0 < ss.length) (hn : ss.length ≤ 100) (sep : ByteArray) (l : List Txt) (hl : ss.map (·.data.toList) = l)
    (hL : (Lib.join l sep.data.toList).length ≤ 140737488355328) :
    Calls Tryz.prog 38 #[.slice a n c, .string sep] w fun e w' => ∃ s, e = .returned (.string s) ∧ s.data.toList = Lib.join l sep.data.toList ∧ Below w.heap.size w w' := by
  subst hl
  obtain ⟨a', c', he, hc⟩ := h.form
  simp only [Value.slice.injEq] at he
  obtain ⟨rfl, rfl, rfl⟩ := he
  obtain ⟨g, rfl, _, hg, _⟩ := h.at (j := 0) (s := ss[0]) (by simp [h0])
  refine (Tryz.strings_Join g 0 c ss sep w (fun j x hx => ?_) hg (by omega) hc hL).mono ?_
  · obtain ⟨g', he, _, _, hc'⟩ := h.at hx
    cases he
    rw [Nat.zero_add]; exact hc'
  · rintro e w' ⟨rfl, hb⟩
    exact ⟨_, rfl, ba_of _, hb⟩
theorem belowN {w : World} (n : Nat) : Below w.heap.size w (w.drewN n) := below_drewN (Below.refl _ _) n
end Go.Proofs.YtnedihpppbjmdaaGreatDoor
