/-
  Cuts of slices that read as lists, literals of one, three lists.
-/
import Derived.Test.YthnpndheaailjaaPresC
namespace Go.Proofs.Ythnpndheaailjaa
set_option linter.unusedVariables false
set_option linter.unusedSimpArgs false
set_option maxRecDepth 100000
open Go.RowKit

theorem Rd.litS (w : World) (t : TypeId) (x : Int) : Rd (w.alloc (.cells #[.int .i64 x] t)) (.slice (some ⟨w.heap.size, 0, none⟩) 1 1) [x] :=
  ⟨_, 1, rfl, by simp, by simp, (fun h => by cases h), .inr ⟨w.heap.size, 0, rfl, fun j hj => by
    have hj : j < 1 := hj
    obtain rfl : j = 0 := by omega
    simp [go_sem]⟩⟩
theorem Rd.drew1 {w : World} {v : Value} {xs : List Int} (h : Rd w v xs) : Rd w.drew v xs := h
theorem Rd.cutL {w : World} {ao : Option Addr} {n cap : Nat} {xs : List Int} (h : Rd w (.slice ao n cap) xs) (k : Nat) (hk : k ≤ n) : ∃ a', (if cap = k then ao else ao.map (·.add k)) = a' ∧ Rd w (.slice a' (n - k) (cap - k)) (xs.drop k) := by
  obtain ⟨ao', cap', he, h1, h2, h0, h3⟩ := h
  simp only [Value.slice.injEq] at he
  obtain ⟨rfl, rfl, rfl⟩ := he
  by_cases hc : cap = k
  · refine ⟨ao, if_pos hc, ao, cap - k, by rw [List.length_drop], by rw [List.length_drop]; omega, by omega, fun h => by rw [h0 h]; omega, .inl (by rw [List.length_drop]; omega)⟩
  · refine ⟨ao.map (·.add k), if_neg hc, ao.map (·.add k), cap - k, by rw [List.length_drop], by rw [List.length_drop]; omega, by omega, fun h => ?_, ?_⟩
    · cases ao with
      | none => rw [h0 rfl]; omega
      | some a => cases h
    · rcases h3 with h3 | ⟨b, off, rfl, h3⟩
      · exact .inl (by rw [List.length_drop]; omega)
      · refine .inr ⟨b, off + k, by simp [Addr.add_lit], fun j hj => ?_⟩
        rw [List.length_drop] at hj
        have := h3 (k + j) (by omega)
        rw [show off + k + j = off + (k + j) by omega, this]
        congr 2
        simp [List.getD, List.getElem?_drop]
theorem Rd.preL {w : World} {ao : Option Addr} {n cap : Nat} {xs : List Int} (h : Rd w (.slice ao n cap) xs) (k : Nat) (hk : k ≤ n) : Rd w (.slice ao k cap) (xs.take k) := by
  obtain ⟨ao', cap', he, h1, h2, h0, h3⟩ := h
  simp only [Value.slice.injEq] at he
  obtain ⟨rfl, rfl, rfl⟩ := he
  have hl : (xs.take k).length = k := by rw [List.length_take]; omega
  refine ⟨ao, cap, by rw [hl], by omega, h2, h0, ?_⟩
  rcases h3 with h3 | ⟨b, off, rfl, h3⟩
  · exact .inl (by omega)
  · refine .inr ⟨b, off, rfl, fun j hj => ?_⟩
    rw [hl] at hj
    rw [h3 j (by omega), take_getD xs k j hj]
theorem Rd2.lit3 {w : World} (t : TypeId) (v v' v'' : Value) (xs ys zs : List Int) (h : Rd w v xs) (h' : Rd w v' ys) (h'' : Rd w v'' zs) : Rd2 (w.alloc (.cells #[v, v', v''] t)) (.slice (some ⟨w.heap.size, 0, none⟩) 3 3) [xs, ys, zs] :=
  Rd2.lit t [v, v', v''] [xs, ys, zs] rfl (by simp) fun i hi => by
    have hi : i < 3 := hi
    have : i = 0 ∨ i = 1 ∨ i = 2 := by omega
    rcases this with rfl | rfl | rfl
    · exact h
    · exact h'
    · exact h''
end Go.Proofs.Ythnpndheaailjaa
