/-
  A list of bytes that came in.
-/
import Derived.Deep.Slices
import Derived.Test.YtnedihpppbjmdaaGreatDoorQba
import Derived.Test.YtnedihpppbjmdaaGreatDoorLaw
namespace Go.Proofs.YtnedihpppbjmdaaGreatDoor
set_option linter.unusedVariables false
set_option linter.unusedSimpArgs false
set_option maxRecDepth 100000
open Go.ChangeShapes Go.WideShapes Go.ChangeAt Go.RowKit

section
variable {H : Type} {enc : TypeId × Value → H} {w : World} {fuel : Nat} {v : Value}
theorem rd_addr {a : Addr} {u : Value} (h : w.cell? (a.add 0) = some u) : ∃ b off, a = ⟨b, off, none⟩ := by
  obtain ⟨b, off, spot⟩ := a
  have hspot : spot = none := by simpa [Addr.add] using World.cell?_spot h
  subst hspot
  exact ⟨b, off, rfl⟩
theorem rdU_of {x : DataW H × List MemPlace} (h : DataW.trod enc Tryz.prog w 0 (fun _ => true) true fuel 22 [v] = some x) : ∃ n, RdU w v n := by
  rcases open_ints Tryz.underlying22 Tryz.underlying5 (by kernel_rfl) h with ⟨hcs, _⟩ | ⟨a, l, c, zs, hcs, _, hl, hm, hz, _, hcell, hwz⟩
  · obtain rfl : v = .slice none 0 0 := by simpa using hcs
    exact ⟨0, none, 0, rfl, by simp, by simp, .inl rfl⟩
  · obtain rfl : v = .slice (some a) l c := by simpa using hcs
    have hz' : zs.length = c := by simpa using hz
    refine ⟨l, some a, c, rfl, hl, by unfold maxLen at hm; omega, ?_⟩
    by_cases h0 : l = 0
    · exact .inl h0
    · have hc := hcell 0 (by omega)
      obtain ⟨b, off, rfl⟩ := rd_addr hc
      refine .inr ⟨b, off, rfl, fun j hj => ?_⟩
      have hj' := hcell j (by omega)
      rw [Addr.add_lit] at hj'
      have hw := hwz _ (getD_mem (xs := zs) (k := j) (by omega))
      have h1 : IntKind.u8.min = 0 := rfl
      have h2 : IntKind.u8.max = 255 := rfl
      simp only [Lit.wf, Bool.and_eq_true, decide_eq_true_eq] at hw
      refine ⟨(zs.getD j 0).toNat, by omega, ?_⟩
      rw [hj']
      congr 2
      omega
end
end Go.Proofs.YtnedihpppbjmdaaGreatDoor
