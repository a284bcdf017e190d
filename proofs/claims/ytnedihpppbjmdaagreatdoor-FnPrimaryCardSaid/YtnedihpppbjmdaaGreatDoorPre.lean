/-
  Plain lists: a group has at most eighty primary parts.
-/
import Derived.Test.YtnedihpppbjmdaaGreatDoorPrd
namespace Go.Proofs.YtnedihpppbjmdaaGreatDoor
set_option linter.unusedVariables false
set_option linter.unusedSimpArgs false
set_option maxRecDepth 100000

def fct : Nat → Nat → Nat
  | _, 0 => 1
  | d, k + 1 => d * fct (d + 1) k
theorem up_prod : ∀ (ps : List Nat) (d : Nat), ps.Pairwise (· < ·) → (∀ p ∈ ps, d ≤ p) → fct d ps.length ≤ prodN ps
  | [], d, _, _ => Nat.le_refl 1
  | p :: ps, d, hp, h => by
    obtain ⟨h1, h2⟩ := List.pairwise_cons.1 hp
    have h3 := up_prod ps (d + 1) h2 fun q hq => by
      have := h1 q hq; have := h p (by simp); omega
    have e : prodN (p :: ps) = p * prodN ps := rfl
    rw [e, List.length_cons, fct]
    exact Nat.mul_le_mul (h p (by simp)) h3
theorem fac_few {n : Nat} (h1 : 1 ≤ n) (h2 : n ≤ 1000000) : (facN n).length ≤ 8 := by
  have hF := facN_ok h1 h2
  apply Classical.byContradiction
  intro hc
  have hup : ((facN n).take 9).Pairwise (fun a b => a.1 < b.1) := hF.up.sublist (List.take_sublist _ _)
  have hmem : ∀ x ∈ (facN n).take 9, Prm x.1 ∧ x.1 ∣ n := fun x hx => ⟨(hF.mem x (List.mem_of_mem_take hx)).1, hF.dvd (List.mem_of_mem_take hx)⟩
  have hlen : ((facN n).take 9).length = 9 := by rw [List.length_take]; omega
  generalize (facN n).take 9 = L at *
  have hup2 : (L.map (·.1)).Pairwise (· < ·) := List.pairwise_map.2 hup
  have h3 := up_prod (L.map (·.1)) 2 hup2 fun p hp => by
    obtain ⟨x, hx, rfl⟩ := List.mem_map.1 hp
    exact (hmem x hx).1.1
  have hnd : (L.map (fun x : Nat × Nat => x.1)).Nodup := hup2.imp fun h => Nat.ne_of_lt h
  have h4 : prodN ((L.map (·.1)).map fun p => p) ∣ n := prod_dvd (g := fun p => p) (L.map fun x : Nat × Nat => x.1) hnd fun p hp => by
    obtain ⟨x, hx, rfl⟩ := List.mem_map.1 hp
    exact .inr ⟨(hmem x hx).1, ⟨1, by simp⟩, (hmem x hx).2⟩
  rw [List.map_id'] at h4
  have h5 := Nat.le_of_dvd (by omega) h4
  rw [List.length_map, hlen] at h3
  have e : fct 2 9 = 3628800 := by decide
  omega
theorem parts_few {fs : List Nat} (h : ∀ f ∈ fs, 2 ≤ f ∧ f ≤ 1000000) : (parts fs).length ≤ 8 * fs.length := by
  induction fs with
  | nil => simp [parts]
  | cons f fs ih =>
    have h1 := ih fun g hg => h g (List.mem_cons_of_mem _ hg)
    have h2 := h f (by simp)
    have h3 := fac_few (n := f) (by omega) h2.2
    unfold parts at *
    rw [List.flatMap_cons, List.length_append, List.length_cons]
    have : (prt f).length = (facN f).length := by simp [prt]
    omega
end Go.Proofs.YtnedihpppbjmdaaGreatDoor
