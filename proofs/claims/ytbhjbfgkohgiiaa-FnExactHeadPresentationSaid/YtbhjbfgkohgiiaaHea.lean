/-
  HeadPresentation: both sides.
-/
import Derived.Test.YtbhjbfgkohgiiaaHei
import Derived.Test.YtbhjbfgkohgiiaaHes
namespace Go.Proofs.Ytbhjbfgkohgiiaa
set_option linter.unusedVariables false
set_option linter.unusedSimpArgs false
set_option maxRecDepth 100000
open Go.RowKit

--== size
theorem len_HeadPresentation (p : Pres) (f : Int) : psize (hdX p f) ≤ 1000000000 := by
  by_cases h : hdK p f = 0
  · have hi : ntK p f = 0 := by
      by_cases hi : ntK p f = 0
      · exact hi
      · rw [hdK_k hi] at h; exact h
    obtain ⟨hV, m, rfl, hm⟩ := ntK_inv hi
    have hn6 := hV.n6
    rw [hdX_0 h]
    refine psize_bd (by rw [hdP_ol p hm]; omega) (by rw [hdP_pl]; omega) (by rw [hdP_cl]; omega) (fun x hx => ?_) (fun y hy => ?_)
    · simp only [hdP, List.mem_map, List.mem_range] at hx
      obtain ⟨t, ht, rfl⟩ := hx
      rw [List.length_take]; omega
    · simp only [hdP, List.mem_map, List.mem_range] at hy
      obtain ⟨t, ht, rfl⟩ := hy
      refine ⟨by rw [hdR_len]; omega, fun x hx => ?_⟩
      simp only [hdR, List.mem_map, List.mem_range] at hx
      obtain ⟨c, hc, rfl⟩ := hx
      rw [List.length_take]; omega
  · rw [hdX_ne h]
    exact psize_bd (by simp [noP]) (by simp [noP]) (by simp [noP]) (fun x hx => by simp [noP] at hx) (fun y hy => by simp [noP] at hy)
end Go.Proofs.Ytbhjbfgkohgiiaa
