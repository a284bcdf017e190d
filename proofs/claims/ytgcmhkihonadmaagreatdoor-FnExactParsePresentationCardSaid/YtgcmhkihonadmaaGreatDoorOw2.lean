/-
  The reference's copy of a list of rows.
-/
import Derived.Test.YtgcmhkihonadmaaGreatDoorRo2
import Derived.Lib.Hide
namespace Go.Proofs.YtgcmhkihonadmaaGreatDoor
set_option linter.unusedVariables false
set_option linter.unusedSimpArgs false
set_option maxRecDepth 100000
open Go.RowKit

--== spec.l01Own2
set_option maxHeartbeats 2000000 in
theorem s_l01Own2 (v : Value) (L : List (List Int)) (w : World) (hv : Rd2 w v L) (hs : L.length ≤ 1000000) (hr : ∀ i, i < L.length → (L.getD i []).length ≤ 1000) : Calls Tryz.prog 49 #[v] w (RetL2 w L) := by
  have hO0 : O2 (w.alloc (Obj.cells #[] 22)) (win w.heap.size (w.alloc (Obj.cells #[] 22)).heap.size) (.slice (some ⟨w.heap.size, 0, none⟩) 0 0) [] :=
    ⟨[], fun _ _ => False, ⟨rfl, .inr ⟨w.heap.size, 0, #[], rfl, Nat.zero_le _, heap_alloc_new w _, Nat.le_refl _, by simp [maxLen], rfl, rfl⟩⟩, fun g hg => by
      obtain rfl : w.heap.size = g := by simpa [Value.ownBlock] using hg
      exact ⟨Nat.le_refl _, by simp⟩, fun i hi => by simp at hi, fun i hi => by simp at hi, fun i j hi => by simp at hi⟩
  have HO0 := Lib.hid hO0
  obtain ⟨n, hn⟩ : ∃ n, L.length = n := ⟨_, rfl⟩
  obtain ⟨a0, c0, rfl, _, _⟩ := hv.formN hn
  have HV := Lib.hid hv
  have HN := Lib.hid hn
  have HR := Lib.hid hr
  rw [hn] at hs
  clear hO0 hv hn hr
  go_enter Tryz.func49, Tryz.ntmps49
  go_wp2_with fail
  go_loopw [3, 4] (fun u i wr => ∃ j : Nat, j ≤ n ∧ i = .int .i64 j ∧ O2 wr (win w.heap.size wr.heap.size) u (L.take j) ∧ Below w.heap.size w wr) (fun _ i _ => n - (intOf i).toNat)
  case atStart => exact ⟨0, Nat.zero_le _, rfl, HO0.out, below_alloc _ _⟩
  case round =>
    clear HO0
    obtain ⟨j, hj, rfl, hO, hB⟩ := hrel
    obtain ⟨a6, c6, rfl, _, _⟩ := hO.formN (n := j) (by have := HN.out; simp; omega)
    have sB := hB.size
    by_cases hlt : j < n
    · have hlt' : j < L.length := by rw [HN.out]; exact hlt
      have HS : Hid (L.take (j + 1) = L.take j ++ [L.getD j []]) := by
        show _ = _
        rw [List.take_succ_eq_append_getElem hlt', List.getD, List.getElem?_eq_getElem hlt']; rfl
      have HLn : Hid ((L.take j).length = j) := by show _ = _; simp; omega
      obtain ⟨R, hR⟩ : ∃ R, L.take j = R := ⟨_, rfl⟩
      rw [hR] at hO HLn HS
      obtain ⟨b, o, r, he, hc, hRr⟩ := HV.out.at hlt'
      obtain ⟨x, hx⟩ : ∃ x, L.getD j [] = x := ⟨_, rfl⟩
      have hxl := HR.out j hlt'
      rw [hx] at hRr HS hxl
      subst he
      have e1 := below_cells hB _ _ hc
      have RR := hRr.below hB
      obtain ⟨ar, cr, rfl, _, _⟩ := RR.form
      have HO := Lib.hid hO
      have HB := Lib.hid hB
      clear hR hO hc hRr hx hlt'
      go_wp2_with fail
      refine (s_l01Own _ x _ RR (by omega)).mono ?_
      rintro e w5 ⟨u5, rfl, hI5, hB5⟩
      obtain ⟨a5, c5, hu5, _, _⟩ := hI5.rd.form
      subst hu5
      obtain ⟨v6, w6, hr6, hO6, hB6⟩ := step_rows HO.out HB.out.size hI5 rfl hB5 (by rw [HLn.out]; omega)
      have hB7 := (HB.out.trans (hB5.mono HB.out.size)).trans hB6
      clear hI5 hB5 hB6 RR e1
      go_wp2_with (at_builtin; refine wp_of_run _ rfl _ _ _ rfl _ _ rfl rfl _ _ hr6 ?_)
      go_roundw
      case rel => exact ⟨j + 1, by omega, by go_num, by rw [HS.out]; exact hO6, hB7⟩
      case measure => (simp [intOf]; try omega)
    · obtain rfl : j = n := by omega
      rw [List.take_of_length_le (by have := HN.out; omega)] at hO
      have HO := Lib.hid hO
      clear hO
      go_wp2_with fail
      go_ret
      exact ⟨_, rfl, HO.out, hB⟩
--== end
end Go.Proofs.YtgcmhkihonadmaaGreatDoor
