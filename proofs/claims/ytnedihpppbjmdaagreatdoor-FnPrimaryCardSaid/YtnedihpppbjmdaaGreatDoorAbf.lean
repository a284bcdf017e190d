/-
  Which pairs of factors and rank are abelian groups: both sides.
-/
import Derived.Test.YtnedihpppbjmdaaGreatDoorAbb
namespace Go.Proofs.YtnedihpppbjmdaaGreatDoor
set_option linter.unusedVariables false
set_option linter.unusedSimpArgs false
set_option maxRecDepth 100000
open Go.RowKit

theorem bel_drewN {B : Nat} {w w' : World} (h : Below B w w') (n : Nat) : Below B w (w'.drewN n) := ⟨h.os, h.tape, h.output, h.size, h.block⟩
/-- factor number j is in its bounds, and its forerunner divides it -/
def okAt (fs : List Nat) (j : Nat) : Prop := 2 ≤ fs.getD j 0 ∧ fs.getD j 0 ≤ 1000000 ∧ (0 < j → fs.getD (j - 1) 0 ∣ fs.getD j 0)
/-- factors and rank are an abelian group -/
def abP (fs : List Nat) (r : Int) : Prop := 0 ≤ r ∧ (fs.length : Int) + r ≤ 10 ∧ ∀ j, j < fs.length → okAt fs j
theorem abP.chn {fs : List Nat} {r : Int} (h : abP fs r) : Chn fs := by
  refine ⟨fun f hf => ?_, ?_⟩
  · obtain ⟨i, hi, rfl⟩ := List.getElem_of_mem hf
    have := h.2.2 i hi
    unfold okAt at this
    rw [List.getD_eq_getElem?_getD, List.getElem?_eq_getElem hi] at this
    exact ⟨this.1, this.2.1⟩
  · rw [List.pairwise_iff_getElem]
    intro i j hi hj hij
    induction j with
    | zero => omega
    | succ j ih =>
      have h1 := (h.2.2 (j + 1) hj).2.2 (by omega)
      rw [Nat.add_sub_cancel, List.getD_eq_getElem?_getD, List.getD_eq_getElem?_getD, List.getElem?_eq_getElem hj, List.getElem?_eq_getElem (show j < fs.length by omega)] at h1
      rcases Nat.lt_or_ge i j with hlt | hge
      · exact Nat.dvd_trans (ih (by omega) hlt) h1
      · obtain rfl : i = j := by omega
        exact h1
/-- a call that answers whether P -/
def RetB (w : World) (P : Prop) (e : Ending) (w' : World) : Prop := ∃ b, e = .returned (.bool b) ∧ (b = true ↔ P) ∧ Below w.heap.size w w'
--== spec.l01In
theorem s_l01InB (x a b : Int) (w : World) (c : Bool) (hc : c = decide (a ≤ x ∧ x ≤ b)) : Calls Tryz.prog 35 #[.int .i64 x, .int .i64 a, .int .i64 b] w fun e w' => e = .returned (.bool c) ∧ w' = w := by
  by_cases h1 : a ≤ x
  · by_cases h2 : x ≤ b
    · have e : c = true := by rw [hc]; simp [h1, h2]
      subst e; clear hc
      go_enter Tryz.func35, Tryz.ntmps35
      go_wp2
      go_ret
      exact ⟨rfl, rfl⟩
    · have e : c = false := by rw [hc]; simp [h2]
      subst e; clear hc
      go_enter Tryz.func35, Tryz.ntmps35
      go_wp2
      go_ret
      exact ⟨rfl, rfl⟩
  · have e : c = false := by rw [hc]; simp [h1]
    subst e; clear hc
    go_enter Tryz.func35, Tryz.ntmps35
    go_wp2
    go_ret
    exact ⟨rfl, rfl⟩
--== impl.inside
theorem i_insideB (x a b : Int) (w : World) (c : Bool) (hc : c = decide (a ≤ x ∧ x ≤ b)) : Calls Tryz.prog 25 #[.int .i64 x, .int .i64 a, .int .i64 b] w fun e w' => e = .returned (.bool c) ∧ w' = w := by
  by_cases h1 : a ≤ x
  · by_cases h2 : x ≤ b
    · have e : c = true := by rw [hc]; simp [h1, h2]
      subst e; clear hc
      go_enter Tryz.func25, Tryz.ntmps25
      go_wp2
      go_ret
      exact ⟨rfl, rfl⟩
    · have e : c = false := by rw [hc]; simp [h2]
      subst e; clear hc
      go_enter Tryz.func25, Tryz.ntmps25
      go_wp2
      go_ret
      exact ⟨rfl, rfl⟩
  · have e : c = false := by rw [hc]; simp [h1]
    subst e; clear hc
    go_enter Tryz.func25, Tryz.ntmps25
    go_wp2
    go_ret
    exact ⟨rfl, rfl⟩
--== spec.IsAbelian
set_option maxHeartbeats 8000000 in
theorem s_IsAbelian (v : Value) (fs : List Nat) (r : Int) (w : World) (hv : Rd w v (nI fs)) (hf : ∀ f ∈ fs, f ≤ 1000000000) (hn : fs.length ≤ 1000000) (hr1 : -1000 ≤ r) (hr2 : r ≤ 1000) : Calls Tryz.prog 18 #[.agg #[v, .int .i64 r]] w (RetB w (abP fs r)) := by
  have HV := Lib.hid hv
  have HF := Lib.hid hf
  obtain ⟨ao, cap, rfl, _, _⟩ := hv.form
  rw [nI_length] at *
  obtain ⟨n, hnn⟩ : ∃ n, fs.length = n := ⟨_, rfl⟩
  have HN := Lib.hid hnn
  rw [hnn] at hn HV ⊢
  have HB := Lib.hid (below_alloc w (.cells #[.slice ao n cap, .int .i64 r] 26))
  clear hv hf hnn
  by_cases h0 : 10 < n
  · have HNO : Hid (¬ abP fs r) := fun h => by have h1 := h.1; have h2 := h.2.1; rw [HN.out] at h2; omega
    go_enter Tryz.func18, Tryz.ntmps18
    go_wp2_with fail
    go_ret
    exact ⟨false, rfl, by simpa using HNO.out, HB.out⟩
  · by_cases hrr : 0 ≤ r ∧ r ≤ 10 - (n : Int)
    · obtain ⟨r1, r2⟩ := hrr
      have HIN1 : Hid (∀ wx, Calls Tryz.prog 35 #[.int .i64 r, .int .i64 0, .int .i64 (10 - (n : Int))] wx fun e w' => e = .returned (.bool true) ∧ w' = wx) := fun wx => s_l01InB _ _ _ wx true (by simp [r1, r2])
      go_enter Tryz.func18, Tryz.ntmps18
      go_wp2_with fail
      refine (HIN1.out _).mono ?_
      rintro e w1 ⟨rfl, rfl⟩
      clear HIN1
      go_wp2_with fail
      go_loopw [4] (fun jv wr => ∃ j : Nat, jv = .int .i64 j ∧ j ≤ n ∧ (∀ i, i < j → okAt fs i) ∧ Below w.heap.size w wr ∧ wr.cell? ⟨w.heap.size, 0, none⟩ = some (.slice ao n cap)) (fun jv _ => n - (intOf jv).toNat)
      case atStart => exact ⟨0, rfl, Nat.zero_le _, fun i hi => by omega, HB.out, by simp⟩
      case round =>
        obtain ⟨j, rfl, hj, hok, hB, hc0⟩ := hrel
        have HOK := Lib.hid hok
        have HBr := Lib.hid hB
        clear hok
        by_cases hlt : j < n
        · obtain ⟨bf, of, rfl, hcell⟩ := (HV.out.below hB).at (j := j) (by rw [nI_length, HN.out]; exact hlt)
          rw [nI_getD] at hcell
          clear hB
          have hfj := HF.out (fs.getD j 0) (getD_mem_nat (by rw [HN.out]; exact hlt))
          have i1 : (0 : Int) ≤ (j : Int) := by omega
          have i2 : (j : Int) < (n : Int) := by omega
          by_cases hin : 2 ≤ fs.getD j 0 ∧ fs.getD j 0 ≤ 1000000
          · by_cases hj0 : j = 0
            · subst hj0
              rw [Nat.add_zero] at hcell
              have i3 : (0 : Int) < (n : Int) := by omega
              have HST : Hid (okAt fs 0) := ⟨hin.1, hin.2, fun h => by omega⟩
              clear hfj
              generalize fs.getD 0 0 = x at *
              have HIN : Hid (∀ wx, Calls Tryz.prog 35 #[.int .i64 (x : Int), .int .i64 2, .int .i64 1000000] wx fun e w' => e = .returned (.bool true) ∧ w' = wx) := fun wx => s_l01InB _ _ _ wx true (by simp; omega)
              go_wp2_with fail
              go_quiet (first | (go_at_call 35; refine Calls.quiet_of_same (HIN.out _)))
              go_wp2_with fail
              go_roundw
              case rel => exact ⟨1, by go_num, by omega, fun i hi => by (obtain rfl : i = 0 := by omega); exact HST.out, bel_drewN HBr.out _, hc0⟩
              case measure => simp [intOf]; omega
            · obtain ⟨bp, op, he, hcp⟩ := (HV.out.below HBr.out).at (j := j - 1) (by rw [nI_length, HN.out]; omega)
              cases he
              rw [nI_getD] at hcp
              have hpv := HOK.out (j - 1) (by omega)
              obtain ⟨k, rfl⟩ : ∃ k, j = k + 1 := ⟨j - 1, by omega⟩
              rw [Nat.add_sub_cancel] at hcp hpv
              have HOJ : Hid (okAt fs (k + 1) ↔ 2 ≤ fs.getD (k + 1) 0 ∧ fs.getD (k + 1) 0 ≤ 1000000 ∧ fs.getD k 0 ∣ fs.getD (k + 1) 0) := ⟨fun h => ⟨h.1, h.2.1, h.2.2 (by omega)⟩, fun h => ⟨h.1, h.2.1, fun _ => h.2.2⟩⟩
              have hpv2 : 2 ≤ fs.getD k 0 ∧ fs.getD k 0 ≤ 1000000 := ⟨hpv.1, hpv.2.1⟩
              have q3 : (0 : Int) ≤ (k : Int) + 1 := by omega
              have q4 : (k : Int) + 1 < (n : Int) := by omega
              have q5 : (k : Int) < (n : Int) := by omega
              have q6 : (0 : Int) ≤ (k : Int) := by omega
              have W2 : IntKind.i64.wrap (k : Int) = (k : Int) := IntWalk.i64_in _ (by omega)
              clear hfj hpv
              generalize hx : fs.getD (k + 1) 0 = x at *
              generalize hy : fs.getD k 0 = y at *
              clear hx hy
              have HIN : Hid (∀ wx, Calls Tryz.prog 35 #[.int .i64 (x : Int), .int .i64 2, .int .i64 1000000] wx fun e w' => e = .returned (.bool true) ∧ w' = wx) := fun wx => s_l01InB _ _ _ wx true (by simp; omega)
              by_cases hd : x % y = 0
              · have hd' : ((x : Int) % (y : Int)) = 0 := by rw [← Int.natCast_emod, hd]; rfl
                have HST : Hid (okAt fs (k + 1)) := HOJ.out.2 ⟨hin.1, hin.2, Nat.dvd_of_mod_eq_zero hd⟩
                have y0 : ¬ (y : Int) = 0 := by omega
                clear hd
                go_wp2_with fail
                go_quiet (first | (go_at_call 35; refine Calls.quiet_of_same (HIN.out _)))
                go_wp2_with fail
                go_roundw
                case rel => exact ⟨k + 1 + 1, by go_num, by omega, fun i hi => by (by_cases h : i = k + 1); exact h ▸ HST.out; exact HOK.out i (by omega), bel_drewN HBr.out _, hc0⟩
                case measure => simp [intOf]; omega
              · have hd' : ¬ ((x : Int) % (y : Int)) = 0 := by rw [← Int.natCast_emod]; exact fun h => hd (by exact_mod_cast h)
                have HNO : Hid (¬ abP fs r) := fun h => by
                  have h3 := (HOJ.out.1 (h.2.2 (k + 1) (by rw [HN.out]; exact hlt))).2.2
                  exact hd (Nat.mod_eq_zero_of_dvd h3)
                clear hd
                go_wp2_with fail
                go_quiet (first | (go_at_call 35; refine Calls.quiet_of_same (HIN.out _)))
                go_wp2_with fail
                go_ret
                exact ⟨false, rfl, by simpa using HNO.out, bel_drewN HBr.out _⟩
          · have HNO : Hid (¬ abP fs r) := fun h => by
              have h3 := h.2.2 j (by rw [HN.out]; exact hlt)
              exact hin ⟨h3.1, h3.2.1⟩
            generalize hx : fs.getD j 0 = x at *
            clear hx
            have HIN : Hid (∀ wx, Calls Tryz.prog 35 #[.int .i64 (x : Int), .int .i64 2, .int .i64 1000000] wx fun e w' => e = .returned (.bool false) ∧ w' = wx) := fun wx => s_l01InB _ _ _ wx false (by simp; omega)
            go_wp2_with fail
            go_quiet (first | (go_at_call 35; refine Calls.quiet_of_same (HIN.out _)))
            go_wp2_with fail
            go_ret
            exact ⟨false, rfl, by simpa using HNO.out, bel_drewN HBr.out _⟩
        · have HYES : Hid (abP fs r) := ⟨r1, by rw [HN.out]; omega, fun i hi => HOK.out i (by rw [HN.out] at hi; omega)⟩
          go_wp2_with fail
          go_ret
          exact ⟨true, rfl, by simpa using HYES.out, HBr.out⟩
    · have HNO : Hid (¬ abP fs r) := fun h => hrr ⟨h.1, by have := h.2.1; rw [HN.out] at this; omega⟩
      have HIN1 : Hid (∀ wx, Calls Tryz.prog 35 #[.int .i64 r, .int .i64 0, .int .i64 (10 - (n : Int))] wx fun e w' => e = .returned (.bool false) ∧ w' = wx) := fun wx => s_l01InB _ _ _ wx false (by simp; omega)
      go_enter Tryz.func18, Tryz.ntmps18
      go_wp2_with fail
      refine (HIN1.out _).mono ?_
      rintro e w1 ⟨rfl, rfl⟩
      clear HIN1
      go_wp2_with fail
      go_ret
      exact ⟨false, rfl, by simpa using HNO.out, HB.out⟩
--== impl.IsAbelian
set_option maxHeartbeats 8000000 in
theorem i_IsAbelian (v : Value) (fs : List Nat) (r : Int) (w : World) (hv : Rd w v (nI fs)) (hf : ∀ f ∈ fs, f ≤ 1000000000) (hn : fs.length ≤ 1000000) (hr1 : -1000 ≤ r) (hr2 : r ≤ 1000) : Calls Tryz.prog 16 #[.agg #[v, .int .i64 r]] w (RetB w (abP fs r)) := by
  have HV := Lib.hid hv
  have HF := Lib.hid hf
  obtain ⟨ao, cap, rfl, _, _⟩ := hv.form
  rw [nI_length] at *
  obtain ⟨n, hnn⟩ : ∃ n, fs.length = n := ⟨_, rfl⟩
  have HN := Lib.hid hnn
  rw [hnn] at hn HV ⊢
  have HB := Lib.hid (below_alloc w (.cells #[.slice ao n cap, .int .i64 r] 26))
  clear hv hf hnn
  by_cases hrr : 0 ≤ r ∧ (n : Int) + r ≤ 10
  · obtain ⟨r1, r2⟩ := hrr
    have r3 : r ≤ 10 := by omega
    go_enter Tryz.func16, Tryz.ntmps16
    go_wp2_with fail
    go_loopw [25] (fun jv wr => ∃ j : Nat, jv = .int .i64 j ∧ j ≤ n ∧ (∀ i, i < j → okAt fs i) ∧ Below w.heap.size w wr ∧ wr.cell? ⟨w.heap.size, 0, none⟩ = some (.slice ao n cap)) (fun jv _ => n - (intOf jv).toNat)
    case atStart => exact ⟨0, rfl, Nat.zero_le _, fun i hi => by omega, HB.out, by simp⟩
    case round =>
      obtain ⟨j, rfl, hj, hok, hB, hc0⟩ := hrel
      have HOK := Lib.hid hok
      have HBr := Lib.hid hB
      clear hok
      by_cases hlt : j < n
      · obtain ⟨bf, of, rfl, hcell⟩ := (HV.out.below hB).at (j := j) (by rw [nI_length, HN.out]; exact hlt)
        rw [nI_getD] at hcell
        clear hB
        have i1 : (0 : Int) ≤ (j : Int) := by omega
        have i2 : (j : Int) < (n : Int) := by omega
        have hfj := HF.out (fs.getD j 0) (getD_mem_nat (by rw [HN.out]; exact hlt))
        by_cases hin : 2 ≤ fs.getD j 0 ∧ fs.getD j 0 ≤ 1000000
        · by_cases hj0 : j = 0
          · subst hj0
            rw [Nat.add_zero] at hcell
            have i3 : (0 : Int) < (n : Int) := by omega
            have HST : Hid (okAt fs 0) := ⟨hin.1, hin.2, fun h => by omega⟩
            clear hfj
            generalize fs.getD 0 0 = x at *
            have HIN : Hid (∀ wx, Calls Tryz.prog 25 #[.int .i64 (x : Int), .int .i64 2, .int .i64 1000000] wx fun e w' => e = .returned (.bool true) ∧ w' = wx) := fun wx => i_insideB _ _ _ wx true (by simp; omega)
            go_wp2_with fail
            refine (HIN.out wr).mono ?_
            rintro e w9 ⟨rfl, rfl⟩
            go_wp2_with fail
            go_roundw
            case rel => exact ⟨1, by go_num, by omega, fun i hi => by (obtain rfl : i = 0 := by omega); exact HST.out, HBr.out, hc0⟩
            case measure => simp [intOf]; omega
          · obtain ⟨bp, op, he, hcp⟩ := (HV.out.below HBr.out).at (j := j - 1) (by rw [nI_length, HN.out]; omega)
            cases he
            rw [nI_getD] at hcp
            have hpv := HOK.out (j - 1) (by omega)
            obtain ⟨k, rfl⟩ : ∃ k, j = k + 1 := ⟨j - 1, by omega⟩
            rw [Nat.add_sub_cancel] at hcp hpv
            have HOJ : Hid (okAt fs (k + 1) ↔ 2 ≤ fs.getD (k + 1) 0 ∧ fs.getD (k + 1) 0 ≤ 1000000 ∧ fs.getD k 0 ∣ fs.getD (k + 1) 0) := ⟨fun h => ⟨h.1, h.2.1, h.2.2 (by omega)⟩, fun h => ⟨h.1, h.2.1, fun _ => h.2.2⟩⟩
            have hpv2 : 2 ≤ fs.getD k 0 ∧ fs.getD k 0 ≤ 1000000 := ⟨hpv.1, hpv.2.1⟩
            have q3 : (0 : Int) ≤ (k : Int) + 1 := by omega
            have q4 : (k : Int) + 1 < (n : Int) := by omega
            have q5 : (k : Int) < (n : Int) := by omega
            have q6 : (0 : Int) ≤ (k : Int) := by omega
            have W2 : IntKind.i64.wrap (k : Int) = (k : Int) := IntWalk.i64_in _ (by omega)
            clear hfj hpv
            generalize hx : fs.getD (k + 1) 0 = x at *
            generalize hy : fs.getD k 0 = y at *
            clear hx hy
            have HIN : Hid (∀ wx, Calls Tryz.prog 25 #[.int .i64 (x : Int), .int .i64 2, .int .i64 1000000] wx fun e w' => e = .returned (.bool true) ∧ w' = wx) := fun wx => i_insideB _ _ _ wx true (by simp; omega)
            by_cases hd : x % y = 0
            · have hd' : ((x : Int) % (y : Int)) = 0 := by rw [← Int.natCast_emod, hd]; rfl
              have HST : Hid (okAt fs (k + 1)) := HOJ.out.2 ⟨hin.1, hin.2, Nat.dvd_of_mod_eq_zero hd⟩
              have y0 : ¬ (y : Int) = 0 := by omega
              clear hd
              go_wp2_with fail
              refine (HIN.out wr).mono ?_
              rintro e w9 ⟨rfl, rfl⟩
              go_wp2_with fail
              go_roundw
              case rel => exact ⟨k + 1 + 1, by go_num, by omega, fun i hi => by (by_cases h : i = k + 1); exact h ▸ HST.out; exact HOK.out i (by omega), HBr.out, hc0⟩
              case measure => simp [intOf]; omega
            · have hd' : ¬ ((x : Int) % (y : Int)) = 0 := by rw [← Int.natCast_emod]; exact fun h => hd (by exact_mod_cast h)
              have HNO : Hid (¬ abP fs r) := fun h => by
                have h3 := (HOJ.out.1 (h.2.2 (k + 1) (by rw [HN.out]; exact hlt))).2.2
                exact hd (Nat.mod_eq_zero_of_dvd h3)
              clear hd
              go_wp2_with fail
              refine (HIN.out wr).mono ?_
              rintro e w9 ⟨rfl, rfl⟩
              go_wp2_with fail
              go_ret
              exact ⟨false, rfl, by simpa using HNO.out, HBr.out⟩
        · have HNO : Hid (¬ abP fs r) := fun h => by
            have h3 := h.2.2 j (by rw [HN.out]; exact hlt)
            exact hin ⟨h3.1, h3.2.1⟩
          generalize hx : fs.getD j 0 = x at *
          clear hx
          have HIN : Hid (∀ wx, Calls Tryz.prog 25 #[.int .i64 (x : Int), .int .i64 2, .int .i64 1000000] wx fun e w' => e = .returned (.bool false) ∧ w' = wx) := fun wx => i_insideB _ _ _ wx false (by simp; omega)
          go_wp2_with fail
          refine (HIN.out wr).mono ?_
          rintro e w9 ⟨rfl, rfl⟩
          go_wp2_with fail
          go_ret
          exact ⟨false, rfl, by simpa using HNO.out, HBr.out⟩
      · have HYES : Hid (abP fs r) := ⟨r1, by rw [HN.out]; omega, fun i hi => HOK.out i (by rw [HN.out] at hi; omega)⟩
        go_wp2_with fail
        go_ret
        exact ⟨true, rfl, by simpa using HYES.out, HBr.out⟩
  · have HNO : Hid (¬ abP fs r) := fun h => hrr ⟨h.1, by have := h.2.1; rw [HN.out] at this; omega⟩
    by_cases h1 : 0 ≤ r
    · have h2 : ¬ (n : Int) + r ≤ 10 := fun h => hrr ⟨h1, h⟩
      clear hrr
      by_cases h3 : r ≤ 10
      · go_enter Tryz.func16, Tryz.ntmps16
        go_wp2_with fail
        go_ret
        exact ⟨false, rfl, by simpa using HNO.out, HB.out⟩
      · go_enter Tryz.func16, Tryz.ntmps16
        go_wp2_with fail
        go_ret
        exact ⟨false, rfl, by simpa using HNO.out, HB.out⟩
    · clear hrr
      go_enter Tryz.func16, Tryz.ntmps16
      go_wp2_with fail
      go_ret
      exact ⟨false, rfl, by simpa using HNO.out, HB.out⟩
end Go.Proofs.YtnedihpppbjmdaaGreatDoor
