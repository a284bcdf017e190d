/-
  Exponent sums.
-/
import Derived.Test.YthnpndheaailjaaProd
import Derived.Deep.RegionWith
namespace Go.Proofs.Ythnpndheaailjaa
set_option linter.unusedVariables false
set_option linter.unusedSimpArgs false
set_option maxRecDepth 100000
open Go.RowKit

def absI (x : Int) : Int := if x < 0 then -x else x
def signI (x : Int) : Int := if x < 0 then -1 else if 0 < x then 1 else 0
--== impl.abs
theorem i_abs (x : Int) (w : World) (h : -1000000000000 ≤ x ∧ x ≤ 1000000000000) : Calls Try.prog 118 #[.int .i64 x] w fun e w' => e = .returned (.int .i64 (absI x)) ∧ w = w' := by
  obtain ⟨h1, h2⟩ := h
  by_cases hx : x < 0
  · have hx2 : x < -x := by omega
    go_enter Try.func118, Try.ntmps118
    go_wp2
    go_ret
    exact ⟨ret_int (by simp [absI, hx]), rfl⟩
  · have hx2 : ¬ x < -x := by omega
    go_enter Try.func118, Try.ntmps118
    go_wp2
    go_ret
    exact ⟨ret_int (by simp [absI]; omega), rfl⟩
--== cmp.Compare
theorem f_Compare (x y : Int) (w : World) : Calls Try.prog 157 #[.int .i64 x, .int .i64 y] w fun e w' => e = .returned (.int .i64 (if x < y then -1 else if y < x then 1 else 0)) ∧ w = w' := by
  have hx : (x != x) = false := by simp
  have hy : (y != y) = false := by simp
  by_cases h1 : x < y
  · go_enter Try.func157, Try.ntmps157
    go_wp2
    go_ret
    exact ⟨ret_int (by simp), rfl⟩
  · by_cases h2 : y < x
    · go_enter Try.func157, Try.ntmps157
      go_wp2
      go_ret
      exact ⟨ret_int (by simp), rfl⟩
    · go_enter Try.func157, Try.ntmps157
      go_wp2
      go_ret
      exact ⟨ret_int (by simp), rfl⟩
--== impl.sign
theorem i_sign (x : Int) (w : World) : Calls Try.prog 121 #[.int .i64 x] w fun e w' => e = .returned (.int .i64 (signI x)) ∧ w = w' := by
  have HS : Hid (signI x = if x < 0 then -1 else if 0 < x then 1 else 0) := rfl
  generalize signI x = s at *
  go_enter Try.func121, Try.ntmps121
  go_wp2_with fail
  refine (f_Compare x 0 _).mono ?_
  rintro e w' ⟨rfl, rfl⟩
  rw [← HS.out]
  go_wp2_with fail
  go_ret
  exact ⟨rfl, rfl⟩
--== sums
def expStep (out : List Int) (l : Int) : List Int := out.set (absI l - 1).toNat (out.getD (absI l - 1).toNat 0 + signI l)
def expW (k : Int) (w : List Int) : List Int := w.foldl expStep (List.replicate k.toNat 0)
theorem expW_succ (k : Int) (xs : List Int) (j : Nat) (h : j < xs.length) : expW k (xs.take (j + 1)) = expStep (expW k (xs.take j)) (xs.getD j 0) := by
  rw [take_snoc xs j 0 h, expW, List.foldl_append]; rfl
theorem expStep_length (out : List Int) (l : Int) : (expStep out l).length = out.length := by simp [expStep]
theorem expW_length (k : Int) (xs : List Int) : (expW k xs).length = k.toNat := by
  suffices g : ∀ (ys out : List Int), (ys.foldl expStep out).length = out.length by simpa [expW] using g xs (List.replicate k.toNat 0)
  intro ys
  induction ys with
  | nil => simp
  | cons y ys ih => intro out; rw [List.foldl_cons, ih, expStep_length]
theorem signI_bd (x : Int) : -1 ≤ signI x ∧ signI x ≤ 1 := by unfold signI; split <;> (try split) <;> omega
theorem getD_set' (xs : List Int) (i t : Nat) (y : Int) : (xs.set i y).getD t 0 = if i = t ∧ t < xs.length then y else xs.getD t 0 := by
  rw [List.getD_eq_getElem?_getD, List.getElem?_set, List.getD_eq_getElem?_getD]
  by_cases e : i = t
  · subst e
    by_cases h : i < xs.length <;> simp [h]
  · simp [e]
theorem expW_bd (k : Int) (xs : List Int) (t : Nat) : -(xs.length : Int) ≤ (expW k xs).getD t 0 ∧ (expW k xs).getD t 0 ≤ xs.length := by
  suffices g : ∀ (ys out : List Int) (m : Nat), (∀ t, -(m : Int) ≤ out.getD t 0 ∧ out.getD t 0 ≤ m) → ∀ t, -((m + ys.length : Nat) : Int) ≤ (ys.foldl expStep out).getD t 0 ∧ (ys.foldl expStep out).getD t 0 ≤ ((m + ys.length : Nat) : Int) by
    have := g xs (List.replicate k.toNat 0) 0 (fun t => by
      rw [List.getD_eq_getElem?_getD, List.getElem?_replicate]; split <;> simp) t
    simpa [expW] using this
  intro ys
  induction ys with
  | nil => intro out m h t; simpa using h t
  | cons y ys ih =>
    intro out m h t
    have := ih (expStep out y) (m + 1) (fun t => by
      unfold expStep
      rw [getD_set']
      have h1 := h t
      have h2 := h (absI y - 1).toNat
      have h3 := signI_bd y
      split <;> omega) t
    rw [List.foldl_cons, List.length_cons]
    omega
theorem letB_abs {k l : Int} (hk0 : 0 ≤ k) (h : letB k l = true) : ∃ m : Nat, absI l = (m : Int) + 1 ∧ (m : Int) < k := by
  simp only [letB, Bool.and_eq_true, bne_iff_ne] at h
  have h1 := inB_true.1 h.2
  have h2 := h.1
  refine ⟨(absI l - 1).toNat, ?_, ?_⟩ <;> (unfold absI; split <;> omega)
theorem wordB_letter {k : Int} {xs : List Int} (h : wordB k xs = true) (j : Nat) (hj : j < xs.length) : letB k (xs.getD j 0) = true := by
  simp only [wordB, Bool.and_eq_true, List.all_eq_true] at h
  exact h.1 _ (getD_mem hj)
--== impl.ExponentSums
set_option maxHeartbeats 2000000 in
theorem i_ExponentSums (k : Int) (v : Value) (xs : List Int) (w : World) (hv : Rd w v xs) :
    Calls Try.prog 59 #[.int .i64 k, v] w (RetInts2 w (okW (codeOf k [xs]) (expW k xs)) (codeOf k [xs])) := by
  obtain ⟨i0, hi, hz0, hz1, hz2⟩ := info_parts Try.info2
  obtain ⟨ao, cap, rfl, _, _⟩ := hv.form
  have hl := Rd2.lit1 22 _ xs hv
  by_cases hc : codeOf k [xs] = 0
  · obtain ⟨⟨h0, h6⟩, hw⟩ := codeOf_zero hc
    have hwx := hw xs (by simp)
    obtain ⟨hsm, h64⟩ := wordB_small h6 hwx
    have HC := Lib.hid hc
    have HW := Lib.hid hwx
    obtain ⟨K, rfl⟩ : ∃ K : Nat, k = (K : Int) := ⟨k.toNat, by omega⟩
    have hv1 := hv.below (below_alloc w (.cells #[.slice ao xs.length cap] 22))
    clear hc hw hwx
    go_enter Try.func59, Try.ntmps59
    go_wp2_with fail
    refine (i_wordCode _ _ _ _ hl).mono ?_
    rintro e w' ⟨rfl, rfl⟩
    rw [HC.out]
    clear hl
    go_wp2_with (at_make; refine wp_mkInts _ rfl _ _ rfl i0 Try.underlying22 hi hz0 hz1 hz2 _ _ _ _ K rfl rfl rfl rfl (by omega) ?_)
    intro w1 hI hB hgt
    have hB0 := below_from (below_alloc w _) hB (Nat.le_succ _)
    have hI0 := hI.mono (Nat.le_succ _)
    clear hI hB
    obtain ⟨ao, cap, he, _, _, _, hA⟩ := hv
    cases he
    go_wp2_with fail
    go_loopw [9, 21] (fun _ i wr => ∃ j : Nat, j ≤ xs.length ∧ i = .int .i64 j ∧ Ints wr w.heap.size (.slice (some ⟨w.heap.size + 1, 0, none⟩) K K) (expW K (xs.take j)) ∧ Below w.heap.size w wr) (fun _ i _ => xs.length - (intOf i).toNat)
    case atStart => exact ⟨0, Nat.zero_le _, rfl, by simpa [expW] using hI0, hB0⟩
    case round =>
      clear hI0 hB0 hgt hv1
      obtain ⟨j, hj, rfl, hI, hB⟩ := hrel
      have hS := hB.size
      have hlen : K = (expW K (xs.take j)).length := by rw [expW_length]; simp
      by_cases hlt : j < xs.length
      · rcases hA with hA | ⟨b, off, rfl, hA⟩
        · omega
        have hc := hA j hlt
        have hcell : wr.cell? ⟨b, off + j, none⟩ = some (.int .i64 (xs.getD j 0)) := (hB.cell (World.block_lt_of_cell? w _ hc)).trans hc
        obtain ⟨hx1, hx2⟩ := hsm.getD j hlt
        obtain ⟨m, hm, hmk⟩ := letB_abs (Int.natCast_nonneg K) (wordB_letter HW.out j hlt)
        have HS := Lib.hid (expW_succ K xs j hlt)
        have hbd := expW_bd K (xs.take j) m
        rw [List.length_take] at hbd
        obtain ⟨hcell2, hfz⟩ := hI.cell hlen m (by omega)
        have hsg := signI_bd (xs.getD j 0)
        obtain ⟨h1, h2⟩ := hI.set hlen m ((expW K (xs.take j)).getD m 0 + signI (xs.getD j 0))
        have HE : Hid (expStep (expW K (xs.take j)) (xs.getD j 0) = (expW K (xs.take j)).set m ((expW K (xs.take j)).getD m 0 + signI (xs.getD j 0))) := by
          show expStep _ _ = _
          unfold expStep
          rw [hm, show ((m : Int) + 1 - 1).toNat = m by omega]
        have hB2 := hB.trans (h2.below (Nat.le_succ _) hS)
        have habs : Hid (∀ w, Calls Try.prog 118 #[.int .i64 (xs.getD j 0)] w fun e w' => e = .returned (.int .i64 ((m : Int) + 1)) ∧ w = w') := fun w => by rw [← hm]; exact i_abs _ w (by omega)
        have hsgn : Hid (∀ w, Calls Try.prog 121 #[.int .i64 (xs.getD j 0)] w fun e w' => e = .returned (.int .i64 (signI (xs.getD j 0))) ∧ w = w') := fun w => i_sign _ w
        clear hA hc hm hI hlen
        generalize signI (xs.getD j 0) = s at *
        generalize xs.getD j 0 = x at *
        generalize expW K (xs.take j) = R at *
        generalize R.getD m 0 = y at *
        have hmk' : m < K := by omega
        have hw1 : IntKind.i64.wrap (m : Int) = m := IntWalk.i64_in _ (by omega)
        have hw2 : IntKind.i64.wrap (y + s) = y + s := IntWalk.i64_in _ (by omega)
        go_wp2_with fail
        go_region_with (first | (go_at_call 118; refine (habs.out _).mono ?_; rintro e w' ⟨rfl, rfl⟩) | (go_at_call 121; refine (hsgn.out _).mono ?_; rintro e w' ⟨rfl, rfl⟩))
        all_goals
          go_wp2
          go_roundw
          case rel => exact ⟨j + 1, by omega, by go_num, by rw [HS.out, HE.out]; exact h1, by first | exact hB2 | exact hB2.drew⟩
          case measure => simp [intOf]; omega
      · obtain rfl : j = xs.length := by omega
        rw [List.take_length] at hI
        go_wp2
        go_ret2
        exact ⟨_, ret_tup HC.out.symm, by rw [okW_zero HC.out]; unfold Ints at hI ⊢; exact hI, hB⟩
  · have hc1 : (codeOf k [xs] != 0) = true := by simpa using hc
    have HC := Lib.hid hc
    clear hc
    go_enter Try.func59, Try.ntmps59
    go_wp2_with fail
    refine (i_wordCode _ _ _ _ hl).mono ?_
    rintro e w' ⟨rfl, rfl⟩
    go_wp2_with fail
    go_ret2
    exact ⟨_, rfl, by rw [okW_ne HC.out]; exact Ints.nil _ _, below_alloc _ _⟩
