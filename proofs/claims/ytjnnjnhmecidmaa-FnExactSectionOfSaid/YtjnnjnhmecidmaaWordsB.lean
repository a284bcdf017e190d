/-
  Words: the reduced form, the inverse, the codes.
-/
import Derived.Test.YtjnnjnhmecidmaaWordsA
namespace Go.Proofs.Ytjnnjnhmecidmaa
set_option linter.unusedVariables false
set_option linter.unusedSimpArgs false
set_option maxRecDepth 100000
open Go.RowKit

/-! ### the reduced form, as a fold -/
def redStep (out : List Int) (l : Int) : List Int := if out.getLast? = some (-l) then out.dropLast else out ++ [l]
def redW (xs : List Int) : List Int := xs.foldl redStep []
theorem redW_succ (xs : List Int) (k : Nat) (h : k < xs.length) : redW (xs.take (k + 1)) = redStep (redW (xs.take k)) (xs.getD k 0) := by
  rw [take_snoc xs k 0 h, redW, List.foldl_append]; rfl
theorem redStep_empty {out : List Int} (l : Int) (h : out.length = 0) : redStep out l = out ++ [l] := by
  have : out = [] := List.eq_nil_of_length_eq_zero h
  subst this; simp [redStep]
theorem getLast_getD {out : List Int} (h : 0 < out.length) : out.getLast? = some (out.getD (out.length - 1) 0) := by
  rw [List.getLast?_eq_getElem?, List.getElem?_eq_getElem (by omega)]
  simp [List.getD, show out.length - 1 < out.length by omega]
theorem redStep_pop {out : List Int} {l : Int} (h : 0 < out.length) (h2 : out.getD (out.length - 1) 0 = -l) : redStep out l = out.take (out.length - 1) := by
  unfold redStep
  rw [getLast_getD h, h2, if_pos rfl, List.dropLast_eq_take]
theorem redStep_push {out : List Int} {l : Int} (h : 0 < out.length) (h2 : out.getD (out.length - 1) 0 ≠ -l) : redStep out l = out ++ [l] := by
  unfold redStep
  rw [getLast_getD h, if_neg (by simpa using h2)]
theorem redStep_length (out : List Int) (l : Int) : (redStep out l).length ≤ out.length + 1 := by
  unfold redStep; split <;> simp
  omega
theorem redW_length (xs : List Int) : (redW xs).length ≤ xs.length := by
  suffices h : ∀ (xs out : List Int), (xs.foldl redStep out).length ≤ out.length + xs.length by simpa [redW] using h xs []
  intro xs
  induction xs with
  | nil => simp
  | cons x xs ih => intro out; have := ih (redStep out x); have := redStep_length out x; simp only [List.foldl_cons, List.length_cons]; omega

/-- numbers that can be negated -/
def Small (xs : List Int) : Prop := ∀ x ∈ xs, -1000000000 ≤ x ∧ x ≤ 1000000000
theorem Small.getD {xs : List Int} (h : Small xs) (j : Nat) (hj : j < xs.length) : -1000000000 ≤ xs.getD j 0 ∧ xs.getD j 0 ≤ 1000000000 := h _ (getD_mem hj)
theorem redW_small {xs : List Int} (h : Small xs) : Small (redW xs) := by
  suffices g : ∀ (ys out : List Int), Small ys → Small out → Small (ys.foldl redStep out) by
    exact g xs [] h fun x hx => by cases hx
  intro ys
  induction ys with
  | nil => intro out _ ho; exact ho
  | cons y ys ih =>
    intro out hy ho
    refine ih _ (fun x hx => hy x (List.mem_cons_of_mem _ hx)) fun x hx => ?_
    unfold redStep at hx
    split at hx
    · exact ho x (List.dropLast_subset _ hx)
    · rcases List.mem_append.1 hx with hx | hx
      · exact ho x hx
      · simp at hx; subst hx; exact hy x (List.mem_cons_self)

--== impl.reduceWord
set_option maxHeartbeats 1000000 in
theorem i_reduceWord (v : Value) (xs : List Int) (w : World) (hv : Rd w v xs) (hs : xs.length ≤ 100000000) (hsm : Small xs) :
    Calls Try.prog 124 #[v] w (RetInts w (redW xs)) := by
  obtain ⟨i0, hi, hz0, hz1, hz2⟩ := info_parts Try.info2
  obtain ⟨ao, cap, rfl, hc1, hc2, _, hA⟩ := hv
  go_enter Try.func124, Try.ntmps124
  go_wp2
  go_loopw [3, 9] (fun u i wr => ∃ j : Nat, j ≤ xs.length ∧ i = .int .i64 j ∧ Ints wr w.heap.size u (redW (xs.take j)) ∧ Below w.heap.size w wr) (fun _ i _ => xs.length - (intOf i).toNat)
  case atStart => exact ⟨0, Nat.zero_le _, rfl, Ints.nil _ _, Below.refl _ _⟩
  case round =>
    obtain ⟨j, hj, rfl, hI, hB⟩ := hrel
    have hS := hB.size
    have hR := redW_length (xs.take j)
    rw [List.length_take] at hR
    by_cases hlt : j < xs.length
    · rcases hA with hA | ⟨b, off, rfl, hA⟩
      · omega
      have hc := hA j hlt
      have hcell : wr.cell? ⟨b, off + j, none⟩ = some (.int .i64 (xs.getD j 0)) := (hB.cell (World.block_lt_of_cell? w _ hc)).trans hc
      obtain ⟨hx1, hx2⟩ := hsm.getD j hlt
      have HS := Lib.hid (redW_succ xs j hlt)
      have HSM := Lib.hid (redW_small (fun x hx => hsm x (List.mem_of_mem_take hx) : Small (xs.take j)))
      clear hA hc
      generalize xs.getD j 0 = x at *
      generalize redW (xs.take j) = R at *
      have hRl : R.length ≤ xs.length := by omega
      clear hR
      by_cases h0 : R.length = 0
      · have HE := Lib.hid (redStep_empty x h0)
        have h0' : R.length ≤ 0 := by omega
        clear h0
        obtain ⟨ao', cap', rfl, hd1, hd2⟩ := hI.form
        go_wp2_with (at_builtin; refine wp_app1 _ rfl _ _ rfl w.heap.size i0 Try.underlying22 hi hz0 hz1 hz2 _ _ rfl hI x rfl (by omega) (by omega) ?_)
        intro v' w1 hI1 hG hB1
        go_wp2
        go_roundw
        case rel => exact ⟨j + 1, by omega, by go_num, by rw [HS.out, HE.out]; exact hI1, hB.trans hB1⟩
        case measure => simp [intOf]; omega
      · obtain ⟨g, cap', rfl, hg1, hg2, hd1, hd2, hgc, hgf⟩ := hI.open (by omega)
        have hpos : 0 < R.length := by omega
        clear h0
        have hlast := hgc (R.length - 1) (by omega)
        obtain ⟨hy1, hy2⟩ := HSM.out.getD (R.length - 1) (by omega)
        clear hgc hgf
        by_cases hyx : R.getD (R.length - 1) 0 = -x
        · have HE := Lib.hid (redStep_pop hpos hyx)
          have hT := hI.take rfl (Nat.sub_le R.length 1)
          rw [hyx] at hlast
          clear hyx hI hy1 hy2
          go_wp2
          go_roundw
          case rel => exact ⟨j + 1, by omega, by go_num, by rw [HS.out, HE.out]; exact hT, hB⟩
          case measure => simp [intOf]; omega
        · have HE := Lib.hid (redStep_push hpos hyx)
          generalize R.getD (R.length - 1) 0 = y at *
          have hyx1 : (y == -x) = false := by simpa using hyx
          clear hyx
          go_wp2_with (at_builtin; refine wp_app1 _ rfl _ _ rfl w.heap.size i0 Try.underlying22 hi hz0 hz1 hz2 _ _ rfl hI x rfl (by omega) (by omega) ?_)
          intro v' w1 hI1 hG hB1
          go_wp2
          go_roundw
          case rel => exact ⟨j + 1, by omega, by go_num, by rw [HS.out, HE.out]; exact hI1, hB.trans hB1⟩
          case measure => simp [intOf]; omega
    · obtain rfl : j = xs.length := by omega
      rw [List.take_length] at hI
      go_wp2
      go_ret
      exact ⟨_, rfl, hI, hB⟩
--== blocks that a call makes
/-- an empty slice that is not nil -/
theorem Ints.empty (w : World) : Ints (w.alloc (.cells #[] 2)) w.heap.size (.slice (some ⟨w.heap.size, 0, none⟩) 0 0) [] :=
  ⟨rfl, .inr ⟨w.heap.size, 0, #[], rfl, Nat.le_refl _, heap_alloc_new w _, Nat.le_refl _, by simp [maxLen], rfl, rfl⟩⟩
theorem below_alloc (w : World) (o : Obj) : Below w.heap.size w (w.alloc o) := (Below.refl _ _).alloc (Nat.le_refl _) o
--== spec.l06Reduce
set_option maxHeartbeats 1000000 in
theorem s_l06Reduce (v : Value) (xs : List Int) (w : World) (hv : Rd w v xs) (hs : xs.length ≤ 100000000) (hsm : Small xs) :
    Calls Try.prog 185 #[v] w (RetInts w (redW xs)) := by
  obtain ⟨i0, hi, hz0, hz1, hz2⟩ := info_parts Try.info2
  obtain ⟨ao, cap, rfl, hc1, hc2, _, hA⟩ := hv
  go_enter Try.func185, Try.ntmps185
  go_wp2
  go_loopw [3, 4] (fun u i wr => ∃ j : Nat, j ≤ xs.length ∧ i = .int .i64 j ∧ Ints wr w.heap.size u (redW (xs.take j)) ∧ Below w.heap.size w wr) (fun _ i _ => xs.length - (intOf i).toNat)
  case atStart => exact ⟨0, Nat.zero_le _, rfl, Ints.empty w, below_alloc _ _⟩
  case round =>
    obtain ⟨j, hj, rfl, hI, hB⟩ := hrel
    have hS := hB.size
    have hR := redW_length (xs.take j)
    rw [List.length_take] at hR
    by_cases hlt : j < xs.length
    · rcases hA with hA | ⟨b, off, rfl, hA⟩
      · omega
      have hc := hA j hlt
      have hcell : wr.cell? ⟨b, off + j, none⟩ = some (.int .i64 (xs.getD j 0)) := (hB.cell (World.block_lt_of_cell? w _ hc)).trans hc
      obtain ⟨hx1, hx2⟩ := hsm.getD j hlt
      have HS := Lib.hid (redW_succ xs j hlt)
      have HSM := Lib.hid (redW_small (fun x hx => hsm x (List.mem_of_mem_take hx) : Small (xs.take j)))
      clear hA hc
      generalize xs.getD j 0 = x at *
      generalize redW (xs.take j) = R at *
      have hRl : R.length ≤ xs.length := by omega
      clear hR
      by_cases h0 : R.length = 0
      · have HE := Lib.hid (redStep_empty x h0)
        have h0' : R.length ≤ 0 := by omega
        clear h0
        obtain ⟨ao', cap', rfl, hd1, hd2⟩ := hI.form
        have hg0 : decide (0 < R.length) = false := decide_eq_false (by omega)
        go_wp2
        go_quiet (fail)
        have hQ := below_drewN (Below.refl w.heap.size wr) nq
        go_wp2_with (at_builtin; refine wp_app1 _ rfl _ _ rfl w.heap.size i0 Try.underlying22 hi hz0 hz1 hz2 _ _ rfl (hI.below (below_drewN (Below.refl _ _) nq)) x rfl (by omega) (by show _ ≤ wr.heap.size; omega) ?_)
        intro v' w1 hI1 hG hB1
        go_wp2
        go_roundw
        case rel => exact ⟨j + 1, by omega, by go_num, by rw [HS.out, HE.out]; exact hI1, hB.trans (hQ.trans hB1)⟩
        case measure => simp [intOf]; omega
      · obtain ⟨g, cap', rfl, hg1, hg2, hd1, hd2, hgc, hgf⟩ := hI.open (by omega)
        have hpos : 0 < R.length := by omega
        have hg0 : decide (0 < R.length) = true := decide_eq_true hpos
        clear h0
        have hlast := hgc (R.length - 1) (by omega)
        obtain ⟨hy1, hy2⟩ := HSM.out.getD (R.length - 1) (by omega)
        clear hgc hgf
        by_cases hyx : R.getD (R.length - 1) 0 = -x
        · have HE := Lib.hid (redStep_pop hpos hyx)
          have hT := hI.take rfl (Nat.sub_le R.length 1)
          rw [hyx] at hlast
          clear hyx hI hy1 hy2
          go_wp2
          go_quiet (fail)
          have hT' := hT.below (below_drewN (Below.refl _ _) nq)
          have hQ := below_drewN (Below.refl w.heap.size wr) nq
          go_wp2
          go_roundw
          case rel => exact ⟨j + 1, by omega, by go_num, by rw [HS.out, HE.out]; exact hT', hB.trans hQ⟩
          case measure => simp [intOf]; omega
        · have HE := Lib.hid (redStep_push hpos hyx)
          generalize R.getD (R.length - 1) 0 = y at *
          have hyx1 : (y == -x) = false := by simpa using hyx
          clear hyx
          go_wp2
          go_quiet (fail)
          have hQ := below_drewN (Below.refl w.heap.size wr) nq
          go_wp2_with (at_builtin; refine wp_app1 _ rfl _ _ rfl w.heap.size i0 Try.underlying22 hi hz0 hz1 hz2 _ _ rfl (hI.below (below_drewN (Below.refl _ _) nq)) x rfl (by omega) (by show _ ≤ wr.heap.size; omega) ?_)
          intro v' w1 hI1 hG hB1
          go_wp2
          go_roundw
          case rel => exact ⟨j + 1, by omega, by go_num, by rw [HS.out, HE.out]; exact hI1, hB.trans (hQ.trans hB1)⟩
          case measure => simp [intOf]; omega
    · obtain rfl : j = xs.length := by omega
      rw [List.take_length] at hI
      go_wp2
      go_ret
      exact ⟨_, rfl, hI, hB⟩
end Go.Proofs.Ytjnnjnhmecidmaa
