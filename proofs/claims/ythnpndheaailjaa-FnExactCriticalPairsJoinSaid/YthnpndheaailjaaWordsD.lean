/-
  Words: is a list a word; its reduced form; its inverse.
  Words: the reduced form, the inverse, the codes.
  slices.Reverse in place.
  Words: the inverse, the codes of arguments, joins.
  Words: the exported functions; joins.
-/
import Derived.Test.YthnpndheaailjaaLeaf
import Derived.Lib.AppendZeros
namespace Go.Proofs.Ythnpndheaailjaa
set_option linter.unusedVariables false
set_option linter.unusedSimpArgs false
set_option maxRecDepth 100000
open Go.RowKit

--== plain (WordsA)
/-- a letter over k generators -/
def letB (k l : Int) : Bool := (l != 0) && inB l (-k) k
/-- a word over k generators -/
def wordB (k : Int) (w : List Int) : Bool := w.all (letB k) && decide (w.length ≤ 64)

theorem all_take_succ (f : Int → Bool) (xs : List Int) (k : Nat) (h : k < xs.length) : (xs.take (k + 1)).all f = ((xs.take k).all f && f (xs.getD k 0)) := by
  rw [take_snoc xs k 0 h]; simp
theorem all_false_of (f : Int → Bool) (xs : List Int) (k : Nat) (h : k < xs.length) (hf : f (xs.getD k 0) = false) : xs.all f = false := by
  rw [List.all_eq_false]; exact ⟨_, getD_mem h, by rw [hf]; simp⟩
theorem letB_zero (k : Int) : letB k 0 = false := by simp [letB]
theorem letB_of {k l : Int} (h : l ≠ 0) : letB k l = inB l (-k) k := by simp [letB, h]

--== impl.wordFits
set_option maxHeartbeats 400000 in
theorem i_wordFits (k : Int) (v : Value) (xs : List Int) (w : World) (hk0 : 0 ≤ k) (hk1 : k ≤ 1000) (hv : Rd w v xs) :
    Calls Try.prog 112 #[.int .i64 k, v] w fun e w' => e = .returned (.bool (wordB k xs)) ∧ w = w' := by
  obtain ⟨ao, cap, rfl, hc1, hc2, _, hA⟩ := hv
  go_enter Try.func112, Try.ntmps112
  go_wp2
  go_loop [9] (fun i => ∃ j : Nat, j ≤ xs.length ∧ i = .int .i64 j ∧ (xs.take j).all (letB k) = true) (fun i => xs.length - (intOf i).toNat)
  case atStart => exact ⟨0, Nat.zero_le _, rfl, rfl⟩
  case round =>
    obtain ⟨j, hj, rfl, hall⟩ := hrel
    by_cases hlt : j < xs.length
    · rcases hA with hA | ⟨b, off, rfl, hA⟩
      · omega
      have hcell := hA j hlt
      have HS := Lib.hid (all_take_succ (letB k) xs j hlt)
      have HF := Lib.hid (all_false_of (letB k) xs j hlt)
      have HA := Lib.hid hall
      clear hA hall
      generalize xs.getD j 0 = x at *
      by_cases hx : x = 0
      · subst hx
        go_wp2
        go_ret
        exact ⟨ret_bool (by unfold wordB; rw [HF.out (letB_zero k)]; rfl), rfl⟩
      · have hx1 : (x == 0) = false := by simp [hx]
        have HX := Lib.hid hx
        clear hx
        by_cases hin : inB x (-k) k = true
        · go_wp2_with (go_at_call 73; refine (i_inside _ _ _ _).mono ?_; rintro e w' ⟨rfl, rfl⟩)
          go_round
          case rel => exact ⟨j + 1, by omega, by go_num, by rw [HS.out, HA.out, letB_of HX.out, hin]; rfl⟩
          case measure => simp [intOf]; omega
        · have hin' : inB x (-k) k = false := by simpa using hin
          clear hin
          go_wp2_with (go_at_call 73; refine (i_inside _ _ _ _).mono ?_; rintro e w' ⟨rfl, rfl⟩)
          go_ret
          exact ⟨ret_bool (by unfold wordB; rw [HF.out (by rw [letB_of HX.out]; exact hin')]; rfl), rfl⟩
    · obtain rfl : j = xs.length := by omega
      rw [List.take_length] at hall
      have HA := Lib.hid hall
      clear hall
      by_cases h64 : xs.length ≤ 64 <;>
        (go_wp2
         go_ret
         exact ⟨ret_bool (by unfold wordB; rw [HA.out]; simp [h64]; omega), rfl⟩)
--== spec.l06Word
set_option maxHeartbeats 400000 in
theorem s_l06Word (k : Int) (v : Value) (xs : List Int) (w : World) (hk0 : 0 ≤ k) (hk1 : k ≤ 1000) (hv : Rd w v xs) :
    Calls Try.prog 119 #[.int .i64 k, v] w fun e w' => e = .returned (.bool (wordB k xs)) ∧ w = w' := by
  obtain ⟨ao, cap, rfl, hc1, hc2, _, hA⟩ := hv
  by_cases h64 : xs.length ≤ 64
  · go_enter Try.func119, Try.ntmps119
    go_wp2
    go_loop [5] (fun i => ∃ j : Nat, j ≤ xs.length ∧ i = .int .i64 j ∧ (xs.take j).all (letB k) = true) (fun i => xs.length - (intOf i).toNat)
    case atStart => exact ⟨0, Nat.zero_le _, rfl, rfl⟩
    case round =>
      obtain ⟨j, hj, rfl, hall⟩ := hrel
      by_cases hlt : j < xs.length
      · rcases hA with hA | ⟨b, off, rfl, hA⟩
        · omega
        have hcell := hA j hlt
        have HS := Lib.hid (all_take_succ (letB k) xs j hlt)
        have HF := Lib.hid (all_false_of (letB k) xs j hlt)
        have HA := Lib.hid hall
        clear hA hall
        generalize xs.getD j 0 = x at *
        by_cases hx : x = 0
        · subst hx
          go_wp2
          go_ret
          exact ⟨ret_bool (by unfold wordB; rw [HF.out (letB_zero k)]; rfl), rfl⟩
        · have hx1 : (x == 0) = false := by simp [hx]
          have HX := Lib.hid hx
          clear hx
          by_cases hin : inB x (-k) k = true
          · go_wp2_with (go_at_call 68; refine (s_l01In _ _ _ _).mono ?_; rintro e w' ⟨rfl, rfl⟩)
            go_round
            case rel => exact ⟨j + 1, by omega, by go_num, by rw [HS.out, HA.out, letB_of HX.out, hin]; rfl⟩
            case measure => simp [intOf]; omega
          · have hin' : inB x (-k) k = false := by simpa using hin
            clear hin
            go_wp2_with (go_at_call 68; refine (s_l01In _ _ _ _).mono ?_; rintro e w' ⟨rfl, rfl⟩)
            go_ret
            exact ⟨ret_bool (by unfold wordB; rw [HF.out (by rw [letB_of HX.out]; exact hin')]; rfl), rfl⟩
      · obtain rfl : j = xs.length := by omega
        rw [List.take_length] at hall
        have HA := Lib.hid hall
        clear hall
        go_wp2
        go_ret
        exact ⟨ret_bool (by unfold wordB; rw [HA.out]; simp [h64]), rfl⟩
  · go_enter Try.func119, Try.ntmps119
    go_wp2
    go_ret
    exact ⟨ret_bool (by unfold wordB; rw [decide_eq_false h64]; simp), rfl⟩
--== IsWord
def isWordB (k : Int) (w : List Int) : Bool := inB k 0 6 && wordB k w
--== impl.IsWord
theorem i_IsWord' (k : Int) (v : Value) (xs : List Int) (w : World) (hv : Rd w v xs) :
    Calls Try.prog 47 #[.int .i64 k, v] w fun e w' => e = .returned (.bool (isWordB k xs)) ∧ w = w' := by
  by_cases hk : inB k 0 6 = true
  · obtain ⟨h0, h1⟩ := inB_true.1 hk
    go_enter Try.func47, Try.ntmps47
    go_wp2_with (first | (go_at_call 111; refine (i_gensFit _ _).mono ?_; rintro e w' ⟨rfl, rfl⟩) | (go_at_call 112; refine (i_wordFits _ _ xs _ (by omega) (by omega) hv).mono ?_; rintro e w' ⟨rfl, rfl⟩))
    go_ret
    exact ⟨ret_bool (by simp [isWordB, hk]), rfl⟩
  · have hk' : inB k 0 6 = false := by simpa using hk
    clear hk
    go_enter Try.func47, Try.ntmps47
    go_wp2_with (go_at_call 111; refine (i_gensFit _ _).mono ?_; rintro e w' ⟨rfl, rfl⟩)
    go_ret
    exact ⟨ret_bool (by simp [isWordB, hk']), rfl⟩
theorem i_IsWord (k : Int) (v : Value) (xs : List Int) (w : World) (hv : Rd w v xs) : Calls Try.prog 47 #[.int .i64 k, v] w (RetV w (.bool (isWordB k xs))) := retV_same (i_IsWord' k v xs w hv)
--== plain (WordsB)
/-! ### the reduced form, as a fold -/
def redStep (out : List Int) (l : Int) : List Int := if out.getLast? = some (-l) then out.dropLast else out ++ [l]
def redW (xs : List Int) : List Int := xs.foldl redStep []
theorem redW_succ (xs : List Int) (k : Nat) (h : k < xs.length) : redW (xs.take (k + 1)) = redStep (redW (xs.take k)) (xs.getD k 0) := by
  rw [take_snoc xs k 0 h, redW, List.foldl_append]; rfl
theorem redStep_empty {out : List Int} (l : Int) (h : out.length = 0) : redStep out l = out ++ [l] := by
  have : out = [] := List.eq_nil_of_length_eq_zero h
  subst this; simp [redStep]
theorem getLast_getD {out : List Int} (h : 0 < out.length) : out.getLast? = some (out.getD (out.length - 1) 0) := by
  rw [List.getLast?_eq_getElem?, List.getElem?_eq_getElem (by omega)]
  simp [List.getD, show out.length - 1 < out.length by omega]
theorem redStep_pop {out : List Int} {l : Int} (h : 0 < out.length) (h2 : out.getD (out.length - 1) 0 = -l) : redStep out l = out.take (out.length - 1) := by
  unfold redStep
  rw [getLast_getD h, h2, if_pos rfl, List.dropLast_eq_take]
theorem redStep_push {out : List Int} {l : Int} (h : 0 < out.length) (h2 : out.getD (out.length - 1) 0 ≠ -l) : redStep out l = out ++ [l] := by
  unfold redStep
  rw [getLast_getD h, if_neg (by simpa using h2)]
theorem redStep_length (out : List Int) (l : Int) : (redStep out l).length ≤ out.length + 1 := by
  unfold redStep; split <;> simp
  omega
theorem redW_length (xs : List Int) : (redW xs).length ≤ xs.length := by
  suffices h : ∀ (xs out : List Int), (xs.foldl redStep out).length ≤ out.length + xs.length by simpa [redW] using h xs []
  intro xs
  induction xs with
  | nil => simp
  | cons x xs ih => intro out; have := ih (redStep out x); have := redStep_length out x; simp only [List.foldl_cons, List.length_cons]; omega

/-- numbers that can be negated -/
def Small (xs : List Int) : Prop := ∀ x ∈ xs, -1000000000 ≤ x ∧ x ≤ 1000000000
theorem Small.getD {xs : List Int} (h : Small xs) (j : Nat) (hj : j < xs.length) : -1000000000 ≤ xs.getD j 0 ∧ xs.getD j 0 ≤ 1000000000 := h _ (getD_mem hj)
theorem redW_small {xs : List Int} (h : Small xs) : Small (redW xs) := by
  suffices g : ∀ (ys out : List Int), Small ys → Small out → Small (ys.foldl redStep out) by
    exact g xs [] h fun x hx => by cases hx
  intro ys
  induction ys with
  | nil => intro out _ ho; exact ho
  | cons y ys ih =>
    intro out hy ho
    refine ih _ (fun x hx => hy x (List.mem_cons_of_mem _ hx)) fun x hx => ?_
    unfold redStep at hx
    split at hx
    · exact ho x (List.dropLast_subset _ hx)
    · rcases List.mem_append.1 hx with hx | hx
      · exact ho x hx
      · simp at hx; subst hx; exact hy x (List.mem_cons_self)

--== impl.reduceWord
set_option maxHeartbeats 1000000 in
theorem i_reduceWord (v : Value) (xs : List Int) (w : World) (hv : Rd w v xs) (hs : xs.length ≤ 100000000) (hsm : Small xs) :
    Calls Try.prog 76 #[v] w (RetInts w (redW xs)) := by
  obtain ⟨i0, hi, hz0, hz1, hz2⟩ := info_parts Try.info2
  obtain ⟨ao, cap, rfl, hc1, hc2, _, hA⟩ := hv
  go_enter Try.func76, Try.ntmps76
  go_wp2
  go_loopw [3, 9] (fun u i wr => ∃ j : Nat, j ≤ xs.length ∧ i = .int .i64 j ∧ Ints wr w.heap.size u (redW (xs.take j)) ∧ Below w.heap.size w wr) (fun _ i _ => xs.length - (intOf i).toNat)
  case atStart => exact ⟨0, Nat.zero_le _, rfl, Ints.nil _ _, Below.refl _ _⟩
  case round =>
    obtain ⟨j, hj, rfl, hI, hB⟩ := hrel
    have hS := hB.size
    have hR := redW_length (xs.take j)
    rw [List.length_take] at hR
    by_cases hlt : j < xs.length
    · rcases hA with hA | ⟨b, off, rfl, hA⟩
      · omega
      have hc := hA j hlt
      have hcell : wr.cell? ⟨b, off + j, none⟩ = some (.int .i64 (xs.getD j 0)) := (hB.cell (World.block_lt_of_cell? w _ hc)).trans hc
      obtain ⟨hx1, hx2⟩ := hsm.getD j hlt
      have HS := Lib.hid (redW_succ xs j hlt)
      have HSM := Lib.hid (redW_small (fun x hx => hsm x (List.mem_of_mem_take hx) : Small (xs.take j)))
      clear hA hc
      generalize xs.getD j 0 = x at *
      generalize redW (xs.take j) = R at *
      have hRl : R.length ≤ xs.length := by omega
      clear hR
      by_cases h0 : R.length = 0
      · have HE := Lib.hid (redStep_empty x h0)
        have h0' : R.length ≤ 0 := by omega
        clear h0
        obtain ⟨ao', cap', rfl, hd1, hd2⟩ := hI.form
        go_wp2_with (at_builtin; refine wp_app1 _ rfl _ _ rfl w.heap.size i0 Try.underlying22 hi hz0 hz1 hz2 _ _ rfl hI x rfl (by omega) (by omega) ?_)
        intro v' w1 hI1 hG hB1
        go_wp2
        go_roundw
        case rel => exact ⟨j + 1, by omega, by go_num, by rw [HS.out, HE.out]; exact hI1, hB.trans hB1⟩
        case measure => simp [intOf]; omega
      · obtain ⟨g, cap', rfl, hg1, hg2, hd1, hd2, hgc, hgf⟩ := hI.open (by omega)
        have hpos : 0 < R.length := by omega
        clear h0
        have hlast := hgc (R.length - 1) (by omega)
        obtain ⟨hy1, hy2⟩ := HSM.out.getD (R.length - 1) (by omega)
        clear hgc hgf
        by_cases hyx : R.getD (R.length - 1) 0 = -x
        · have HE := Lib.hid (redStep_pop hpos hyx)
          have hT := hI.take rfl (Nat.sub_le R.length 1)
          rw [hyx] at hlast
          clear hyx hI hy1 hy2
          go_wp2
          go_roundw
          case rel => exact ⟨j + 1, by omega, by go_num, by rw [HS.out, HE.out]; exact hT, hB⟩
          case measure => simp [intOf]; omega
        · have HE := Lib.hid (redStep_push hpos hyx)
          generalize R.getD (R.length - 1) 0 = y at *
          have hyx1 : (y == -x) = false := by simpa using hyx
          clear hyx
          go_wp2_with (at_builtin; refine wp_app1 _ rfl _ _ rfl w.heap.size i0 Try.underlying22 hi hz0 hz1 hz2 _ _ rfl hI x rfl (by omega) (by omega) ?_)
          intro v' w1 hI1 hG hB1
          go_wp2
          go_roundw
          case rel => exact ⟨j + 1, by omega, by go_num, by rw [HS.out, HE.out]; exact hI1, hB.trans hB1⟩
          case measure => simp [intOf]; omega
    · obtain rfl : j = xs.length := by omega
      rw [List.take_length] at hI
      go_wp2
      go_ret
      exact ⟨_, rfl, hI, hB⟩
--== blocks that a call makes
/-- an empty slice that is not nil -/
theorem Ints.empty (w : World) : Ints (w.alloc (.cells #[] 2)) w.heap.size (.slice (some ⟨w.heap.size, 0, none⟩) 0 0) [] :=
  ⟨rfl, .inr ⟨w.heap.size, 0, #[], rfl, Nat.le_refl _, heap_alloc_new w _, Nat.le_refl _, by simp [maxLen], rfl, rfl⟩⟩
theorem below_alloc (w : World) (o : Obj) : Below w.heap.size w (w.alloc o) := (Below.refl _ _).alloc (Nat.le_refl _) o
--== spec.l06Reduce
set_option maxHeartbeats 1000000 in
theorem s_l06Reduce (v : Value) (xs : List Int) (w : World) (hv : Rd w v xs) (hs : xs.length ≤ 100000000) (hsm : Small xs) :
    Calls Try.prog 128 #[v] w (RetInts w (redW xs)) := by
  obtain ⟨i0, hi, hz0, hz1, hz2⟩ := info_parts Try.info2
  obtain ⟨ao, cap, rfl, hc1, hc2, _, hA⟩ := hv
  go_enter Try.func128, Try.ntmps128
  go_wp2
  go_loopw [3, 4] (fun u i wr => ∃ j : Nat, j ≤ xs.length ∧ i = .int .i64 j ∧ Ints wr w.heap.size u (redW (xs.take j)) ∧ Below w.heap.size w wr) (fun _ i _ => xs.length - (intOf i).toNat)
  case atStart => exact ⟨0, Nat.zero_le _, rfl, Ints.empty w, below_alloc _ _⟩
  case round =>
    obtain ⟨j, hj, rfl, hI, hB⟩ := hrel
    have hS := hB.size
    have hR := redW_length (xs.take j)
    rw [List.length_take] at hR
    by_cases hlt : j < xs.length
    · rcases hA with hA | ⟨b, off, rfl, hA⟩
      · omega
      have hc := hA j hlt
      have hcell : wr.cell? ⟨b, off + j, none⟩ = some (.int .i64 (xs.getD j 0)) := (hB.cell (World.block_lt_of_cell? w _ hc)).trans hc
      obtain ⟨hx1, hx2⟩ := hsm.getD j hlt
      have HS := Lib.hid (redW_succ xs j hlt)
      have HSM := Lib.hid (redW_small (fun x hx => hsm x (List.mem_of_mem_take hx) : Small (xs.take j)))
      clear hA hc
      generalize xs.getD j 0 = x at *
      generalize redW (xs.take j) = R at *
      have hRl : R.length ≤ xs.length := by omega
      clear hR
      by_cases h0 : R.length = 0
      · have HE := Lib.hid (redStep_empty x h0)
        have h0' : R.length ≤ 0 := by omega
        clear h0
        obtain ⟨ao', cap', rfl, hd1, hd2⟩ := hI.form
        have hg0 : decide (0 < R.length) = false := decide_eq_false (by omega)
        go_wp2
        go_quiet (fail)
        have hQ := below_drewN (Below.refl w.heap.size wr) nq
        go_wp2_with (at_builtin; refine wp_app1 _ rfl _ _ rfl w.heap.size i0 Try.underlying22 hi hz0 hz1 hz2 _ _ rfl (hI.below (below_drewN (Below.refl _ _) nq)) x rfl (by omega) (by show _ ≤ wr.heap.size; omega) ?_)
        intro v' w1 hI1 hG hB1
        go_wp2
        go_roundw
        case rel => exact ⟨j + 1, by omega, by go_num, by rw [HS.out, HE.out]; exact hI1, hB.trans (hQ.trans hB1)⟩
        case measure => simp [intOf]; omega
      · obtain ⟨g, cap', rfl, hg1, hg2, hd1, hd2, hgc, hgf⟩ := hI.open (by omega)
        have hpos : 0 < R.length := by omega
        have hg0 : decide (0 < R.length) = true := decide_eq_true hpos
        clear h0
        have hlast := hgc (R.length - 1) (by omega)
        obtain ⟨hy1, hy2⟩ := HSM.out.getD (R.length - 1) (by omega)
        clear hgc hgf
        by_cases hyx : R.getD (R.length - 1) 0 = -x
        · have HE := Lib.hid (redStep_pop hpos hyx)
          have hT := hI.take rfl (Nat.sub_le R.length 1)
          rw [hyx] at hlast
          clear hyx hI hy1 hy2
          go_wp2
          go_quiet (fail)
          have hT' := hT.below (below_drewN (Below.refl _ _) nq)
          have hQ := below_drewN (Below.refl w.heap.size wr) nq
          go_wp2
          go_roundw
          case rel => exact ⟨j + 1, by omega, by go_num, by rw [HS.out, HE.out]; exact hT', hB.trans hQ⟩
          case measure => simp [intOf]; omega
        · have HE := Lib.hid (redStep_push hpos hyx)
          generalize R.getD (R.length - 1) 0 = y at *
          have hyx1 : (y == -x) = false := by simpa using hyx
          clear hyx
          go_wp2
          go_quiet (fail)
          have hQ := below_drewN (Below.refl w.heap.size wr) nq
          go_wp2_with (at_builtin; refine wp_app1 _ rfl _ _ rfl w.heap.size i0 Try.underlying22 hi hz0 hz1 hz2 _ _ rfl (hI.below (below_drewN (Below.refl _ _) nq)) x rfl (by omega) (by show _ ≤ wr.heap.size; omega) ?_)
          intro v' w1 hI1 hG hB1
          go_wp2
          go_roundw
          case rel => exact ⟨j + 1, by omega, by go_num, by rw [HS.out, HE.out]; exact hI1, hB.trans (hQ.trans hB1)⟩
          case measure => simp [intOf]; omega
    · obtain rfl : j = xs.length := by omega
      rw [List.take_length] at hI
      go_wp2
      go_ret
      exact ⟨_, rfl, hI, hB⟩

--== plain (Rev)
def revTo (xs : List Int) (j : Nat) : List Int := (List.range xs.length).map fun t => if t < j ∨ xs.length ≤ t + j then xs.getD (xs.length - 1 - t) 0 else xs.getD t 0
theorem revTo_length (xs : List Int) (j : Nat) : (revTo xs j).length = xs.length := by simp [revTo]
theorem revTo_getD (xs : List Int) (j t : Nat) (h : t < xs.length) : (revTo xs j).getD t 0 = if t < j ∨ xs.length ≤ t + j then xs.getD (xs.length - 1 - t) 0 else xs.getD t 0 := by
  unfold revTo
  rw [List.getD_eq_getElem?_getD, List.getElem?_map, List.getElem?_range h]
  rfl
theorem ext_getD {xs ys : List Int} (hl : xs.length = ys.length) (h : ∀ j, j < xs.length → xs.getD j 0 = ys.getD j 0) : xs = ys := all_eq hl h
theorem getD_set (xs : List Int) (i t : Nat) (y : Int) (h : t < xs.length) : (xs.set i y).getD t 0 = if i = t then y else xs.getD t 0 := by
  rw [List.getD_eq_getElem?_getD, List.getElem?_set]
  by_cases e : i = t
  · subst e; simp [h]
  · simp [e, List.getD_eq_getElem?_getD]
theorem getD_reverse (xs : List Int) (t : Nat) (h : t < xs.length) : xs.reverse.getD t 0 = xs.getD (xs.length - 1 - t) 0 := by
  rw [List.getD_eq_getElem?_getD, List.getElem?_reverse h, List.getD_eq_getElem?_getD]
theorem revTo_zero (xs : List Int) : revTo xs 0 = xs := by
  refine ext_getD (revTo_length _ _) fun t ht => ?_
  rw [revTo_length] at ht
  rw [revTo_getD _ _ _ ht, if_neg (by omega)]
theorem revTo_end (xs : List Int) (j : Nat) (h : xs.length ≤ 2 * j + 1) : revTo xs j = xs.reverse := by
  refine ext_getD (by rw [revTo_length, List.length_reverse]) fun t ht => ?_
  rw [revTo_length] at ht
  rw [revTo_getD _ _ _ ht, getD_reverse _ _ ht]
  by_cases h1 : t < j ∨ xs.length ≤ t + j
  · rw [if_pos h1]
  · rw [if_neg h1]
    congr 1
    omega
theorem revTo_step (xs : List Int) (j : Nat) (h : 2 * j + 1 < xs.length) :
    ((revTo xs j).set j (xs.getD (xs.length - 1 - j) 0)).set (xs.length - 1 - j) (xs.getD j 0) = revTo xs (j + 1) := by
  refine ext_getD (by simp [revTo_length]) fun t ht => ?_
  rw [List.length_set, List.length_set, revTo_length] at ht
  rw [getD_set _ _ _ _ (by rw [List.length_set, revTo_length]; exact ht), getD_set _ _ _ _ (by rw [revTo_length]; exact ht), revTo_getD _ _ _ ht, revTo_getD _ _ _ ht]
  by_cases e1 : xs.length - 1 - j = t
  · rw [if_pos e1, if_pos (by omega)]
    congr 1; omega
  · rw [if_neg e1]
    by_cases e2 : j = t
    · rw [if_pos e2, if_pos (by omega), e2]
    · rw [if_neg e2]
      by_cases h1 : t < j ∨ xs.length ≤ t + j
      · rw [if_pos h1, if_pos (by omega)]
      · rw [if_neg h1, if_neg (by omega)]

--== slices.Reverse
set_option maxHeartbeats 1000000 in
theorem f_Reverse (B : Nat) (v : Value) (xs : List Int) (w : World) (hv : Ints w B v xs) (hs : xs.length ≤ 1000000000) :
    Calls Try.prog 129 #[v] w fun e w' => e = .returned (.tuple #[]) ∧ Ints w' B v xs.reverse ∧ Grew w w' v v ∧ w'.heap.size = w.heap.size := by
  obtain ⟨ao, cap, rfl, hc1, hc2, hA⟩ := hv.form'
  go_enter Try.func129, Try.ntmps129
  go_wp2
  go_loopw [2, 3] (fun i k wr => ∃ j : Nat, 2 * j ≤ xs.length ∧ i = .int .i64 j ∧ k = .int .i64 ((xs.length : Int) - 1 - j) ∧ Ints wr B (.slice ao xs.length cap) (revTo xs j) ∧ Grew w wr (.slice ao xs.length cap) (.slice ao xs.length cap) ∧ wr.heap.size = w.heap.size) (fun i _ _ => xs.length - (intOf i).toNat)
  case atStart => exact ⟨0, by omega, rfl, by go_num, by rw [revTo_zero]; exact hv, Grew.refl _ _, rfl⟩
  case round =>
    clear hv
    obtain ⟨j, hj, rfl, rfl, hI, hG, hS⟩ := hrel
    have hS' := Lib.hid hS
    clear hS
    by_cases hlt : 2 * j + 1 < xs.length
    · rcases hA with hA | ⟨g, rfl⟩
      · omega
      obtain ⟨hcell, hfz⟩ := hI.cell (revTo_length _ _).symm j (by omega)
      obtain ⟨hcell2, hfz2⟩ := hI.cell (revTo_length _ _).symm (xs.length - 1 - j) (by omega)
      rw [revTo_getD _ _ _ (by omega), if_neg (by omega)] at hcell hcell2
      obtain ⟨h1, h2⟩ := hI.set (revTo_length _ _).symm j (xs.getD (xs.length - 1 - j) 0)
      obtain ⟨h3, h4⟩ := h1.set (by rw [List.length_set, revTo_length]) (xs.length - 1 - j) (xs.getD j 0)
      rw [revTo_step xs j hlt] at h3
      have hG2 := hG.trans ((Grew.of_chg (n := xs.length) (c := cap) h2).trans (Grew.of_chg (n := xs.length) (c := cap) h4))
      clear hI h1 h2 h4 hG
      generalize xs.getD j 0 = x at *
      generalize xs.getD (xs.length - 1 - j) 0 = y at *
      have hlt' : (j : Int) < (xs.length : Int) - 1 - j := by omega
      go_wp2
      go_region
      go_wp2
      go_roundw
      case rel => exact ⟨j + 1, by omega, by go_num, by go_num, h3, ⟨⟨hG2.grown.os, hG2.grown.tape, hG2.grown.output, hG2.grown.size, hG2.grown.block⟩, hG2.moved⟩, by simpa using hS'.out⟩
      case measure => simp [intOf]; omega
    · rw [revTo_end xs j (by omega)] at hI
      have hge : ¬ ((j : Int) < (xs.length : Int) - 1 - j) := by omega
      go_wp2
      go_end0
      exact ⟨rfl, hI, hG, hS'.out⟩

--== plain (WordsC)
/-- The slice value v reads as the lists xss. -/
def Rd2 (w : World) (v : Value) (xss : List (List Int)) : Prop :=
  ∃ vs, RdV w v vs ∧ vs.length = xss.length ∧ ∀ i, i < xss.length → Rd w (vs.getD i undef) (xss.getD i [])

theorem Rd2.of_cells {w w' : World} {v : Value} {xss : List (List Int)} (h : Rd2 w v xss) (hc : ∀ a u, w.cell? a = some u → w'.cell? a = some u) : Rd2 w' v xss := by
  obtain ⟨vs, h1, h2, h3⟩ := h
  exact ⟨vs, h1.of_cells hc, h2, fun i hi => (h3 i hi).of_cells hc⟩
theorem Rd2.below {w w' : World} {v : Value} {xss : List (List Int)} (h : Rd2 w v xss) (hb : Below w.heap.size w w') : Rd2 w' v xss :=
  h.of_cells fun a _ ha => (hb.cell (World.block_lt_of_cell? w a ha)).trans ha

/-- The shape, for a walk: the value, and each row. -/
theorem Rd2.open {w : World} {v : Value} {xss : List (List Int)} (h : Rd2 w v xss) :
    ∃ ao cap, v = .slice ao xss.length cap ∧ xss.length ≤ cap ∧ cap ≤ 9223372036854775807 ∧
      (xss.length = 0 ∨ ∃ b off, ao = some ⟨b, off, none⟩ ∧ ∀ j, j < xss.length → ∃ r, w.cell? ⟨b, off + j, none⟩ = some r ∧ Rd w r (xss.getD j [])) := by
  obtain ⟨vs, ⟨ao, cap, hv, h1, h2, h0, h3⟩, hl, hr⟩ := h
  rw [hl] at hv h1 h3
  refine ⟨ao, cap, hv, h1, h2, ?_⟩
  rcases h3 with h3 | ⟨b, off, rfl, h3⟩
  · exact .inl h3
  · refine .inr ⟨b, off, rfl, fun j hj => ⟨vs.getD j undef, ?_, hr j hj⟩⟩
    rw [h3 j hj, List.getD, List.getElem?_eq_getElem (by omega)]; rfl

theorem below_cells {w w' : World} (hb : Below w.heap.size w w') : ∀ a u, w.cell? a = some u → w'.cell? a = some u :=
  fun a _ ha => (hb.cell (World.block_lt_of_cell? w a ha)).trans ha

/-- A list of lists that the call itself has laid. -/
theorem Rd2.lit {w : World} (t : TypeId) (vs : List Value) (xss : List (List Int)) (hl : vs.length = xss.length) (hm : vs.length ≤ 1000) (h : ∀ i, i < xss.length → Rd w (vs.getD i undef) (xss.getD i [])) :
    Rd2 (w.alloc (.cells vs.toArray t)) (.slice (some ⟨w.heap.size, 0, none⟩) vs.length vs.length) xss := by
  refine ⟨vs, ⟨_, vs.length, rfl, Nat.le_refl _, by omega, fun h => by (cases h), .inr ⟨w.heap.size, 0, rfl, fun j hj => ?_⟩⟩, hl, fun i hi => (h i hi).of_cells (below_cells (below_alloc w _))⟩
  rw [Nat.zero_add, World.cell?_alloc_new]
  simp
theorem Rd2.lit1 {w : World} (t : TypeId) (v : Value) (xs : List Int) (h : Rd w v xs) : Rd2 (w.alloc (.cells #[v] t)) (.slice (some ⟨w.heap.size, 0, none⟩) 1 1) [xs] :=
  Rd2.lit t [v] [xs] rfl (by simp) fun i hi => by
    obtain rfl : i = 0 := by simpa using hi
    exact h
theorem Rd2.lit2 {w : World} (t : TypeId) (v v' : Value) (xs ys : List Int) (h : Rd w v xs) (h' : Rd w v' ys) : Rd2 (w.alloc (.cells #[v, v'] t)) (.slice (some ⟨w.heap.size, 0, none⟩) 2 2) [xs, ys] :=
  Rd2.lit t [v, v'] [xs, ys] rfl (by simp) fun i hi => by
    match i, hi with
    | 0, _ => exact h
    | 1, _ => exact h'
    | i + 2, hi => simp at hi; omega
theorem Rd2.lit4 {w : World} (t : TypeId) (v v' v'' v3 : Value) (xs ys zs us : List Int) (h : Rd w v xs) (h' : Rd w v' ys) (h'' : Rd w v'' zs) (h3 : Rd w v3 us) : Rd2 (w.alloc (.cells #[v, v', v'', v3] t)) (.slice (some ⟨w.heap.size, 0, none⟩) 4 4) [xs, ys, zs, us] :=
  Rd2.lit t [v, v', v'', v3] [xs, ys, zs, us] rfl (by simp) fun i hi => by
    match i, hi with
    | 0, _ => exact h
    | 1, _ => exact h'
    | 2, _ => exact h''
    | 3, _ => exact h3
    | i + 4, hi => simp at hi; omega

/-! ### the inverse -/
def invW (xs : List Int) : List Int := (xs.map fun x => -x).reverse
theorem invW_length (xs : List Int) : (invW xs).length = xs.length := by simp [invW]
theorem neg_succ (xs : List Int) (k : Nat) (h : k < xs.length) : (xs.take (k + 1)).map (fun x => -x) = (xs.take k).map (fun x => -x) ++ [-(xs.getD k 0)] := by
  rw [take_snoc xs k 0 h]; simp
theorem invW_succ (xs : List Int) (k : Nat) (h : k < xs.length) : invW (xs.drop (xs.length - (k + 1))) = invW (xs.drop (xs.length - k)) ++ [-(xs.getD (xs.length - 1 - k) 0)] := by
  have e : xs.drop (xs.length - (k + 1)) = xs.getD (xs.length - 1 - k) 0 :: xs.drop (xs.length - k) := by
    rw [List.drop_eq_getElem_cons (by omega)]
    have h1 : xs.length - (k + 1) = xs.length - 1 - k := by omega
    have h2 : xs.length - (k + 1) + 1 = xs.length - k := by omega
    rw [h2]
    simp [List.getD, h1, show xs.length - 1 - k < xs.length by omega]
  rw [e]; simp [invW]
theorem invW_small {xs : List Int} (h : Small xs) : Small (invW xs) := by
  intro x hx
  simp only [invW, List.mem_reverse, List.mem_map] at hx
  obtain ⟨y, hy, rfl⟩ := hx
  have := h y hy
  omega

--== impl.invertWord
set_option maxHeartbeats 1000000 in
theorem i_invertWord (v : Value) (xs : List Int) (w : World) (hv : Rd w v xs) (hs : xs.length ≤ 100000000) (hsm : Small xs) :
    Calls Try.prog 74 #[v] w (RetInts w (invW xs)) := by
  obtain ⟨i0, hi, hz0, hz1, hz2⟩ := info_parts Try.info2
  obtain ⟨ao, cap, rfl, hc1, hc2, _, hA⟩ := hv
  go_enter Try.func74, Try.ntmps74
  go_wp2
  go_loopw [3, 8] (fun u i wr => ∃ j : Nat, j ≤ xs.length ∧ i = .int .i64 j ∧ Ints wr w.heap.size u ((xs.take j).map fun x => -x) ∧ Below w.heap.size w wr) (fun _ i _ => xs.length - (intOf i).toNat)
  case atStart => exact ⟨0, Nat.zero_le _, rfl, Ints.nil _ _, Below.refl _ _⟩
  case round =>
    obtain ⟨j, hj, rfl, hI, hB⟩ := hrel
    have hS := hB.size
    by_cases hlt : j < xs.length
    · rcases hA with hA | ⟨b, off, rfl, hA⟩
      · omega
      have hc := hA j hlt
      have hcell : wr.cell? ⟨b, off + j, none⟩ = some (.int .i64 (xs.getD j 0)) := (hB.cell (World.block_lt_of_cell? w _ hc)).trans hc
      obtain ⟨hx1, hx2⟩ := hsm.getD j hlt
      have HS := Lib.hid (neg_succ xs j hlt)
      have hl : ((xs.take j).map fun x => -x).length ≤ 1000000000 := by simp; omega
      clear hA hc
      generalize xs.getD j 0 = x at *
      generalize ((xs.take j).map fun x => -x) = R at *
      go_wp2_with (at_builtin; refine wp_app1 _ rfl _ _ rfl w.heap.size i0 Try.underlying22 hi hz0 hz1 hz2 _ _ rfl hI (-x) rfl hl (by omega) ?_)
      intro v' w1 hI1 hG hB1
      go_wp2
      go_roundw
      case rel => exact ⟨j + 1, by omega, by go_num, by rw [HS.out]; exact hI1, hB.trans hB1⟩
      case measure => simp [intOf]; omega
    · obtain rfl : j = xs.length := by omega
      rw [List.take_length] at hI
      have hl : (xs.map fun x => -x).length ≤ 1000000000 := by simp; omega
      go_wp2_with (go_at_call 129; refine (f_Reverse _ _ _ _ hI hl).mono ?_; rintro e w1 ⟨rfl, hI1, hG, _⟩)
      go_ret
      exact ⟨_, rfl, hI1, hB.trans (hG.below hS fun g hg => (hI.lt g hg).1)⟩
--== spec.l06Invert
set_option maxHeartbeats 1000000 in
theorem s_l06Invert (v : Value) (xs : List Int) (w : World) (hv : Rd w v xs) (hs : xs.length ≤ 100000000) (hsm : Small xs) :
    Calls Try.prog 70 #[v] w (RetInts w (invW xs)) := by
  obtain ⟨i0, hi, hz0, hz1, hz2⟩ := info_parts Try.info2
  obtain ⟨ao, cap, rfl, hc1, hc2, _, hA⟩ := hv
  go_enter Try.func70, Try.ntmps70
  go_wp2
  go_loopw [3, 4] (fun u i wr => ∃ j : Nat, j ≤ xs.length ∧ i = .int .i64 ((xs.length : Int) - 1 - j) ∧ Ints wr w.heap.size u (invW (xs.drop (xs.length - j))) ∧ Below w.heap.size w wr) (fun _ i _ => (intOf i + 1).toNat)
  case atStart => exact ⟨0, Nat.zero_le _, by go_num, by simpa [invW] using Ints.empty w, below_alloc _ _⟩
  case round =>
    obtain ⟨j, hj, rfl, hI, hB⟩ := hrel
    have hS := hB.size
    by_cases hlt : j < xs.length
    · rcases hA with hA | ⟨b, off, rfl, hA⟩
      · omega
      have hc := hA (xs.length - 1 - j) (by omega)
      have hcell : wr.cell? ⟨b, off + (xs.length - 1 - j), none⟩ = some (.int .i64 (xs.getD (xs.length - 1 - j) 0)) := (hB.cell (World.block_lt_of_cell? w _ hc)).trans hc
      obtain ⟨hx1, hx2⟩ := hsm.getD (xs.length - 1 - j) (by omega)
      have HS := Lib.hid (invW_succ xs j hlt)
      have hl : (invW (xs.drop (xs.length - j))).length ≤ 1000000000 := by rw [invW_length]; simp; omega
      have hpos : (0 : Int) ≤ (xs.length : Int) - 1 - j := by omega
      clear hA hc
      generalize xs.getD (xs.length - 1 - j) 0 = x at *
      generalize invW (xs.drop (xs.length - j)) = R at *
      go_wp2_with (at_builtin; refine wp_app1 _ rfl _ _ rfl w.heap.size i0 Try.underlying22 hi hz0 hz1 hz2 _ _ rfl hI (-x) rfl hl (by omega) ?_)
      intro v' w1 hI1 hG hB1
      go_wp2
      go_roundw
      case rel => exact ⟨j + 1, by omega, by go_num, by rw [HS.out]; exact hI1, hB.trans hB1⟩
      case measure => simp [intOf]; omega
    · obtain rfl : j = xs.length := by omega
      rw [Nat.sub_self, List.drop_zero] at hI
      have hneg : ¬ ((0 : Int) ≤ (xs.length : Int) - 1 - xs.length) := by omega
      go_wp2
      go_ret
      exact ⟨_, rfl, hI, hB⟩
--== codes
def codeOf (k : Int) (ws : List (List Int)) : Int := if inB k 0 6 then (if ws.all (wordB k) then 0 else 1) else 2
theorem codeOf_out {k : Int} (ws : List (List Int)) (h : inB k 0 6 = false) : codeOf k ws = 2 := by simp [codeOf, h]
theorem codeOf_in {k : Int} (ws : List (List Int)) (h : inB k 0 6 = true) : codeOf k ws = if ws.all (wordB k) then 0 else 1 := by simp [codeOf, h]
theorem wordB_nil (k : Int) : wordB k [] = true := by simp [wordB]
theorem codeOf_nil (k : Int) (xs : List Int) : codeOf k [xs, []] = codeOf k [xs] := by simp [codeOf, wordB_nil]
theorem codeOf_zero {k : Int} {ws : List (List Int)} (h : codeOf k ws = 0) : (0 ≤ k ∧ k ≤ 6) ∧ ∀ x ∈ ws, wordB k x = true := by
  unfold codeOf at h
  split at h
  · rename_i hk
    refine ⟨inB_true.1 hk, ?_⟩
    split at h
    · rename_i ha; exact List.all_eq_true.1 ha
    · simp at h
  · simp at h
theorem wordB_small {k : Int} {xs : List Int} (hk : k ≤ 6) (h : wordB k xs = true) : Small xs ∧ xs.length ≤ 64 := by
  simp only [wordB, Bool.and_eq_true, decide_eq_true_eq, List.all_eq_true] at h
  refine ⟨fun x hx => ?_, h.2⟩
  have := h.1 x hx
  simp only [letB, Bool.and_eq_true] at this
  have := inB_true.1 this.2
  omega
--== impl.wordCode
set_option maxHeartbeats 1000000 in
theorem i_wordCode (k : Int) (v : Value) (ws : List (List Int)) (w : World) (hv : Rd2 w v ws) :
    Calls Try.prog 72 #[.int .i64 k, v] w fun e w' => e = .returned (.int .i64 (codeOf k ws)) ∧ w = w' := by
  obtain ⟨ao, cap, rfl, hc1, hc2, hA⟩ := hv.open
  by_cases hk : inB k 0 6 = true
  · have HC := Lib.hid (codeOf_in ws hk)
    obtain ⟨hk0, hk1⟩ := inB_true.1 hk
    go_enter Try.func72, Try.ntmps72
    go_wp2_with (go_at_call 111; refine (i_gensFit _ _).mono ?_; rintro e w' ⟨rfl, rfl⟩)
    go_loop [12] (fun i => ∃ j : Nat, j ≤ ws.length ∧ i = .int .i64 j ∧ ∀ t, t < j → wordB k (ws.getD t []) = true) (fun i => ws.length - (intOf i).toNat)
    case atStart => exact ⟨0, Nat.zero_le _, rfl, fun t ht => by omega⟩
    case round =>
      obtain ⟨j, hj, rfl, hall⟩ := hrel
      have HA := Lib.hid hall
      clear hall
      by_cases hlt : j < ws.length
      · rcases hA with hA | ⟨b, off, rfl, hA⟩
        · omega
        obtain ⟨r, hcell, hr⟩ := hA j hlt
        clear hA
        by_cases hw : wordB k (ws.getD j []) = true
        · have HX : Hid (∀ t, t < j + 1 → wordB k (ws.getD t []) = true) := fun t ht => by
            by_cases h : t < j
            · exact HA.out t h
            · obtain rfl : t = j := by omega
              exact hw
          clear HA
          generalize ws.getD j [] = x at hw hr
          go_wp2_with (go_at_call 112; refine (i_wordFits _ _ x _ (by omega) (by omega) hr).mono ?_; rintro e w' ⟨rfl, rfl⟩)
          go_round
          case rel => exact ⟨j + 1, by omega, by go_num, HX.out⟩
          case measure => simp [intOf]; omega
        · have hw' : wordB k (ws.getD j []) = false := by simpa using hw
          have HW := Lib.hid (show (if ws.all (wordB k) then (0 : Int) else 1) = 1 from if_neg (by
            intro h
            exact hw (List.all_eq_true.1 h _ (by simp [List.getD, hlt]))))
          clear hw HA
          generalize ws.getD j [] = x at hw' hr
          go_wp2_with (go_at_call 112; refine (i_wordFits _ _ x _ (by omega) (by omega) hr).mono ?_; rintro e w' ⟨rfl, rfl⟩)
          go_ret
          exact ⟨ret_int (by rw [HC.out, HW.out]), rfl⟩
      · obtain rfl : j = ws.length := by omega
        have HW := Lib.hid (show (if ws.all (wordB k) then (0 : Int) else 1) = 0 from if_pos (List.all_eq_true.2 fun x hx => by
          obtain ⟨t, ht, rfl⟩ := List.mem_iff_getElem.1 hx
          have := HA.out t ht
          simpa [List.getD, ht] using this))
        go_wp2
        go_ret
        exact ⟨ret_int (by rw [HC.out, HW.out]), rfl⟩
  · have hk' : inB k 0 6 = false := by simpa using hk
    have HC := Lib.hid (codeOf_out ws hk')
    clear hk
    go_enter Try.func72, Try.ntmps72
    go_wp2_with (go_at_call 111; refine (i_gensFit _ _).mono ?_; rintro e w' ⟨rfl, rfl⟩)
    go_ret
    exact ⟨ret_int HC.out.symm, rfl⟩
--== spec.l06Code
set_option maxHeartbeats 1000000 in
theorem s_l06Code (k : Int) (va vb : Value) (xs ys : List Int) (w : World) (ha : Rd w va xs) (hb : Rd w vb ys) :
    Calls Try.prog 67 #[.int .i64 k, va, vb] w fun e w' => e = .returned (.int .i64 (codeOf k [xs, ys])) ∧ w = w' := by
  by_cases hk : inB k 0 6 = true
  · obtain ⟨hk0, hk1⟩ := inB_true.1 hk
    by_cases h1 : wordB k xs = true
    · by_cases h2 : wordB k ys = true
      · go_enter Try.func67, Try.ntmps67
        go_wp2_with (first | (go_at_call 68; refine (s_l01In _ _ _ _).mono ?_; rintro e w' ⟨rfl, rfl⟩))
        refine (s_l06Word _ _ xs _ (by omega) (by omega) ha).mono ?_; rintro e w' ⟨rfl, rfl⟩
        go_wp2_with fail
        refine (s_l06Word _ _ ys _ (by omega) (by omega) hb).mono ?_; rintro e w' ⟨rfl, rfl⟩
        go_wp2_with fail
        go_ret
        exact ⟨ret_int (by simp [codeOf, hk, h1, h2]), rfl⟩
      · have h2' : wordB k ys = false := by simpa using h2
        clear h2
        go_enter Try.func67, Try.ntmps67
        go_wp2_with (first | (go_at_call 68; refine (s_l01In _ _ _ _).mono ?_; rintro e w' ⟨rfl, rfl⟩))
        refine (s_l06Word _ _ xs _ (by omega) (by omega) ha).mono ?_; rintro e w' ⟨rfl, rfl⟩
        go_wp2_with fail
        refine (s_l06Word _ _ ys _ (by omega) (by omega) hb).mono ?_; rintro e w' ⟨rfl, rfl⟩
        go_wp2_with fail
        go_ret
        exact ⟨ret_int (by simp [codeOf, hk, h1, h2']), rfl⟩
    · have h1' : wordB k xs = false := by simpa using h1
      clear h1
      go_enter Try.func67, Try.ntmps67
      go_wp2_with (first | (go_at_call 68; refine (s_l01In _ _ _ _).mono ?_; rintro e w' ⟨rfl, rfl⟩))
      refine (s_l06Word _ _ xs _ (by omega) (by omega) ha).mono ?_; rintro e w' ⟨rfl, rfl⟩
      go_wp2_with fail
      go_ret
      exact ⟨ret_int (by simp [codeOf, hk, h1']), rfl⟩
  · have hk' : inB k 0 6 = false := by simpa using hk
    clear hk
    go_enter Try.func67, Try.ntmps67
    go_wp2_with (first | (go_at_call 68; refine (s_l01In _ _ _ _).mono ?_; rintro e w' ⟨rfl, rfl⟩))
    go_ret
    exact ⟨ret_int (by simp [codeOf, hk']), rfl⟩
--== short
def shortW (xs : List Int) : List Int := if xs.length ≤ 64 then xs else []
def codeS (xs : List Int) : Int := if xs.length ≤ 64 then 0 else 3
theorem codeS_in {xs : List Int} (h : xs.length ≤ 64) : codeS xs = 0 ∧ shortW xs = xs := by simp [codeS, shortW, h]
theorem codeS_out {xs : List Int} (h : ¬ xs.length ≤ 64) : codeS xs = 3 ∧ shortW xs = [] := by simp [codeS, shortW, h]
--== impl.shortWord
theorem i_shortWord (B : Nat) (v : Value) (xs : List Int) (w : World) (hv : Ints w B v xs) :
    Calls Try.prog 75 #[v] w fun e w' => (∃ v', e = .returned (.tuple #[v', .int .i64 (codeS xs)]) ∧ Ints w B v' (shortW xs)) ∧ w = w' := by
  obtain ⟨ao, cap, rfl, _, _⟩ := hv.form
  by_cases h : xs.length ≤ 64
  · have HC := Lib.hid (codeS_in h)
    go_enter Try.func75, Try.ntmps75
    go_wp2
    go_ret2
    exact ⟨⟨_, ret_tup HC.out.1.symm, by rw [HC.out.2]; exact hv⟩, rfl⟩
  · have HC := Lib.hid (codeS_out h)
    go_enter Try.func75, Try.ntmps75
    go_wp2
    go_ret2
    exact ⟨⟨_, ret_tup HC.out.1.symm, by rw [HC.out.2]; exact Ints.nil _ _⟩, rfl⟩
--== spec.l06Result
theorem s_l06Result (v : Value) (xs : List Int) (w : World) (hv : Rd w v xs) (hs : xs.length ≤ 100000000) (hsm : Small xs) :
    Calls Try.prog 71 #[v] w (RetInts2 w (shortW (redW xs)) (codeS (redW xs))) := by
  go_enter Try.func71, Try.ntmps71
  go_wp2_with fail
  refine (s_l06Reduce _ xs _ hv hs hsm).mono ?_
  rintro e w1 ⟨v1, rfl, hI, hB⟩
  obtain ⟨ao, cap, rfl, _, _⟩ := hI.form
  by_cases h : (redW xs).length ≤ 64
  · have HC := Lib.hid (codeS_in h)
    go_wp2_with fail
    go_ret2
    exact ⟨_, ret_tup HC.out.1.symm, by rw [HC.out.2]; exact hI, hB⟩
  · have HC := Lib.hid (codeS_out h)
    go_wp2_with fail
    go_ret2
    exact ⟨_, ret_tup HC.out.1.symm, by rw [HC.out.2]; exact Ints.nil _ _, hB⟩

--== plain (WordsD)
def okW (c : Int) (r : List Int) : List Int := if c = 0 then r else []
theorem okW_zero {c : Int} {r : List Int} (h : c = 0) : okW c r = r := if_pos h
theorem okW_ne {c : Int} {r : List Int} (h : ¬ c = 0) : okW c r = [] := if_neg h
theorem below_allocd {w w' : World} {o : Obj} (h : Below (w.alloc o).heap.size (w.alloc o) w') : Below w.heap.size w w' := (below_alloc w o).trans (h.mono (by simp))
theorem Ints.allocd {w w' : World} {o : Obj} {v : Value} {xs : List Int} (h : Ints w' (w.alloc o).heap.size v xs) : Ints w' w.heap.size v xs := h.mono (by simp)
theorem wf_len {xs : List Int} (h : xs.length ≤ 64) : xs.length ≤ 100000000 := by omega

theorem okW_len {k : Int} {xs r : List Int} (h : r.length ≤ xs.length) : (okW (codeOf k [xs]) r).length ≤ 1000000000 := by
  by_cases hc : codeOf k [xs] = 0
  · obtain ⟨⟨_, h6⟩, hw⟩ := codeOf_zero hc
    have := (wordB_small h6 (hw xs (by simp))).2
    rw [okW_zero hc]; omega
  · rw [okW_ne hc]; simp
theorem len_ReduceWord (k : Int) (xs : List Int) : (okW (codeOf k [xs]) (redW xs)).length ≤ 1000000000 := okW_len (redW_length xs)
theorem len_InvertWord (k : Int) (xs : List Int) : (okW (codeOf k [xs]) (invW xs)).length ≤ 1000000000 := okW_len (Nat.le_of_eq (invW_length xs))

--== impl.InvertWord
set_option maxHeartbeats 1000000 in
theorem i_InvertWord (k : Int) (v : Value) (xs : List Int) (w : World) (hv : Rd w v xs) :
    Calls Try.prog 54 #[.int .i64 k, v] w (RetInts2 w (okW (codeOf k [xs]) (invW xs)) (codeOf k [xs])) := by
  obtain ⟨ao, cap, rfl, _, _⟩ := hv.form
  have hl := Rd2.lit1 22 _ xs hv
  by_cases hc : codeOf k [xs] = 0
  · obtain ⟨⟨h0, h6⟩, hw⟩ := codeOf_zero hc
    obtain ⟨hsm, h64⟩ := wordB_small h6 (hw xs (by simp))
    have HC := Lib.hid hc
    clear hc hw
    go_enter Try.func54, Try.ntmps54
    go_wp2_with fail
    refine (i_wordCode _ _ _ _ hl).mono ?_
    rintro e w' ⟨rfl, rfl⟩
    rw [HC.out]
    go_wp2_with fail
    refine (i_invertWord _ xs _ (hv.below (below_alloc _ _)) (wf_len h64) hsm).mono ?_
    rintro e w2 ⟨v2, rfl, hI, hB⟩
    go_wp2_with fail
    go_ret2
    exact ⟨_, ret_tup HC.out.symm, by rw [okW_zero HC.out]; exact hI.allocd, below_allocd hB⟩
  · have hc1 : (codeOf k [xs] != 0) = true := by simpa using hc
    have HC := Lib.hid hc
    clear hc
    go_enter Try.func54, Try.ntmps54
    go_wp2_with fail
    refine (i_wordCode _ _ _ _ hl).mono ?_
    rintro e w' ⟨rfl, rfl⟩
    go_wp2_with fail
    go_ret2
    exact ⟨_, rfl, by rw [okW_ne HC.out]; exact Ints.nil _ _, below_alloc _ _⟩
--== slices.Equal
set_option maxHeartbeats 400000 in
theorem f_Equal (va vb : Value) (xs ys : List Int) (w : World) (ha : Rd w va xs) (hb : Rd w vb ys) :
    Calls Try.prog 116 #[va, vb] w (RetQuiet w (.bool (decide (xs = ys)))) := by
  obtain ⟨ao, cap, rfl, ha1, ha2, _, hA⟩ := ha
  obtain ⟨bo, cap', rfl, hb1, hb2, _, hB⟩ := hb
  by_cases hl : xs.length = ys.length
  · have HL := Lib.hid hl
    have hl1 : ((xs.length : Int) != ys.length) = false := by simp [hl]
    have hl2 : xs.length ≤ ys.length := by omega
    have hl3 : ys.length ≤ xs.length := by omega
    clear hl
    go_enter Try.func116, Try.ntmps116
    go_wp2
    go_loopw [5, 13] (fun _ i wr => ∃ k : Nat, k ≤ xs.length ∧ i = .int .i64 k ∧ (∀ j, j < k → xs.getD j 0 = ys.getD j 0) ∧ ∃ n, wr = w.drewN n) (fun _ i _ => xs.length - (intOf i).toNat)
    case atStart => exact ⟨0, Nat.zero_le _, rfl, fun j h => by omega, 0, rfl⟩
    case round =>
      obtain ⟨k, hk, rfl, hpre, n, rfl⟩ := hrel
      have HP := Lib.hid hpre
      clear hpre
      by_cases hlt : k < xs.length
      · rcases hA with hA | ⟨b, off, rfl, hA⟩
        · omega
        rcases hB with hB | ⟨b', off', rfl, hB⟩
        · omega
        have hA' := hA k hlt
        have hB' := hB k (by omega)
        clear hA hB
        by_cases hab : xs.getD k 0 = ys.getD k 0
        · have HAB := Lib.hid hab
          rw [← hab] at hB'
          clear hab
          have HX : Hid (∀ j, j < k + 1 → xs.getD j 0 = ys.getD j 0) := fun j hj => by
            by_cases h : j < k
            · exact HP.out j h
            · obtain rfl : j = k := by omega
              exact HAB.out
          clear HP HAB
          generalize xs.getD k 0 = x at hA' hB'
          go_wp2
          go_quiet (fail)
          go_wp2
          go_roundw
          case rel => exact ⟨k + 1, by omega, by go_num, HX.out, by first | exact ⟨_, rfl⟩ | exact drewN_drewN _ _ _⟩
          case measure => simp [intOf]; omega
        · have HAB := Lib.hid hab
          have hab1 : (xs.getD k 0 != ys.getD k 0) = true := by simpa using hab
          clear hab HP
          have HX : Hid (decide (xs = ys) = false) := decide_eq_false fun e => HAB.out (by rw [e])
          clear HAB
          generalize xs.getD k 0 = x at hA' hab1
          generalize ys.getD k 0 = y at hB' hab1
          go_wp2
          go_quiet (fail)
          go_wp2
          go_ret
          exact ⟨ret_bool HX.out.symm, by first | exact ⟨_, rfl⟩ | exact drewN_drewN _ _ _⟩
      · go_wp2
        go_ret
        exact ⟨ret_bool (decide_eq_true (all_eq HL.out fun j hj => HP.out j (by omega))).symm, n, rfl⟩
  · have HL := Lib.hid hl
    have hl1 : ((xs.length : Int) != ys.length) = true := by simp; omega
    clear hl
    go_enter Try.func116, Try.ntmps116
    go_wp2
    go_ret
    exact ⟨ret_bool (decide_eq_false fun e => HL.out (by rw [e])).symm, 0, rfl⟩
--== IsReducedWord
def isRedB (k : Int) (w : List Int) : Bool := isWordB k w && decide (redW w = w)
theorem redW_fix (xs : List Int) : redW xs = xs ↔ (redW xs).length = xs.length := by
  constructor
  · intro h; rw [h]
  · intro h
    -- a fold that never gets shorter only ever appends
    suffices g : ∀ (ys out : List Int), (ys.foldl redStep out).length = out.length + ys.length → ys.foldl redStep out = out ++ ys by
      simpa [redW] using g xs [] (by simpa [redW] using h)
    intro ys
    induction ys with
    | nil => intro out _; simp
    | cons y ys ih =>
      intro out ho
      have hle : ∀ (zs o : List Int), (zs.foldl redStep o).length ≤ o.length + zs.length := by
        intro zs
        induction zs with
        | nil => simp
        | cons z zs ih => intro o; have := ih (redStep o z); have := redStep_length o z; simp only [List.foldl_cons, List.length_cons]; omega
      simp only [List.foldl_cons, List.length_cons] at ho ⊢
      have h1 := hle ys (redStep out y)
      have h2 := redStep_length out y
      have h3 : redStep out y = out ++ [y] := by
        unfold redStep
        split
        · rename_i hq
          exfalso
          have : (redStep out y).length ≤ out.length := by unfold redStep; rw [if_pos hq]; simp
          omega
        · rfl
      rw [h3] at ho h1 ⊢
      rw [ih (out ++ [y]) (by simp at ho ⊢; omega)]
      simp
theorem isRedB_no {k : Int} {w : List Int} (h : isWordB k w = false) : isRedB k w = false := by simp [isRedB, h]
theorem isWordB_in {k : Int} {w : List Int} (h : isWordB k w = true) : (0 ≤ k ∧ k ≤ 6) ∧ wordB k w = true ∧ Small w ∧ w.length ≤ 64 := by
  simp only [isWordB, Bool.and_eq_true] at h
  have hk := inB_true.1 h.1
  exact ⟨hk, h.2, wordB_small hk.2 h.2⟩
--== impl.IsReducedWord
set_option maxHeartbeats 1000000 in
theorem i_IsReducedWord (k : Int) (v : Value) (xs : List Int) (w : World) (hv : Rd w v xs) :
    Calls Try.prog 55 #[.int .i64 k, v] w (RetV w (.bool (isRedB k xs))) := by
  by_cases hk : inB k 0 6 = true
  · obtain ⟨h0, h1⟩ := inB_true.1 hk
    by_cases hw : wordB k xs = true
    · obtain ⟨hsm, h64⟩ := wordB_small h1 hw
      go_enter Try.func55, Try.ntmps55
      go_wp2_with (first | (go_at_call 111; refine (i_gensFit _ _).mono ?_; rintro e w' ⟨rfl, rfl⟩) | (go_at_call 112; refine (i_wordFits _ _ xs _ (by omega) (by omega) hv).mono ?_; rintro e w' ⟨rfl, rfl⟩))
      refine (i_reduceWord _ xs _ hv (wf_len h64) hsm).mono ?_
      rintro e w2 ⟨v2, rfl, hI, hB⟩
      go_wp2_with fail
      refine (f_Equal _ _ _ _ _ hI.rd (hv.below hB)).mono ?_
      rintro e w3 hq
      obtain ⟨rfl, hB2⟩ := hq.below
      go_wp2_with fail
      go_ret
      exact ⟨ret_bool (by simp [isRedB, isWordB, hk, hw]), below_size hB hB2⟩
    · have hw' : wordB k xs = false := by simpa using hw
      clear hw
      go_enter Try.func55, Try.ntmps55
      go_wp2_with (first | (go_at_call 111; refine (i_gensFit _ _).mono ?_; rintro e w' ⟨rfl, rfl⟩) | (go_at_call 112; refine (i_wordFits _ _ xs _ (by omega) (by omega) hv).mono ?_; rintro e w' ⟨rfl, rfl⟩))
      go_ret
      exact ⟨ret_bool (by simp [isRedB, isWordB, hw']), Below.refl _ _⟩
  · have hk' : inB k 0 6 = false := by simpa using hk
    clear hk
    go_enter Try.func55, Try.ntmps55
    go_wp2_with (go_at_call 111; refine (i_gensFit _ _).mono ?_; rintro e w' ⟨rfl, rfl⟩)
    go_ret
    exact ⟨ret_bool (by simp [isRedB, isWordB, hk']), Below.refl _ _⟩
--== end
end Go.Proofs.Ythnpndheaailjaa
