/-
  Words: the exported functions; joins.
-/
import Derived.Test.YtjnnjnhmecidmaaWordsC
namespace Go.Proofs.Ytjnnjnhmecidmaa
set_option linter.unusedVariables false
set_option linter.unusedSimpArgs false
set_option maxRecDepth 100000
open Go.RowKit

def okW (c : Int) (r : List Int) : List Int := if c = 0 then r else []
theorem okW_zero {c : Int} {r : List Int} (h : c = 0) : okW c r = r := if_pos h
theorem okW_ne {c : Int} {r : List Int} (h : ¬ c = 0) : okW c r = [] := if_neg h
theorem below_allocd {w w' : World} {o : Obj} (h : Below (w.alloc o).heap.size (w.alloc o) w') : Below w.heap.size w w' := (below_alloc w o).trans (h.mono (by simp))
theorem Ints.allocd {w w' : World} {o : Obj} {v : Value} {xs : List Int} (h : Ints w' (w.alloc o).heap.size v xs) : Ints w' w.heap.size v xs := h.mono (by simp)
theorem wf_len {xs : List Int} (h : xs.length ≤ 64) : xs.length ≤ 100000000 := by omega

theorem okW_len {k : Int} {xs r : List Int} (h : r.length ≤ xs.length) : (okW (codeOf k [xs]) r).length ≤ 1000000000 := by
  by_cases hc : codeOf k [xs] = 0
  · obtain ⟨⟨_, h6⟩, hw⟩ := codeOf_zero hc
    have := (wordB_small h6 (hw xs (by simp))).2
    rw [okW_zero hc]; omega
  · rw [okW_ne hc]; simp
theorem len_ReduceWord (k : Int) (xs : List Int) : (okW (codeOf k [xs]) (redW xs)).length ≤ 1000000000 := okW_len (redW_length xs)
theorem len_InvertWord (k : Int) (xs : List Int) : (okW (codeOf k [xs]) (invW xs)).length ≤ 1000000000 := okW_len (Nat.le_of_eq (invW_length xs))

--== impl.InvertWord
set_option maxHeartbeats 1000000 in
theorem i_InvertWord (k : Int) (v : Value) (xs : List Int) (w : World) (hv : Rd w v xs) :
    Calls Try.prog 60 #[.int .i64 k, v] w (RetInts2 w (okW (codeOf k [xs]) (invW xs)) (codeOf k [xs])) := by
  obtain ⟨ao, cap, rfl, _, _⟩ := hv.form
  have hl := Rd2.lit1 22 _ xs hv
  by_cases hc : codeOf k [xs] = 0
  · obtain ⟨⟨h0, h6⟩, hw⟩ := codeOf_zero hc
    obtain ⟨hsm, h64⟩ := wordB_small h6 (hw xs (by simp))
    have HC := Lib.hid hc
    clear hc hw
    go_enter Try.func60, Try.ntmps60
    go_wp2_with fail
    refine (i_wordCode _ _ _ _ hl).mono ?_
    rintro e w' ⟨rfl, rfl⟩
    rw [HC.out]
    go_wp2_with fail
    refine (i_invertWord _ xs _ (hv.below (below_alloc _ _)) (wf_len h64) hsm).mono ?_
    rintro e w2 ⟨v2, rfl, hI, hB⟩
    go_wp2_with fail
    go_ret2
    exact ⟨_, ret_tup HC.out.symm, by rw [okW_zero HC.out]; exact hI.allocd, below_allocd hB⟩
  · have hc1 : (codeOf k [xs] != 0) = true := by simpa using hc
    have HC := Lib.hid hc
    clear hc
    go_enter Try.func60, Try.ntmps60
    go_wp2_with fail
    refine (i_wordCode _ _ _ _ hl).mono ?_
    rintro e w' ⟨rfl, rfl⟩
    go_wp2_with fail
    go_ret2
    exact ⟨_, rfl, by rw [okW_ne HC.out]; exact Ints.nil _ _, below_alloc _ _⟩
--== slices.Equal
set_option maxHeartbeats 400000 in
theorem f_Equal (va vb : Value) (xs ys : List Int) (w : World) (ha : Rd w va xs) (hb : Rd w vb ys) :
    Calls Try.prog 112 #[va, vb] w (RetQuiet w (.bool (decide (xs = ys)))) := by
  obtain ⟨ao, cap, rfl, ha1, ha2, _, hA⟩ := ha
  obtain ⟨bo, cap', rfl, hb1, hb2, _, hB⟩ := hb
  by_cases hl : xs.length = ys.length
  · have HL := Lib.hid hl
    have hl1 : ((xs.length : Int) != ys.length) = false := by simp [hl]
    have hl2 : xs.length ≤ ys.length := by omega
    have hl3 : ys.length ≤ xs.length := by omega
    clear hl
    go_enter Try.func112, Try.ntmps112
    go_wp2
    go_loopw [5, 13] (fun _ i wr => ∃ k : Nat, k ≤ xs.length ∧ i = .int .i64 k ∧ (∀ j, j < k → xs.getD j 0 = ys.getD j 0) ∧ ∃ n, wr = w.drewN n) (fun _ i _ => xs.length - (intOf i).toNat)
    case atStart => exact ⟨0, Nat.zero_le _, rfl, fun j h => by omega, 0, rfl⟩
    case round =>
      obtain ⟨k, hk, rfl, hpre, n, rfl⟩ := hrel
      have HP := Lib.hid hpre
      clear hpre
      by_cases hlt : k < xs.length
      · rcases hA with hA | ⟨b, off, rfl, hA⟩
        · omega
        rcases hB with hB | ⟨b', off', rfl, hB⟩
        · omega
        have hA' := hA k hlt
        have hB' := hB k (by omega)
        clear hA hB
        by_cases hab : xs.getD k 0 = ys.getD k 0
        · have HAB := Lib.hid hab
          rw [← hab] at hB'
          clear hab
          have HX : Hid (∀ j, j < k + 1 → xs.getD j 0 = ys.getD j 0) := fun j hj => by
            by_cases h : j < k
            · exact HP.out j h
            · obtain rfl : j = k := by omega
              exact HAB.out
          clear HP HAB
          generalize xs.getD k 0 = x at hA' hB'
          go_wp2
          go_quiet (fail)
          go_wp2
          go_roundw
          case rel => exact ⟨k + 1, by omega, by go_num, HX.out, by first | exact ⟨_, rfl⟩ | exact drewN_drewN _ _ _⟩
          case measure => simp [intOf]; omega
        · have HAB := Lib.hid hab
          have hab1 : (xs.getD k 0 != ys.getD k 0) = true := by simpa using hab
          clear hab HP
          have HX : Hid (decide (xs = ys) = false) := decide_eq_false fun e => HAB.out (by rw [e])
          clear HAB
          generalize xs.getD k 0 = x at hA' hab1
          generalize ys.getD k 0 = y at hB' hab1
          go_wp2
          go_quiet (fail)
          go_wp2
          go_ret
          exact ⟨ret_bool HX.out.symm, by first | exact ⟨_, rfl⟩ | exact drewN_drewN _ _ _⟩
      · go_wp2
        go_ret
        exact ⟨ret_bool (decide_eq_true (all_eq HL.out fun j hj => HP.out j (by omega))).symm, n, rfl⟩
  · have HL := Lib.hid hl
    have hl1 : ((xs.length : Int) != ys.length) = true := by simp; omega
    clear hl
    go_enter Try.func112, Try.ntmps112
    go_wp2
    go_ret
    exact ⟨ret_bool (decide_eq_false fun e => HL.out (by rw [e])).symm, 0, rfl⟩
--== IsReducedWord
def isRedB (k : Int) (w : List Int) : Bool := isWordB k w && decide (redW w = w)
theorem redW_fix (xs : List Int) : redW xs = xs ↔ (redW xs).length = xs.length := by
  constructor
  · intro h; rw [h]
  · intro h
    -- a fold that never gets shorter only ever appends
    suffices g : ∀ (ys out : List Int), (ys.foldl redStep out).length = out.length + ys.length → ys.foldl redStep out = out ++ ys by
      simpa [redW] using g xs [] (by simpa [redW] using h)
    intro ys
    induction ys with
    | nil => intro out _; simp
    | cons y ys ih =>
      intro out ho
      have hle : ∀ (zs o : List Int), (zs.foldl redStep o).length ≤ o.length + zs.length := by
        intro zs
        induction zs with
        | nil => simp
        | cons z zs ih => intro o; have := ih (redStep o z); have := redStep_length o z; simp only [List.foldl_cons, List.length_cons]; omega
      simp only [List.foldl_cons, List.length_cons] at ho ⊢
      have h1 := hle ys (redStep out y)
      have h2 := redStep_length out y
      have h3 : redStep out y = out ++ [y] := by
        unfold redStep
        split
        · rename_i hq
          exfalso
          have : (redStep out y).length ≤ out.length := by unfold redStep; rw [if_pos hq]; simp
          omega
        · rfl
      rw [h3] at ho h1 ⊢
      rw [ih (out ++ [y]) (by simp at ho ⊢; omega)]
      simp
theorem isRedB_no {k : Int} {w : List Int} (h : isWordB k w = false) : isRedB k w = false := by simp [isRedB, h]
theorem isWordB_in {k : Int} {w : List Int} (h : isWordB k w = true) : (0 ≤ k ∧ k ≤ 6) ∧ wordB k w = true ∧ Small w ∧ w.length ≤ 64 := by
  simp only [isWordB, Bool.and_eq_true] at h
  have hk := inB_true.1 h.1
  exact ⟨hk, h.2, wordB_small hk.2 h.2⟩
--== impl.IsReducedWord
set_option maxHeartbeats 1000000 in
theorem i_IsReducedWord (k : Int) (v : Value) (xs : List Int) (w : World) (hv : Rd w v xs) :
    Calls Try.prog 61 #[.int .i64 k, v] w (RetV w (.bool (isRedB k xs))) := by
  by_cases hk : inB k 0 6 = true
  · obtain ⟨h0, h1⟩ := inB_true.1 hk
    by_cases hw : wordB k xs = true
    · obtain ⟨hsm, h64⟩ := wordB_small h1 hw
      go_enter Try.func61, Try.ntmps61
      go_wp2_with (first | (go_at_call 120; refine (i_gensFit _ _).mono ?_; rintro e w' ⟨rfl, rfl⟩) | (go_at_call 121; refine (i_wordFits _ _ xs _ (by omega) (by omega) hv).mono ?_; rintro e w' ⟨rfl, rfl⟩))
      refine (i_reduceWord _ xs _ hv (wf_len h64) hsm).mono ?_
      rintro e w2 ⟨v2, rfl, hI, hB⟩
      go_wp2_with fail
      refine (f_Equal _ _ _ _ _ hI.rd (hv.below hB)).mono ?_
      rintro e w3 hq
      obtain ⟨rfl, hB2⟩ := hq.below
      go_wp2_with fail
      go_ret
      exact ⟨ret_bool (by simp [isRedB, isWordB, hk, hw]), below_size hB hB2⟩
    · have hw' : wordB k xs = false := by simpa using hw
      clear hw
      go_enter Try.func61, Try.ntmps61
      go_wp2_with (first | (go_at_call 120; refine (i_gensFit _ _).mono ?_; rintro e w' ⟨rfl, rfl⟩) | (go_at_call 121; refine (i_wordFits _ _ xs _ (by omega) (by omega) hv).mono ?_; rintro e w' ⟨rfl, rfl⟩))
      go_ret
      exact ⟨ret_bool (by simp [isRedB, isWordB, hw']), Below.refl _ _⟩
  · have hk' : inB k 0 6 = false := by simpa using hk
    clear hk
    go_enter Try.func61, Try.ntmps61
    go_wp2_with (go_at_call 120; refine (i_gensFit _ _).mono ?_; rintro e w' ⟨rfl, rfl⟩)
    go_ret
    exact ⟨ret_bool (by simp [isRedB, isWordB, hk']), Below.refl _ _⟩
