/-
  The laws' helpers on lists of lists: copies, marks, comparisons, sizes.
-/
import Derived.Test.YtjnnjnhmecidmaaNest
namespace Go.Proofs.Ytjnnjnhmecidmaa
set_option linter.unusedVariables false
set_option linter.unusedSimpArgs false
set_option maxRecDepth 100000
open Go.RowKit

/-- what a call returns that makes a list of lists -/
def RetO {α : Type} (O : World → (Nat → Prop) → Value → List α → Prop) (w : World) (d : List α) (e : Ending) (w' : World) : Prop := ∃ v, e = .returned v ∧ O w' (win w.heap.size w'.heap.size) v d ∧ Below w.heap.size w w'
theorem Ints.o1 {w : World} {B : Nat} {v : Value} {xs : List Int} (h : Ints w B v xs) : O1 w (win B w.heap.size) v xs := ⟨h.mono (Nat.zero_le _), fun g hg => h.lt g hg⟩

--== a row that is filled by index
def fillR {α : Type} (ds : List (List α)) (j : Nat) : List (List α) := ds.take j ++ List.replicate (ds.length - j) []
theorem fillR_length {α : Type} (ds : List (List α)) (j : Nat) (h : j ≤ ds.length) : (fillR ds j).length = ds.length := by simp [fillR]; omega
theorem fillR_zero {α : Type} (ds : List (List α)) : fillR ds 0 = List.replicate ds.length [] := by simp [fillR]
theorem fillR_all {α : Type} (ds : List (List α)) : fillR ds ds.length = ds := by simp [fillR]
theorem fillR_set {α : Type} (ds : List (List α)) (j : Nat) (h : j < ds.length) : (fillR ds j).set j (ds.getD j []) = fillR ds (j + 1) := by
  unfold fillR
  rw [take_snoc ds j [] h, List.set_append_right _ _ (by simp; omega)]
  have : ds.length - j = (ds.length - (j + 1)) + 1 := by omega
  rw [this, List.replicate_succ]
  simp [List.length_take, Nat.min_eq_left (Nat.le_of_lt h)]
theorem len_le_cat (xss : List (List Int)) (j : Nat) (h : j < xss.length) : (xss.getD j []).length ≤ (cat xss).length := by
  have h1 := flat_le xss (j + 1)
  rw [flat_succ xss j h, List.length_append] at h1
  omega

--== laws.toInt64SS
set_option maxHeartbeats 2000000 in
theorem l_toInt64SS (v : Value) (xss : List (List Int)) (w : World) (hv : Rd2 w v xss) (hs : xss.length ≤ 1000000000) (hc : (cat xss).length ≤ 1000000000) :
    Calls Try.prog 23 #[v] w (RetO O2 w xss) := by
  obtain ⟨i0, hi, hz0, hz1, hz2⟩ := info_parts Try.infoRow
  obtain ⟨ao, cap, rfl, _, _, hA⟩ := hv.open
  go_enter Try.func23, Try.ntmps23
  go_wp2_with (at_make; refine wp_mkO local_O1 _ rfl _ _ 23 rfl i0 Try.underlying23 hi hz0 hz1 hz2 _ _ _ _ xss.length rfl rfl rfl rfl (by omega) ?_)
  intro w1 hI0 hB0 hgt
  have hI0' : O2 w1 (win w.heap.size w1.heap.size) (.slice (some ⟨w.heap.size, 0, none⟩) xss.length xss.length) (fillR xss 0) := by rw [fillR_zero]; exact hI0
  clear hI0
  go_wp2_with fail
  go_loopw [4] (fun i wr => ∃ j : Nat, j ≤ xss.length ∧ i = .int .i64 j ∧ O2 wr (win w.heap.size wr.heap.size) (.slice (some ⟨w.heap.size, 0, none⟩) xss.length xss.length) (fillR xss j) ∧ Below w.heap.size w wr) (fun i _ => xss.length - (intOf i).toNat)
  case atStart => exact ⟨0, Nat.zero_le _, rfl, hI0', hB0⟩
  case round =>
    clear hI0' hB0 hgt
    obtain ⟨j, hj, rfl, hI, hB⟩ := hrel
    have hS := hB.size
    by_cases hlt : j < xss.length
    · rcases hA with hA | ⟨b, off, rfl, hA⟩
      · omega
      obtain ⟨r, hc0, hr⟩ := hA j hlt
      have hcell : wr.cell? ⟨b, off + j, none⟩ = some r := (hB.cell (World.block_lt_of_cell? w _ hc0)).trans hc0
      have hr' := hr.below hB
      have hlen := len_le_cat xss j hlt
      have HF := Lib.hid (fillR_set xss j hlt)
      have HL := Lib.hid (fillR_length xss j hj)
      clear hA hc0 hr
      generalize xss.getD j [] = x at *
      go_wp2_with fail
      refine (l_toInt64S _ x _ hr' (by omega)).mono ?_
      rintro e w2 ⟨v2, rfl, hI2, hB2⟩
      have hI' := local_O2.below hI hB2
      have ho2 := hI2.o1
      have hS2 := hB2.size
      obtain ⟨ao', cap', he, _, _, hopen⟩ := ON.open hI'
      obtain ⟨h1, h2⟩ := ON.set local_O1 HL.out.symm hI' (by rw [HL.out]; exact hlt) ho2 (fun k hk hk' => by unfold win at hk hk'; omega)
      rw [HF.out] at h1
      rcases hopen with hopen | ⟨g, rfl, _, _, hopen⟩
      · rw [HL.out] at hopen; omega
      · rw [HL.out] at he
        simp only [Value.slice.injEq, Option.some.injEq, Addr.mk.injEq, and_true, true_and] at he
        obtain ⟨rfl, rfl⟩ := he
        obtain ⟨hfz, r0, hcell0⟩ := hopen j (by rw [HL.out]; exact hlt)
        have hB3 := (hB.trans (hB2.mono hS)).trans (h2.below (Nat.le_refl _) (by omega))
        obtain ⟨ao2, cap2, rfl, _, _⟩ := hI2.form
        have h1' := local_O2.mono h1 (S' := win w.heap.size w2.heap.size) (fun k _ hk => by unfold win at hk ⊢; omega)
        clear hopen hI hI' h2 hI2 ho2 h1
        go_wp2_with fail
        go_roundw
        case rel => exact ⟨j + 1, by omega, by go_num, by simpa [O2] using h1', hB3⟩
        case measure => simp [intOf]; omega
    · obtain rfl : j = xss.length := by omega
      rw [fillR_all] at hI
      go_wp2
      go_ret
      exact ⟨_, rfl, hI, hB⟩
theorem Rd.drewN {w : World} {n : Nat} {v : Value} {xs : List Int} (h : Rd w v xs) : Rd (w.drewN n) v xs := h
theorem Rd2.drewN {w : World} {n : Nat} {v : Value} {xs : List (List Int)} (h : Rd2 w v xs) : Rd2 (w.drewN n) v xs := h
--== laws.eqInt64SS
theorem l_eqInt64S_q (va vb : Value) (xs : List Int) (w : World) (ha : Rd w va xs) (hb : Rd w vb xs) : Calls Try.prog 74 #[va, vb] w (RetQuiet w (.bool true)) :=
  (l_eqInt64S va vb xs xs w ha hb).mono fun _ _ h => by simpa [RetQuiet] using h
set_option maxHeartbeats 2000000 in
theorem l_eqInt64SS_q (va vb : Value) (xss : List (List Int)) (w : World) (ha : Rd2 w va xss) (hb : Rd2 w vb xss) : Calls Try.prog 25 #[va, vb] w (RetQuiet w (.bool true)) := by
  obtain ⟨ao, cap, rfl, _, _, hA⟩ := ha.open
  obtain ⟨bo, cap', rfl, _, _, hB⟩ := hb.open
  go_enter Try.func25, Try.ntmps25
  go_wp2_with fail
  go_loopw [5] (fun i wr => ∃ k : Nat, k ≤ xss.length ∧ i = .int .i64 k ∧ ∃ n, wr = w.drewN n) (fun i _ => xss.length - (intOf i).toNat)
  case atStart => exact ⟨0, Nat.zero_le _, rfl, 0, rfl⟩
  case round =>
    obtain ⟨k, hk, rfl, n, hn⟩ := hrel
    have HN := Lib.hid hn
    clear hn
    by_cases hlt : k < xss.length
    · rcases hA with hA | ⟨b, off, rfl, hA⟩
      · omega
      rcases hB with hB | ⟨b', off', rfl, hB⟩
      · omega
      obtain ⟨r, hc0, hr0⟩ := hA k hlt
      obtain ⟨r', hc0', hr0'⟩ := hB k hlt
      have hcell : wr.cell? ⟨b, off + k, none⟩ = some r := by rw [HN.out]; exact hc0
      have hcell' : wr.cell? ⟨b', off' + k, none⟩ = some r' := by rw [HN.out]; exact hc0'
      have hr : Rd wr r (xss.getD k []) := by rw [HN.out]; exact hr0
      have hr' : Rd wr r' (xss.getD k []) := by rw [HN.out]; exact hr0'
      clear hA hB hc0 hc0' hr0 hr0'
      generalize xss.getD k [] = x at *
      go_wp2_with fail
      go_quiet ((go_at_call 74; exact Calls.quiet_of (l_eqInt64S_q _ _ x _ (Rd.drewN hr) (Rd.drewN hr'))))
      go_wp2_with fail
      go_roundw
      case rel => exact ⟨k + 1, by omega, by go_num, by rw [HN.out]; exact drewN_drewN _ _ _⟩
      case measure => simp [intOf]; omega
    · go_wp2_with fail
      go_ret
      exact ⟨rfl, n, HN.out⟩
theorem l_eqInt64SS_same (va vb : Value) (xss : List (List Int)) (w : World) (ha : Rd2 w va xss) (hb : Rd2 w vb xss) : Calls Try.prog 25 #[va, vb] w (RetV w (.bool true)) :=
  (l_eqInt64SS_q va vb xss w ha hb).mono fun _ _ h => h.below
--== marks of lists of lists
def off2 (xss : List (List Int)) (i : Nat) : Nat := (cat (xss.take i)).length
theorem off2_succ (xss : List (List Int)) (j : Nat) (h : j < xss.length) : off2 xss (j + 1) = off2 xss j + (xss.getD j []).length := by
  unfold off2; rw [flat_succ xss j h, List.length_append]
theorem off2_all (xss : List (List Int)) : off2 xss xss.length = (cat xss).length := by unfold off2; rw [List.take_length]
theorem off2_le (xss : List (List Int)) (j : Nat) : off2 xss j ≤ (cat xss).length := flat_le xss j
/-- the first j rows marked -/
def M2 (k : Int) (xss : List (List Int)) (j : Nat) : List (List Int) := (List.range xss.length).map fun i => if i < j then marks (k + off2 xss i) (xss.getD i []).length else xss.getD i []
theorem M2_length (k : Int) (xss : List (List Int)) (j : Nat) : (M2 k xss j).length = xss.length := by simp [M2]
theorem M2_getD (k : Int) (xss : List (List Int)) (j i : Nat) (h : i < xss.length) : (M2 k xss j).getD i [] = if i < j then marks (k + off2 xss i) (xss.getD i []).length else xss.getD i [] := by
  unfold M2; rw [List.getD_eq_getElem?_getD, List.getElem?_map, List.getElem?_range h]; rfl
theorem ext_get {β : Type} {xs ys : List (List β)} (hl : xs.length = ys.length) (h : ∀ j, j < xs.length → xs.getD j [] = ys.getD j []) : xs = ys := by
  apply List.ext_getElem hl
  intro j h1 h2
  have := h j h1
  simpa [List.getD, h1, h2] using this
theorem M2_zero (k : Int) (xss : List (List Int)) : M2 k xss 0 = xss := by
  refine ext_get (M2_length _ _ _) fun j hj => ?_
  rw [M2_length] at hj
  rw [M2_getD _ _ _ _ hj, if_neg (by omega)]
theorem M2_set (k : Int) (xss : List (List Int)) (j : Nat) (h : j < xss.length) : (M2 k xss j).set j (marks (k + off2 xss j) (xss.getD j []).length) = M2 k xss (j + 1) := by
  refine ext_get (by simp [M2_length]) fun i hi => ?_
  rw [List.length_set, M2_length] at hi
  by_cases e : j = i
  · subst e
    rw [gset_self _ _ _ _ (by rw [M2_length]; exact h), M2_getD _ _ _ _ h, if_pos (by omega)]
  · rw [gset_ne _ _ _ _ _ e, M2_getD _ _ _ _ hi, M2_getD _ _ _ _ hi]
    by_cases h2 : i < j
    · rw [if_pos h2, if_pos (by omega)]
    · rw [if_neg h2, if_neg (by omega)]

/-- marks on an owned list -/
theorem l_markO1 (S : Nat → Prop) (v : Value) (xs : List Int) (k : Int) (w : World) (hv : O1 w S v xs) (hk0 : 0 ≤ k) (hk1 : k ≤ 1000000000000) (hs : xs.length ≤ 1000000000) :
    Calls Try.prog 76 #[v, .int .i64 k] w fun e w' => e = .returned (.int .i64 (k + xs.length)) ∧ O1 w' S v (marks k xs.length) ∧ ChgS S w w' ∧ w'.heap.size = w.heap.size :=
  (l_markInt64S 0 v xs k w hv.1 hk0 hk1 hs).mono fun _ _ ⟨h1, h2, h3, h4⟩ => ⟨h1, ⟨h2, hv.2⟩, ChgS.of_grew h3 hv.2, h4⟩
--== laws.markInt64SS
set_option maxHeartbeats 2000000 in
theorem l_markInt64SS (S : Nat → Prop) (v : Value) (xss : List (List Int)) (k : Int) (w : World) (hv : O2 w S v xss) (hk0 : 0 ≤ k) (hk1 : k ≤ 100000000000) (hs : xss.length ≤ 1000000000) (hc : (cat xss).length ≤ 1000000000) :
    Calls Try.prog 35 #[v, .int .i64 k] w fun e w' => e = .returned (.int .i64 (k + (cat xss).length)) ∧ O2 w' S v (M2 k xss xss.length) ∧ ChgS S w w' ∧ w'.heap.size = w.heap.size := by
  obtain ⟨ao, cap, rfl, _, _, hA⟩ := ON.open hv
  go_enter Try.func35, Try.ntmps35
  go_wp2_with fail
  go_loopw [1, 5] (fun u i wr => ∃ j : Nat, j ≤ xss.length ∧ i = .int .i64 j ∧ u = .int .i64 (k + off2 xss j) ∧ O2 wr S (.slice ao xss.length cap) (M2 k xss j) ∧ ChgS S w wr ∧ wr.heap.size = w.heap.size) (fun _ i _ => xss.length - (intOf i).toNat)
  case atStart => exact ⟨0, Nat.zero_le _, rfl, by simp [off2, cat], by rw [M2_zero]; exact hv, ChgS.refl _ _, rfl⟩
  case round =>
    clear hv
    obtain ⟨j, hj, rfl, rfl, hI, hG, hS⟩ := hrel
    have HS := Lib.hid hS
    clear hS
    have hoff := off2_le xss j
    by_cases hlt : j < xss.length
    · obtain ⟨g, cap', r, T, he, hcell, hr, hTS, hfoc⟩ := ON.focus local_O1 hI j (by rw [M2_length]; exact hlt)
      rw [M2_length] at he
      simp only [Value.slice.injEq, true_and] at he
      obtain ⟨rfl, rfl⟩ := he
      have HM := Lib.hid (M2_set k xss j hlt)
      have HO := Lib.hid (off2_succ xss j hlt)
      have hlen := len_le_cat xss j hlt
      rw [(M2_getD k xss j j hlt).trans (if_neg (Nat.lt_irrefl j))] at hr
      have HF := Lib.hid hfoc
      clear hfoc hA hI
      generalize xss.getD j [] = x at *
      go_wp2_with fail
      refine (l_markO1 T _ x _ _ hr (by omega) (by omega) (by omega)).mono ?_
      rintro e w2 ⟨rfl, h2, hC, hsz⟩
      have h3 := HF.out _ _ hC h2
      rw [HM.out] at h3
      have HS2 := Lib.hid (hsz.trans HS.out)
      have hG2 := hG.trans hC (fun _ h => h) hTS
      clear hsz hC h2 hr
      go_wp2_with fail
      go_roundw
      case rel => exact ⟨j + 1, by omega, by go_num, by rw [HO.out]; go_num, h3, hG2, HS2.out⟩
      case measure => simp [intOf]; omega
    · obtain rfl : j = xss.length := by omega
      rw [off2_all]
      go_wp2_with fail
      go_ret
      exact ⟨rfl, hI, hG, HS.out⟩
--== laws.heldInt64SS
set_option maxHeartbeats 2000000 in
theorem l_heldInt64SS (v : Value) (xss : List (List Int)) (k : Int) (w : World) (hv : Rd2 w v (M2 k xss xss.length)) (hk0 : 0 ≤ k) (hk1 : k ≤ 100000000000) (hc : (cat xss).length ≤ 1000000000) :
    Calls Try.prog 36 #[v, .int .i64 k] w fun e w' => e = .returned (.int .i64 (k + (cat xss).length)) ∧ w = w' := by
  obtain ⟨ao, cap, rfl, hc1, _, hA⟩ := hv.open
  clear hv
  rw [M2_length] at hc1 hA ⊢
  go_enter Try.func36, Try.ntmps36
  go_wp2_with fail
  go_loop [1, 5] (fun u i => ∃ j : Nat, j ≤ xss.length ∧ i = .int .i64 j ∧ u = .int .i64 (k + off2 xss j)) (fun _ i => xss.length - (intOf i).toNat)
  case atStart => exact ⟨0, Nat.zero_le _, rfl, by simp [off2, cat]⟩
  case round =>
    obtain ⟨j, hj, rfl, rfl⟩ := hrel
    have hoff := off2_le xss j
    by_cases hlt : j < xss.length
    · rcases hA with hA | ⟨b, off, rfl, hA⟩
      · omega
      obtain ⟨r, hcell, hr⟩ := hA j hlt
      rw [(M2_getD k xss xss.length j hlt).trans (if_pos hlt)] at hr
      have HO := Lib.hid (off2_succ xss j hlt)
      have hlen := len_le_cat xss j hlt
      clear hA
      generalize xss.getD j [] = x at *
      go_wp2_with fail
      refine (l_heldInt64S _ x.length _ _ hr (by omega) (by omega) (by omega)).mono ?_
      rintro e w2 ⟨rfl, rfl⟩
      go_wp2_with fail
      go_round
      case rel => exact ⟨j + 1, by omega, by go_num, by rw [HO.out]; go_num⟩
      case measure => simp [intOf]; omega
    · obtain rfl : j = xss.length := by omega
      rw [off2_all]
      go_wp2_with fail
      go_ret
      exact ⟨rfl, rfl⟩
--== sizes
def szI (n : Nat) (left : Int) : Int := if (n : Int) ≤ left then left - n else -1
theorem szI_in {n : Nat} {left : Int} (h : (n : Int) ≤ left) : szI n left = left - n := if_pos h
theorem szI_out {n : Nat} {left : Int} (h : ¬ (n : Int) ≤ left) : szI n left = -1 := if_neg h
def size2 (xss : List (List Int)) : Nat := xss.length + (cat xss).length
--== laws.szInt64S
theorem l_szInt64S (v : Value) (xs : List Int) (left : Int) (w : World) (hv : Rd w v xs) (h0 : 0 ≤ left) (h1 : left ≤ 1000000000) :
    Calls Try.prog 66 #[v, .int .i64 left] w fun e w' => e = .returned (.int .i64 (szI xs.length left)) ∧ w = w' := by
  obtain ⟨ao, cap, rfl, _, _⟩ := hv.form
  by_cases h : (xs.length : Int) ≤ left
  · have HS := Lib.hid (szI_in h)
    go_enter Try.func66, Try.ntmps66
    go_wp2_with fail
    go_ret
    exact ⟨ret_int HS.out.symm, rfl⟩
  · have HS := Lib.hid (szI_out h)
    go_enter Try.func66, Try.ntmps66
    go_wp2_with fail
    go_ret
    exact ⟨ret_int HS.out.symm, rfl⟩
--== laws.szInt64SS
set_option maxHeartbeats 2000000 in
theorem l_szInt64SS (v : Value) (xss : List (List Int)) (left : Int) (w : World) (hv : Rd2 w v xss) (h0 : 0 ≤ left) (h1 : left ≤ 1000000000) :
    Calls Try.prog 21 #[v, .int .i64 left] w fun e w' => e = .returned (.int .i64 (szI (size2 xss) left)) ∧ w = w' := by
  obtain ⟨ao, cap, rfl, _, hcap, hA⟩ := hv.open
  by_cases h : (xss.length : Int) ≤ left
  · go_enter Try.func21, Try.ntmps21
    go_wp2_with fail
    go_loop [1, 5] (fun u i => ∃ j : Nat, j ≤ xss.length ∧ i = .int .i64 j ∧ u = .int .i64 (left - xss.length - off2 xss j) ∧ (xss.length : Int) + off2 xss j ≤ left) (fun _ i => xss.length - (intOf i).toNat)
    case atStart => exact ⟨0, Nat.zero_le _, rfl, by simp [off2, cat], by simp [off2, cat]; omega⟩
    case round =>
      obtain ⟨j, hj, rfl, rfl, hle⟩ := hrel
      by_cases hlt : j < xss.length
      · rcases hA with hA | ⟨b, off, rfl, hA⟩
        · omega
        obtain ⟨r, hcell, hr⟩ := hA j hlt
        have HO := Lib.hid (off2_succ xss j hlt)
        have HO1 := Lib.hid (off2_le xss (j + 1))
        clear hA
        generalize xss.getD j [] = x at *
        by_cases hin : (x.length : Int) ≤ left - xss.length - off2 xss j
        · have HS := Lib.hid (szI_in hin)
          have hle2 : Hid ((xss.length : Int) + off2 xss (j + 1) ≤ left) := by show _ ≤ _; rw [HO.out]; omega
          go_wp2_with fail
          refine (l_szInt64S _ x _ _ hr (by omega) (by omega)).mono ?_
          rintro e w2 ⟨rfl, rfl⟩
          rw [HS.out]
          go_wp2_with fail
          go_round
          case rel => exact ⟨j + 1, by omega, by go_num, by rw [HO.out]; go_num, hle2.out⟩
          case measure => simp [intOf]; omega
        · have HS := Lib.hid (szI_out hin)
          have HT : Hid (szI (size2 xss) left = -1) := szI_out (by
            have h1 := HO.out
            have h2 := HO1.out
            unfold size2; omega)
          go_wp2_with fail
          refine (l_szInt64S _ x _ _ hr (by omega) (by omega)).mono ?_
          rintro e w2 ⟨rfl, rfl⟩
          rw [HS.out]
          go_wp2_with fail
          go_ret
          exact ⟨ret_int HT.out.symm, rfl⟩
      · obtain rfl : j = xss.length := by omega
        have HT : Hid (szI (size2 xss) left = left - xss.length - off2 xss xss.length) := by
          show _ = _
          rw [szI_in (by unfold size2; rw [← off2_all]; omega), off2_all]; unfold size2; omega
        go_wp2_with fail
        go_ret
        exact ⟨ret_int HT.out.symm, rfl⟩
  · have HT : Hid (szI (size2 xss) left = -1) := szI_out (by unfold size2; omega)
    go_enter Try.func21, Try.ntmps21
    go_wp2_with fail
    go_ret
    exact ⟨ret_int HT.out.symm, rfl⟩
end Go.Proofs.Ytjnnjnhmecidmaa
