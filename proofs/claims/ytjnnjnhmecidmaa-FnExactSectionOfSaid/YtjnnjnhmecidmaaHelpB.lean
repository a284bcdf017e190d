/-
  The laws' helpers on lists of lists of lists, and on presentations.
-/
import Derived.Test.YtjnnjnhmecidmaaHelp
namespace Go.Proofs.Ytjnnjnhmecidmaa
set_option linter.unusedVariables false
set_option linter.unusedSimpArgs false
set_option maxRecDepth 100000
open Go.RowKit

theorem Rd3.drewN {w : World} {n : Nat} {v : Value} {xs : List (List (List Int))} (h : Rd3 w v xs) : Rd3 (w.drewN n) v xs := h
/-- a sum over a list -/
def tot {β : Type} (f : β → Nat) (l : List β) : Nat := (l.map f).sum
def toff {β : Type} (f : β → Nat) (l : List β) (i : Nat) : Nat := tot f (l.take i)
theorem toff_succ {β : Type} (f : β → Nat) (l : List (List β)) (g : List β → Nat) (j : Nat) (h : j < l.length) : toff g l (j + 1) = toff g l j + g (l.getD j []) := by
  unfold toff tot; rw [take_snoc l j [] h]; simp
theorem toff_all {β : Type} (f : β → Nat) (l : List β) : toff f l l.length = tot f l := by unfold toff; rw [List.take_length]
theorem toff_le {β : Type} (f : β → Nat) (l : List β) (j : Nat) : toff f l j ≤ tot f l := by
  have h : tot f l = tot f (l.take j) + tot f (l.drop j) := by
    unfold tot; rw [← List.sum_append, ← List.map_append, List.take_append_drop]
  unfold toff; omega
theorem tot_elem {β : Type} (g : List β → Nat) (l : List (List β)) (j : Nat) (h : j < l.length) : g (l.getD j []) ≤ tot g l := by
  have h1 := toff_le g l (j + 1)
  rw [toff_succ (fun _ => 0) l g j h] at h1
  omega
theorem toff_zero {β : Type} (f : β → Nat) (l : List β) : toff f l 0 = 0 := by simp [toff, tot]
def lenc (x : List (List Int)) : Nat := (cat x).length
def tot3 (x : List (List (List Int))) : Nat := tot lenc x
def off3 (x : List (List (List Int))) (i : Nat) : Nat := toff lenc x i
theorem off3_succ (x : List (List (List Int))) (j : Nat) (h : j < x.length) : off3 x (j + 1) = off3 x j + lenc (x.getD j []) := toff_succ (fun _ => 0) x lenc j h
theorem off3_all (x : List (List (List Int))) : off3 x x.length = tot3 x := toff_all _ _
theorem off3_le (x : List (List (List Int))) (j : Nat) : off3 x j ≤ tot3 x := toff_le _ _ _
theorem len_le_tot3 (x : List (List (List Int))) (j : Nat) (h : j < x.length) : lenc (x.getD j []) ≤ tot3 x := tot_elem lenc x j h
def tots (x : List (List (List Int))) : Nat := tot List.length x
theorem len_le_tots (x : List (List (List Int))) (j : Nat) (h : j < x.length) : (x.getD j []).length ≤ tots x := tot_elem List.length x j h
def M3 (k : Int) (x : List (List (List Int))) (j : Nat) : List (List (List Int)) := (List.range x.length).map fun i => if i < j then M2 (k + off3 x i) (x.getD i []) (x.getD i []).length else x.getD i []
theorem M3_length (k : Int) (x : List (List (List Int))) (j : Nat) : (M3 k x j).length = x.length := by simp [M3]
theorem M3_getD (k : Int) (x : List (List (List Int))) (j i : Nat) (h : i < x.length) : (M3 k x j).getD i [] = if i < j then M2 (k + off3 x i) (x.getD i []) (x.getD i []).length else x.getD i [] := by
  unfold M3; rw [List.getD_eq_getElem?_getD, List.getElem?_map, List.getElem?_range h]; rfl
theorem M3_zero (k : Int) (x : List (List (List Int))) : M3 k x 0 = x := by
  refine ext_get (M3_length _ _ _) fun j hj => ?_
  rw [M3_length] at hj
  rw [M3_getD _ _ _ _ hj, if_neg (by omega)]
theorem M3_set (k : Int) (x : List (List (List Int))) (j : Nat) (h : j < x.length) : (M3 k x j).set j (M2 (k + off3 x j) (x.getD j []) (x.getD j []).length) = M3 k x (j + 1) := by
  refine ext_get (by simp [M3_length]) fun i hi => ?_
  rw [List.length_set, M3_length] at hi
  by_cases e : j = i
  · subst e
    rw [gset_self _ _ _ _ (by rw [M3_length]; exact h), M3_getD _ _ _ _ h, if_pos (by omega)]
  · rw [gset_ne _ _ _ _ _ e, M3_getD _ _ _ _ hi, M3_getD _ _ _ _ hi]
    by_cases h2 : i < j
    · rw [if_pos h2, if_pos (by omega)]
    · rw [if_neg h2, if_neg (by omega)]
theorem Try.infoRow2 : (Try.prog.info? 23).map (fun i => (i.zero, i.size, i.bytes)) = some (some (.slice none 0 0), 1, 24) := by kernel_rfl
--== laws.toInt64SSS
set_option maxHeartbeats 2000000 in
theorem l_toInt64SSS (v : Value) (xss : List (List (List Int))) (w : World) (hv : Rd3 w v xss) (hs : xss.length ≤ 1000000000) (hc : tot3 xss ≤ 1000000000) (hts : tots xss ≤ 1000000000) :
    Calls Try.prog 71 #[v] w (RetO O3 w xss) := by
  obtain ⟨i0, hi, hz0, hz1, hz2⟩ := info_parts Try.infoRow2
  obtain ⟨ao, cap, rfl, _, _, hA⟩ := hv.open
  go_enter Try.func71, Try.ntmps71
  go_wp2_with (at_make; refine wp_mkO local_O2 _ rfl _ _ 24 rfl i0 Try.underlying24 hi hz0 hz1 hz2 _ _ _ _ xss.length rfl rfl rfl rfl (by omega) ?_)
  intro w1 hI0 hB0 hgt
  have hI0' : O3 w1 (win w.heap.size w1.heap.size) (.slice (some ⟨w.heap.size, 0, none⟩) xss.length xss.length) (fillR xss 0) := by rw [fillR_zero]; exact hI0
  clear hI0
  go_wp2_with fail
  go_loopw [4] (fun i wr => ∃ j : Nat, j ≤ xss.length ∧ i = .int .i64 j ∧ O3 wr (win w.heap.size wr.heap.size) (.slice (some ⟨w.heap.size, 0, none⟩) xss.length xss.length) (fillR xss j) ∧ Below w.heap.size w wr) (fun i _ => xss.length - (intOf i).toNat)
  case atStart => exact ⟨0, Nat.zero_le _, rfl, hI0', hB0⟩
  case round =>
    clear hI0' hB0 hgt
    obtain ⟨j, hj, rfl, hI, hB⟩ := hrel
    have hS := hB.size
    by_cases hlt : j < xss.length
    · rcases hA with hA | ⟨b, off, rfl, hA⟩
      · omega
      obtain ⟨r, hc0, hr⟩ := hA j hlt
      have hcell : wr.cell? ⟨b, off + j, none⟩ = some r := (hB.cell (World.block_lt_of_cell? w _ hc0)).trans hc0
      have hr' := hr.below hB
      have hlen := len_le_tot3 xss j hlt
      have hlens := len_le_tots xss j hlt
      unfold lenc at hlen
      have HF := Lib.hid (fillR_set xss j hlt)
      have HL := Lib.hid (fillR_length xss j hj)
      clear hA hc0 hr
      generalize xss.getD j [] = x at *
      go_wp2_with fail
      refine (l_toInt64SS _ x _ hr' (by omega) (by omega)).mono ?_
      rintro e w2 ⟨v2, rfl, hI2, hB2⟩
      have hI' := local_O3.below hI hB2
      have ho2 := hI2
      have hS2 := hB2.size
      obtain ⟨ao', cap', he, _, _, hopen⟩ := ON.open hI'
      obtain ⟨h1, h2⟩ := ON.set local_O2 HL.out.symm hI' (by rw [HL.out]; exact hlt) ho2 (fun k hk hk' => by unfold win at hk hk'; omega)
      rw [HF.out] at h1
      rcases hopen with hopen | ⟨g, rfl, _, _, hopen⟩
      · rw [HL.out] at hopen; omega
      · rw [HL.out] at he
        simp only [Value.slice.injEq, Option.some.injEq, Addr.mk.injEq, and_true, true_and] at he
        obtain ⟨rfl, rfl⟩ := he
        obtain ⟨hfz, r0, hcell0⟩ := hopen j (by rw [HL.out]; exact hlt)
        have hB3 := (hB.trans (hB2.mono hS)).trans (h2.below (Nat.le_refl _) (by omega))
        obtain ⟨ao2, cap2, rfl, _, _⟩ := hI2.rd.form
        have h1' := local_O3.mono h1 (S' := win w.heap.size w2.heap.size) (fun k _ hk => by unfold win at hk ⊢; omega)
        clear hopen hI hI' h2 hI2 ho2 h1
        go_wp2_with fail
        go_roundw
        case rel => exact ⟨j + 1, by omega, by go_num, by simpa [O3] using h1', hB3⟩
        case measure => simp [intOf]; omega
    · obtain rfl : j = xss.length := by omega
      rw [fillR_all] at hI
      go_wp2
      go_ret
      exact ⟨_, rfl, hI, hB⟩
--== laws.eqInt64SSS
set_option maxHeartbeats 2000000 in
theorem l_eqInt64SSS_q (va vb : Value) (xss : List (List (List Int))) (w : World) (ha : Rd3 w va xss) (hb : Rd3 w vb xss) : Calls Try.prog 75 #[va, vb] w (RetQuiet w (.bool true)) := by
  obtain ⟨ao, cap, rfl, _, _, hA⟩ := ha.open
  obtain ⟨bo, cap', rfl, _, _, hB⟩ := hb.open
  go_enter Try.func75, Try.ntmps75
  go_wp2_with fail
  go_loopw [5] (fun i wr => ∃ k : Nat, k ≤ xss.length ∧ i = .int .i64 k ∧ ∃ n, wr = w.drewN n) (fun i _ => xss.length - (intOf i).toNat)
  case atStart => exact ⟨0, Nat.zero_le _, rfl, 0, rfl⟩
  case round =>
    obtain ⟨k, hk, rfl, n, hn⟩ := hrel
    have HN := Lib.hid hn
    clear hn
    by_cases hlt : k < xss.length
    · rcases hA with hA | ⟨b, off, rfl, hA⟩
      · omega
      rcases hB with hB | ⟨b', off', rfl, hB⟩
      · omega
      obtain ⟨r, hc0, hr0⟩ := hA k hlt
      obtain ⟨r', hc0', hr0'⟩ := hB k hlt
      have hcell : wr.cell? ⟨b, off + k, none⟩ = some r := by rw [HN.out]; exact hc0
      have hcell' : wr.cell? ⟨b', off' + k, none⟩ = some r' := by rw [HN.out]; exact hc0'
      have hr : Rd2 wr r (xss.getD k []) := by rw [HN.out]; exact hr0
      have hr' : Rd2 wr r' (xss.getD k []) := by rw [HN.out]; exact hr0'
      clear hA hB hc0 hc0' hr0 hr0'
      generalize xss.getD k [] = x at *
      go_wp2_with fail
      go_quiet ((go_at_call 25; exact Calls.quiet_of (l_eqInt64SS_q _ _ x _ (Rd2.drewN hr) (Rd2.drewN hr'))))
      go_wp2_with fail
      go_roundw
      case rel => exact ⟨k + 1, by omega, by go_num, by rw [HN.out]; exact drewN_drewN _ _ _⟩
      case measure => simp [intOf]; omega
    · go_wp2_with fail
      go_ret
      exact ⟨rfl, n, HN.out⟩
theorem l_eqInt64SSS_same (va vb : Value) (xss : List (List (List Int))) (w : World) (ha : Rd3 w va xss) (hb : Rd3 w vb xss) : Calls Try.prog 75 #[va, vb] w (RetV w (.bool true)) :=
  (l_eqInt64SSS_q va vb xss w ha hb).mono fun _ _ h => h.below
--== laws.markInt64SSS
set_option maxHeartbeats 2000000 in
theorem l_markInt64SSS (S : Nat → Prop) (v : Value) (xss : List (List (List Int))) (k : Int) (w : World) (hv : O3 w S v xss) (hk0 : 0 ≤ k) (hk1 : k ≤ 10000000000) (hs : xss.length ≤ 1000000000) (hc : tot3 xss ≤ 1000000000) (hts : tots xss ≤ 1000000000) :
    Calls Try.prog 77 #[v, .int .i64 k] w fun e w' => e = .returned (.int .i64 (k + tot3 xss)) ∧ O3 w' S v (M3 k xss xss.length) ∧ ChgS S w w' ∧ w'.heap.size = w.heap.size := by
  obtain ⟨ao, cap, rfl, _, _, hA⟩ := ON.open hv
  go_enter Try.func77, Try.ntmps77
  go_wp2_with fail
  go_loopw [1, 5] (fun u i wr => ∃ j : Nat, j ≤ xss.length ∧ i = .int .i64 j ∧ u = .int .i64 (k + off3 xss j) ∧ O3 wr S (.slice ao xss.length cap) (M3 k xss j) ∧ ChgS S w wr ∧ wr.heap.size = w.heap.size) (fun _ i _ => xss.length - (intOf i).toNat)
  case atStart => exact ⟨0, Nat.zero_le _, rfl, by simp [off3, toff_zero], by rw [M3_zero]; exact hv, ChgS.refl _ _, rfl⟩
  case round =>
    clear hv
    obtain ⟨j, hj, rfl, rfl, hI, hG, hS⟩ := hrel
    have HS := Lib.hid hS
    clear hS
    have hoff := off3_le xss j
    by_cases hlt : j < xss.length
    · obtain ⟨g, cap', r, T, he, hcell, hr, hTS, hfoc⟩ := ON.focus local_O2 hI j (by rw [M3_length]; exact hlt)
      rw [M3_length] at he
      simp only [Value.slice.injEq, true_and] at he
      obtain ⟨rfl, rfl⟩ := he
      have HM := Lib.hid (M3_set k xss j hlt)
      have HO := Lib.hid (off3_succ xss j hlt)
      have hlen := len_le_tot3 xss j hlt
      have hlens := len_le_tots xss j hlt
      unfold lenc at hlen
      rw [(M3_getD k xss j j hlt).trans (if_neg (Nat.lt_irrefl j))] at hr
      have HF := Lib.hid hfoc
      clear hfoc hA hI
      generalize xss.getD j [] = x at *
      go_wp2_with fail
      refine (l_markInt64SS T _ x _ _ hr (by omega) (by omega) (by omega) (by omega)).mono ?_
      rintro e w2 ⟨rfl, h2, hC, hsz⟩
      have h3 := HF.out _ _ hC h2
      rw [HM.out] at h3
      have HS2 := Lib.hid (hsz.trans HS.out)
      have hG2 := hG.trans hC (fun _ h => h) hTS
      clear hsz hC h2 hr
      go_wp2_with fail
      go_roundw
      case rel => exact ⟨j + 1, by omega, by go_num, by rw [HO.out]; unfold lenc; go_num, h3, hG2, HS2.out⟩
      case measure => simp [intOf]; omega
    · obtain rfl : j = xss.length := by omega
      rw [off3_all]
      go_wp2_with fail
      go_ret
      exact ⟨rfl, hI, hG, HS.out⟩
--== laws.heldInt64SSS
set_option maxHeartbeats 2000000 in
theorem l_heldInt64SSS (v : Value) (xss : List (List (List Int))) (k : Int) (w : World) (hv : Rd3 w v (M3 k xss xss.length)) (hk0 : 0 ≤ k) (hk1 : k ≤ 10000000000) (hc : tot3 xss ≤ 1000000000) :
    Calls Try.prog 79 #[v, .int .i64 k] w fun e w' => e = .returned (.int .i64 (k + tot3 xss)) ∧ w = w' := by
  obtain ⟨ao, cap, rfl, hc1, _, hA⟩ := hv.open
  clear hv
  rw [M3_length] at hc1 hA ⊢
  go_enter Try.func79, Try.ntmps79
  go_wp2_with fail
  go_loop [1, 5] (fun u i => ∃ j : Nat, j ≤ xss.length ∧ i = .int .i64 j ∧ u = .int .i64 (k + off3 xss j)) (fun _ i => xss.length - (intOf i).toNat)
  case atStart => exact ⟨0, Nat.zero_le _, rfl, by simp [off3, toff_zero]⟩
  case round =>
    obtain ⟨j, hj, rfl, rfl⟩ := hrel
    have hoff := off3_le xss j
    by_cases hlt : j < xss.length
    · rcases hA with hA | ⟨b, off, rfl, hA⟩
      · omega
      obtain ⟨r, hcell, hr⟩ := hA j hlt
      rw [(M3_getD k xss xss.length j hlt).trans (if_pos hlt)] at hr
      have HO := Lib.hid (off3_succ xss j hlt)
      have hlen := len_le_tot3 xss j hlt
      unfold lenc at hlen
      clear hA
      generalize xss.getD j [] = x at *
      go_wp2_with fail
      refine (l_heldInt64SS _ x _ _ hr (by omega) (by omega) (by omega)).mono ?_
      rintro e w2 ⟨rfl, rfl⟩
      go_wp2_with fail
      go_round
      case rel => exact ⟨j + 1, by omega, by go_num, by rw [HO.out]; unfold lenc; go_num⟩
      case measure => simp [intOf]; omega
    · obtain rfl : j = xss.length := by omega
      rw [off3_all]
      go_wp2_with fail
      go_ret
      exact ⟨rfl, rfl⟩
--== sizes
def size3 (x : List (List (List Int))) : Nat := x.length + tot size2 x
theorem tsize_succ (x : List (List (List Int))) (j : Nat) (h : j < x.length) : toff size2 x (j + 1) = toff size2 x j + size2 (x.getD j []) := toff_succ (fun _ => 0) x size2 j h
--== laws.szInt64SSS
set_option maxHeartbeats 2000000 in
theorem l_szInt64SSS (v : Value) (xss : List (List (List Int))) (left : Int) (w : World) (hv : Rd3 w v xss) (h0 : 0 ≤ left) (h1 : left ≤ 1000000000) :
    Calls Try.prog 67 #[v, .int .i64 left] w fun e w' => e = .returned (.int .i64 (szI (size3 xss) left)) ∧ w = w' := by
  obtain ⟨ao, cap, rfl, _, hcap, hA⟩ := hv.open
  by_cases h : (xss.length : Int) ≤ left
  · go_enter Try.func67, Try.ntmps67
    go_wp2_with fail
    go_loop [1, 5] (fun u i => ∃ j : Nat, j ≤ xss.length ∧ i = .int .i64 j ∧ u = .int .i64 (left - xss.length - toff size2 xss j) ∧ (xss.length : Int) + toff size2 xss j ≤ left) (fun _ i => xss.length - (intOf i).toNat)
    case atStart => exact ⟨0, Nat.zero_le _, rfl, by simp [toff_zero], by simp [toff_zero]; omega⟩
    case round =>
      obtain ⟨j, hj, rfl, rfl, hle⟩ := hrel
      by_cases hlt : j < xss.length
      · rcases hA with hA | ⟨b, off, rfl, hA⟩
        · omega
        obtain ⟨r, hcell, hr⟩ := hA j hlt
        have HO := Lib.hid (tsize_succ xss j hlt)
        have HO1 := Lib.hid (toff_le size2 xss (j + 1))
        clear hA
        generalize xss.getD j [] = x at *
        by_cases hin : (size2 x : Int) ≤ left - xss.length - toff size2 xss j
        · have HS := Lib.hid (szI_in hin)
          have hle2 : Hid ((xss.length : Int) + toff size2 xss (j + 1) ≤ left) := by show _ ≤ _; rw [HO.out]; omega
          go_wp2_with fail
          refine (l_szInt64SS _ x _ _ hr (by omega) (by omega)).mono ?_
          rintro e w2 ⟨rfl, rfl⟩
          rw [HS.out]
          go_wp2_with fail
          go_round
          case rel => exact ⟨j + 1, by omega, by go_num, by rw [HO.out]; go_num, hle2.out⟩
          case measure => simp [intOf]; omega
        · have HS := Lib.hid (szI_out hin)
          have HT : Hid (szI (size3 xss) left = -1) := szI_out (by
            have h1 := HO.out
            have h2 := HO1.out
            unfold size3; omega)
          go_wp2_with fail
          refine (l_szInt64SS _ x _ _ hr (by omega) (by omega)).mono ?_
          rintro e w2 ⟨rfl, rfl⟩
          rw [HS.out]
          go_wp2_with fail
          go_ret
          exact ⟨ret_int HT.out.symm, rfl⟩
      · obtain rfl : j = xss.length := by omega
        have HT : Hid (szI (size3 xss) left = left - xss.length - toff size2 xss xss.length) := by
          show _ = _
          rw [szI_in (by unfold size3; rw [← toff_all]; omega), toff_all]; unfold size3; omega
        go_wp2_with fail
        go_ret
        exact ⟨ret_int HT.out.symm, rfl⟩
  · have HT : Hid (szI (size3 xss) left = -1) := szI_out (by unfold size3; omega)
    go_enter Try.func67, Try.ntmps67
    go_wp2_with fail
    go_ret
    exact ⟨ret_int HT.out.symm, rfl⟩
end Go.Proofs.Ytjnnjnhmecidmaa
