/-
  The reference's factors, round by round.
-/
import Derived.Test.YtdgjjdmodbbjhaaAbh
namespace Go.Proofs.Ytdgjjdmodbbjhaa
set_option linter.unusedVariables false
set_option linter.unusedSimpArgs false
set_option maxRecDepth 100000
open Go.RowKit

/-- the factors and whether they are within the limits -/
def RetFrom (w : World) (S : List Nat) (e : Ending) (w' : World) : Prop := ∃ v b fs, e = .returned (.tuple #[v, .bool b]) ∧ Ints w' w.heap.size v (nI fs) ∧ ((okU (colS S) ∧ b = true ∧ fs = (colS S).reverse) ∨ (¬ okU (colS S) ∧ b = false ∧ fs = [])) ∧ Below w.heap.size w w'
theorem lim_int {pr x : Nat} (h1 : 1 ≤ pr) : (1000000 : Int) / (pr : Int) < (x : Int) ↔ 1000000 / pr < x := by
  have e : (1000000 : Int) / (pr : Int) = ((1000000 / pr : Nat) : Int) := (Int.natCast_ediv 1000000 pr).symm
  rw [e]; omega
def lenS : Value → Nat
  | .slice _ n _ => n
  | _ => 0
--== spec.l05From
set_option maxHeartbeats 2000000 in
theorem s_l05From (v : Value) (S : List Nat) (w : World) (hv : Rd w v (nI S)) (hS : ∀ q ∈ S, PPw q) (hn : S.length ≤ 1000000) : Calls Try.prog 22 #[v] w (RetFrom w S) := by
  obtain ⟨i0, hi, hz0, hz1, hz2⟩ := info_parts Try.info2
  have HS := Lib.hid hS
  have HSO := Lib.hid (s_l05Sorted v S w hv hS hn)
  have HFS := Lib.hid (fromF_sorted hS)
  obtain ⟨ao, cap, rfl, _, _⟩ := hv.form
  rw [nI_length] at *
  clear hv hS
  go_enter Try.func22, Try.ntmps22
  go_wp2_with fail
  refine HSO.out.mono ?_
  rintro e w1 ⟨u, rfl, hI, hB1⟩
  have HI := Lib.hid hI
  have HB1 := Lib.hid hB1
  clear hI hB1 HSO
  go_wp2_with fail
  go_loopw [4, 5] (fun u4 u5 wr => ∃ (T acc : List Nat) (k : Nat), Rd wr u4 (nI T) ∧ Ints wr w.heap.size u5 (nI acc) ∧ T.length < k ∧ acc.length + k ≤ S.length + 1 ∧ fromF k T acc = fromF (S.length + 1) (sortP S) [] ∧ (∀ q ∈ T, PPw q) ∧ Below w.heap.size w wr) (fun u4 _ _ => lenS u4)
  case atStart => 
    refine ⟨sortP S, [], S.length + 1, HI.out.rd.below (below_alloc _ _), (Ints.empty w1).mono HB1.out.size, by rw [(sortP_perm S).length_eq]; omega, by simp, rfl, fun q hq => HS.out q ((sortP_perm S).mem_iff.1 hq), below_size HB1.out (below_alloc _ _)⟩
  case round =>
    clear HI HB1
    obtain ⟨T, acc, k, hR, hI, hTk, hak, hF, hTQ, hB⟩ := hrel
    have HF := Lib.hid hF
    have HTQ := Lib.hid hTQ
    have HR := Lib.hid hR
    have HI := Lib.hid hI
    have HB := Lib.hid hB
    obtain ⟨nT, hnT⟩ : ∃ n, T.length = n := ⟨_, rfl⟩
    have HN := Lib.hid hnT
    have sB := hB.size
    rw [hnT] at hTk
    obtain ⟨a4, c4, rfl, _, _⟩ := rd_formN hR (n := nT) (by rw [nI_length, hnT])
    obtain ⟨a5, n5, c5, rfl⟩ : ∃ a n c, u5 = .slice a n c := by obtain ⟨ao, c, e, _⟩ := hI.form; exact ⟨_, _, _, e⟩
    clear hF hTQ hI hB hnT
    by_cases h0 : nT = 0
    · subst h0
      have HE : Hid (T = []) := List.eq_nil_of_length_eq_zero HN.out
      have HO : Hid (okU (colS S) ∧ acc = (colS S).reverse) := by
        have h1 := HF.out
        rw [HE.out, fromF_nil] at h1
        by_cases ho : okU (colS S)
        · rw [HFS.out.1 ho] at h1
          exact ⟨ho, by simpa using h1⟩
        · rw [HFS.out.2 ho] at h1; simp at h1
      go_wp2_with fail
      refine bodyPost_ret (v := .tuple #[_, _]) (by simp [results, Try.results22, go_sem]; exact ⟨rfl, rfl⟩) rfl ?_
      exact ⟨_, true, acc, rfl, HI.out, .inl ⟨HO.out.1, rfl, HO.out.2⟩, HB.out⟩
    · obtain ⟨k, rfl⟩ : ∃ j, k = j + 1 := ⟨k - 1, by omega⟩
      obtain ⟨b4, o4, rfl, _⟩ := hR.at (j := 0) (by rw [nI_length, HN.out]; omega)
      have HTN : Hid (T ≠ []) := fun h => by have := HN.out; rw [h] at this; simp at this; omega
      have hdd : decide (0 < nT) = true := decide_eq_true (by omega)
      clear hR
      go_wp2_with fail
      (try rw [hdd])
      clear hdd
      obtain ⟨wo, hwo⟩ : ∃ x, x = wr := ⟨_, rfl⟩
      subst hwo
      go_loopw [6, 7, 8] (fun u6 u7 u8 wq => ∃ (i pr : Nat) (rs : List Nat), u8 = .int .i64 i ∧ u6 = .int .i64 pr ∧ i ≤ nT ∧ 1 ≤ pr ∧ pr ≤ 1000000 ∧ rs.length ≤ i ∧ (i = nT → rs.length < nT) ∧ (∀ q ∈ rs, PPw q) ∧ rndF (T.drop i) pr rs = rndF T 1 [] ∧ Ints wq wo.heap.size u7 (nI rs) ∧ Below wo.heap.size wo wq) (fun _ _ u8 _ => nT - (intOf u8).toNat)
      case atStart => exact ⟨0, 1, [], rfl, rfl, Nat.zero_le _, Nat.le_refl _, by omega, Nat.le_refl _, fun h => by omega, fun q hq => by simp at hq, rfl, Ints.empty wo, below_alloc wo _⟩
      case round =>
        obtain ⟨i, pr, rs, rfl, rfl, hin, hp1, hp2, hri, hrn, hrq, hrf, hI7, hB7⟩ := hrel
        have HRQ := Lib.hid hrq
        have HRF := Lib.hid hrf
        have HRN := Lib.hid hrn
        have HI7 := Lib.hid hI7
        have HB7 := Lib.hid hB7
        have s7 := hB7.size
        have hrl : (nI rs).length ≤ 1000000 := by rw [nI_length]; omega
        clear hrq hrf hrn hB7
        by_cases hlt : i < nT
        · obtain ⟨_, _, he, hc⟩ := (HR.out.below HB7.out).at (j := i) (by rw [nI_length, HN.out]; exact hlt)
          cases he
          rw [nI_getD] at hc
          have hx := HTQ.out (T.getD i 0) (getD_mem_nat (by rw [HN.out]; exact hlt))
          have hxx : 2 ≤ T.getD i 0 ∧ T.getD i 0 ≤ 1000000 := ⟨hx.two, hx.1⟩
          have HX := Lib.hid hx
          have j1 : (0 : Int) ≤ (i : Int) := by omega
          have j2 : (i : Int) < (nT : Int) := by omega
          -- what is done with the last of a prime
          have HLAST : Hid ((i + 1 < nT → bs (T.getD i 0) ≠ bs (T.getD (i + 1) 0)) → rndF (T.drop i) pr rs = if 1000000 / pr < T.getD i 0 then none else rndF (T.drop (i + 1)) (pr * T.getD i 0) rs) := fun h => rnd_last (by rw [HN.out]; exact hlt) (by rw [HN.out]; exact h)
          by_cases h2 : i + 1 < nT
          · obtain ⟨_, _, he, hc2⟩ := (HR.out.below HB7.out).at (j := i + 1) (by rw [nI_length, HN.out]; exact h2)
            cases he
            rw [nI_getD] at hc2
            have hy := HTQ.out (T.getD (i + 1) 0) (getD_mem_nat (by rw [HN.out]; exact h2))
            have hyy : 2 ≤ T.getD (i + 1) 0 ∧ T.getD (i + 1) 0 ≤ 1000000 := ⟨hy.two, hy.1⟩
            have HY := Lib.hid hy
            have j3 : (0 : Int) ≤ (i : Int) + 1 := by omega
            have j4 : (i : Int) + 1 < (nT : Int) := by omega
            have HSAME : Hid (bs (T.getD i 0) = bs (T.getD (i + 1) 0) → rndF (T.drop i) pr rs = rndF (T.drop (i + 1)) pr (rs ++ [T.getD i 0])) := fun h => rnd_same (by rw [HN.out]; exact h2) h
            have HB1 : Hid (∀ wx, Calls Try.prog 37 #[.int .i64 ((T.getD i 0 : Nat) : Int)] wx fun e w' => e = .returned (.int .i64 ((bs (T.getD i 0) : Nat) : Int)) ∧ w' = wx) := fun wx => (s_l05Base _ HX.out wx).mono fun e w' h => ⟨h.1, h.2.symm⟩
            have HB2 : Hid (∀ wx, Calls Try.prog 37 #[.int .i64 ((T.getD (i + 1) 0 : Nat) : Int)] wx fun e w' => e = .returned (.int .i64 ((bs (T.getD (i + 1) 0) : Nat) : Int)) ∧ w' = wx) := fun wx => (s_l05Base _ HY.out wx).mono fun e w' h => ⟨h.1, h.2.symm⟩
            clear hx hy
            generalize bs (T.getD i 0) = p at *
            generalize bs (T.getD (i + 1) 0) = q at *
            generalize T.getD (i + 1) 0 = y at *
            by_cases hpq : p = q
            · subst hpq
              have HXQ : Hid (∀ q ∈ rs ++ [T.getD i 0], PPw q) := fun q hq => by
                rcases List.mem_append.1 hq with h | h
                · exact HRQ.out q h
                · rw [List.mem_singleton.1 h]; exact HX.out
              have HST : Hid (rndF (T.drop (i + 1)) pr (rs ++ [T.getD i 0]) = rndF T 1 []) := by rw [← HRF.out]; exact (HSAME.out rfl).symm
              clear hI7
              generalize T.getD i 0 = x at *
              go_wp2_with fail
              go_quiet (first | (go_at_call 37; with_reducible refine Calls.quiet_of_same (HB1.out _)) | (go_at_call 37; with_reducible refine Calls.quiet_of_same (HB2.out _)))
              have hI8 : Ints (wr.drewN nq) wo.heap.size u7 (nI rs) := HI7.out.heap rfl
              go_wp2_with (at_builtin; refine wp_app1 _ rfl _ _ rfl wo.heap.size i0 Try.underlying24 hi hz0 hz1 hz2 _ _ rfl hI8 (x : Int) rfl (by omega) (by simp; omega) ?_)
              intro v9 w9 hI9 hG9 hB9
              have hB10 := (bel_drewN HB7.out nq).trans hB9
              clear hI8 hG9 hB9
              go_wp2_with fail
              go_roundw
              case rel => exact ⟨i + 1, pr, rs ++ [x], by go_num, rfl, by omega, hp1, hp2, by simp; omega, fun _ => by simp; omega, HXQ.out, HST.out, by rw [nI_snoc]; exact hI9, hB10⟩
              case measure => simp [intOf]; omega
            · have HPQ := Lib.hid hpq
              have hpq' : decide ((p : Int) = (q : Int)) = false := decide_eq_false (fun h => hpq (by exact_mod_cast h))
              have hpq'' : ((p : Int) == (q : Int)) = false := by rw [beq_eq_false_iff_ne]; exact fun h => hpq (by exact_mod_cast h)
              clear hpq HSAME hI7
              generalize T.getD i 0 = x at *
              have d1 : (1 : Int) ≤ (pr : Int) := by omega
              have d2 : (pr : Int) ≤ 1000000 := by omega
              by_cases hl : 1000000 / pr < x
              · have hl' : (1000000 : Int) / (pr : Int) < (x : Int) := (lim_int hp1).2 hl
                have HO : Hid (¬ okU (colS S)) := fun ho => by
                  have h1 := HF.out
                  have h2 := HLAST.out (fun _ => HPQ.out)
                  rw [if_pos hl, HRF.out] at h2
                  rw [fromF_none HTN.out h2, HFS.out.1 ho] at h1
                  simp at h1
                clear hl
                go_wp2_with fail
                go_quiet (first | (go_at_call 37; with_reducible refine Calls.quiet_of_same (HB1.out _)) | (go_at_call 37; with_reducible refine Calls.quiet_of_same (HB2.out _)))
                clear hc2 hyy j3 j4 h2 HB1 HB2
                go_wp2_with fail
                go_quiet (fail)
                go_wp2_with fail
                refine bodyPost_ret (v := .tuple #[_, _]) (by simp [results, Try.results22, go_sem]; exact ⟨rfl, rfl⟩) rfl ?_
                exact ⟨_, false, [], rfl, Ints.nil _ _, .inr ⟨HO.out, rfl, rfl⟩, by first | exact bel_drewN (HB.out.trans (HB7.out.mono HB.out.size)) _ | exact bel_drewN (bel_drewN (HB.out.trans (HB7.out.mono HB.out.size)) _) _⟩
              · have hl' : ¬ (1000000 : Int) / (pr : Int) < (x : Int) := fun h => hl ((lim_int hp1).1 h)
                have hm : pr * x ≤ 1000000 := by
                  have := (lim_iff (x := x) hp1)
                  omega
                have HNX : Hid (rndF (T.drop (i + 1)) (pr * x) rs = rndF T 1 []) := by
                  have h2 := HLAST.out (fun _ => HPQ.out)
                  rw [if_neg hl, HRF.out] at h2
                  exact h2.symm
                have hm1 : 1 ≤ pr * x := Nat.mul_pos hp1 (by omega)
                have hmi : (pr : Int) * (x : Int) = ((pr * x : Nat) : Int) := (Int.natCast_mul pr x).symm
                have hm2 : (pr : Int) * (x : Int) ≤ 1000000 := by rw [hmi]; exact Int.ofNat_le.2 hm
                have hm3 : 0 ≤ (pr : Int) * (x : Int) := by rw [hmi]; exact Int.natCast_nonneg _
                have HMI := Lib.hid hmi
                have HM := Lib.hid (And.intro hm1 hm)
                clear hl hm hm1 hmi
                go_wp2_with fail
                go_quiet (first | (go_at_call 37; with_reducible refine Calls.quiet_of_same (HB1.out _)) | (go_at_call 37; with_reducible refine Calls.quiet_of_same (HB2.out _)))
                clear hc2 hyy j3 j4 h2 HB1 HB2
                go_wp2_with fail
                go_quiet (fail)
                go_wp2_with fail
                go_roundw
                case rel => exact ⟨i + 1, pr * x, rs, by go_num, by rw [HMI.out], by omega, HM.out.1, HM.out.2, by omega, fun _ => by omega, HRQ.out, HNX.out, HI7.out.heap rfl, bel_drewN HB7.out _⟩
                case measure => simp [intOf]; omega
          · have h2' : decide ((i : Int) + 1 < (nT : Int)) = false := decide_eq_false (by omega)
            clear hx hI7
            generalize T.getD i 0 = x at *
            have d1 : (1 : Int) ≤ (pr : Int) := by omega
            have d2 : (pr : Int) ≤ 1000000 := by omega
            by_cases hl : 1000000 / pr < x
            · have hl' : (1000000 : Int) / (pr : Int) < (x : Int) := (lim_int hp1).2 hl
              have HO : Hid (¬ okU (colS S)) := fun ho => by
                have h1 := HF.out
                have h2 := HLAST.out (fun h => absurd h (by omega))
                rw [if_pos hl, HRF.out] at h2
                rw [fromF_none HTN.out h2, HFS.out.1 ho] at h1
                simp at h1
              clear hl
              go_wp2_with fail
              go_quiet (fail)
              go_wp2_with fail
              go_quiet (fail)
              go_wp2_with fail
              refine bodyPost_ret (v := .tuple #[_, _]) (by simp [results, Try.results22, go_sem]; exact ⟨rfl, rfl⟩) rfl ?_
              exact ⟨_, false, [], rfl, Ints.nil _ _, .inr ⟨HO.out, rfl, rfl⟩, by first | exact bel_drewN (HB.out.trans (HB7.out.mono HB.out.size)) _ | exact bel_drewN (bel_drewN (HB.out.trans (HB7.out.mono HB.out.size)) _) _⟩
            · have hl' : ¬ (1000000 : Int) / (pr : Int) < (x : Int) := fun h => hl ((lim_int hp1).1 h)
              have hm : pr * x ≤ 1000000 := by
                have := (lim_iff (x := x) hp1)
                omega
              have HNX : Hid (rndF (T.drop (i + 1)) (pr * x) rs = rndF T 1 []) := by
                have h2 := HLAST.out (fun h => absurd h (by omega))
                rw [if_neg hl, HRF.out] at h2
                exact h2.symm
              have hm1 : 1 ≤ pr * x := Nat.mul_pos hp1 (by omega)
              have hmi : (pr : Int) * (x : Int) = ((pr * x : Nat) : Int) := (Int.natCast_mul pr x).symm
              have hm2 : (pr : Int) * (x : Int) ≤ 1000000 := by rw [hmi]; exact Int.ofNat_le.2 hm
              have hm3 : 0 ≤ (pr : Int) * (x : Int) := by rw [hmi]; exact Int.natCast_nonneg _
              have HMI := Lib.hid hmi
              have HM := Lib.hid (And.intro hm1 hm)
              clear hl hm hm1 hmi
              go_wp2_with fail
              go_quiet (fail)
              go_wp2_with fail
              go_quiet (fail)
              go_wp2_with fail
              go_roundw
              case rel => exact ⟨i + 1, pr * x, rs, by go_num, by rw [HMI.out], by omega, HM.out.1, HM.out.2, by omega, fun _ => by omega, HRQ.out, HNX.out, HI7.out.heap rfl, bel_drewN HB7.out _⟩
              case measure => simp [intOf]; omega
        · obtain rfl : i = nT := by omega
          have HEND : Hid (rndF T 1 [] = some (pr, rs)) := by
            have h1 := HRF.out
            rw [List.drop_eq_nil_of_le (by rw [HN.out]; omega)] at h1
            exact h1.symm.trans (by rw [rndF])
          have HNF : Hid (fromF k rs (pr :: acc) = fromF (S.length + 1) (sortP S) []) := by
            have h1 := HF.out
            rw [fromF_some HTN.out HEND.out] at h1
            exact h1
          have hrs := HRN.out rfl
          have hal : (nI acc).length ≤ 1000000 := by rw [nI_length]; omega
          obtain ⟨a7, n7, c7, rfl, hn7⟩ : ∃ a n c, u7 = .slice a n c ∧ n = rs.length := by obtain ⟨ao, c, e, _⟩ := hI7.form; exact ⟨_, _, _, e, nI_length rs⟩
          have HN7 := Lib.hid hn7
          have hbx := below_size HB7.out (below_alloc wr (.cells #[.int .i64 (pr : Int)] 2))
          obtain ⟨v8, w8, hr8, hI8, hB8⟩ := run_appI (wr.alloc (.cells #[.int .i64 (pr : Int)] 2)) 24 wr.heap.size _ _ (Ints.litA wr (pr : Int)) (.slice a5 n5 c5) (nI acc) (HI.out.rd.below hbx) (by simp) (by omega) (by simp)
          have HI8 : Hid (Ints w8 w.heap.size v8 (nI (pr :: acc))) := (hI8.mono (Nat.le_trans sB s7))
          have HB8 : Hid (Below wr.heap.size wr w8) := (below_alloc wr _).trans hB8
          clear hI7 hI8 hB8 hbx hn7
          go_wp2_with (at_builtin; refine wp_of_run _ rfl _ _ _ rfl _ _ rfl rfl _ _ hr8 ?_)
          clear hr8
          go_wp2_with fail
          go_roundw
          case rel =>
            have hbb := below_size HB7.out HB8.out
            exact ⟨rs, pr :: acc, k, HI7.out.rd.below HB8.out, HI8.out, by omega, by simp; omega, HNF.out, HRQ.out, HB.out.trans (hbb.mono HB.out.size)⟩
          case measure => simp [lenS]; rw [HN7.out]; exact hrs
end Go.Proofs.Ytdgjjdmodbbjhaa
