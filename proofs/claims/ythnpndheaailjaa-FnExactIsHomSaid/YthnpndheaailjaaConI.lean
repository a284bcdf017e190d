/-
  The program's consistentFrom, IsConsistent, ConsistentFrom.
-/
import Derived.Test.YthnpndheaailjaaLevI
import Derived.Laws.StructEq
namespace Go.Proofs.Ythnpndheaailjaa
set_option linter.unusedVariables false
set_option linter.unusedSimpArgs false
set_option maxRecDepth 100000
open Go.RowKit

--== impl.consistentFrom
set_option maxHeartbeats 2000000 in
theorem i_consistentFrom {p : Pres} (hV : ValidP p) (vp : Value) (w : World) (hp : PtrP w vp p) :
    Calls Try.prog 178 #[vp] w (RetV w (.int .i64 (cf p))) := by
  have hn6 := hV.n6
  have HP := Lib.hid hp
  obtain ⟨pb, v1, v2, v3, rfl, c1, c2, c3, R1, R2, R3⟩ := hp
  obtain ⟨a1, q1, rfl, _, _⟩ := R1.formN (n := p.n) rfl
  clear R1 R2 R3 c2 c3
  go_enter Try.func178, Try.ntmps178
  go_wp2_with fail
  clear c1
  go_loopw [3] (fun t wr => ∃ s : Nat, s ≤ p.n ∧ t = .int .i64 s ∧ cfOK p s ∧ Below w.heap.size w wr) (fun t _ => (intOf t).toNat)
  case atStart => exact ⟨p.n, Nat.le_refl _, rfl, cfOK_top p, Below.refl _ _⟩
  case round =>
    obtain ⟨s, hs, rfl, hok, hB⟩ := hrel
    have HOK := Lib.hid hok
    clear hok
    by_cases h0 : s = 0
    · subst h0
      have HL := Lib.hid (cf_zero HOK.out)
      go_wp2_with fail
      go_ret
      exact ⟨ret_int (by rw [HL.out]), hB⟩
    · obtain ⟨i, hsi⟩ : ∃ i, s = i + 1 := ⟨s - 1, by omega⟩
      have HOK1 : Hid (cfOK p (i + 1)) := by show cfOK p (i + 1); rw [← hsi]; exact HOK.out
      have hin : i < p.n := by omega
      have hG := HOK1.out.GT hV.valid
      have W1 : (s : Int) - 1 = (i : Int) := by omega
      have hs0 : 0 < s := by omega
      have HCON : Hid (Calls Try.prog 186 #[.pointer (some ⟨pb, 0, none⟩), .int .i64 ((s : Int) - 1)] wr (RetV wr (fvV p i))) := by
        have := i_levelFault hV i hin hG _ wr (HP.out.below hB)
        rwa [← W1] at this
      have HSI := Lib.hid hsi
      have HW := Lib.hid W1
      clear hsi W1 hG h0
      by_cases hk : (lvF p i).1 = 0
      · have HFV : Hid (fvV p i = .agg #[.int .i64 0, .int .i64 0, .int .i64 0, .int .i64 0]) := fvV_zero' hk
        have HOK2 := Lib.hid (HOK1.out.down hk)
        clear hk
        go_wp2_with fail
        refine HCON.out.mono ?_
        rintro e w2 ⟨rfl, hB2⟩
        rw [HFV.out]
        have hB3 := below_size hB hB2
        clear hB hB2 HCON
        go_wp2_with fail
        go_roundw
        case rel => exact ⟨i, by omega, by rw [HW.out], HOK2.out, hB3⟩
        case measure => simp [intOf]; omega
      · obtain ⟨k, l, a, b, hfv, hkk⟩ := fvV_form p i
        have hk0 : k ≠ 0 := fun h => hk (hkk.1 h)
        have D1 : (k == 0) = false := by simpa using hk0
        have HFV := Lib.hid hfv
        have HL := Lib.hid (cf_at HOK1.out hk)
        clear hk hkk hk0 hfv
        go_wp2_with fail
        refine HCON.out.mono ?_
        rintro e w2 ⟨rfl, hB2⟩
        rw [HFV.out]
        have hB3 := below_size hB hB2
        clear hB hB2 HCON
        go_wp2_with fail
        go_ret
        exact ⟨ret_int (by rw [HL.out, ← HSI.out]), hB3⟩
--== impl.IsConsistent
set_option maxHeartbeats 2000000 in
theorem i_IsConsistent (v1 v2 v3 : Value) (p : Pres) (w : World) (hp : RdP w v1 v2 v3 p) :
    Calls Try.prog 151 #[.agg #[v1, v2, v3]] w (RetV w (.bool (conB p))) := by
  have HP := Lib.hid hp
  obtain ⟨ao1, cap1, rfl, _, _⟩ := hp.1.form
  obtain ⟨ao2, cap2, rfl, _, _⟩ := hp.2.1.form
  obtain ⟨ao3, cap3, rfl, _, _⟩ := hp.2.2.form
  have g0 := below_alloc w (Obj.cells #[Value.slice ao1 p.orders.length cap1, Value.slice ao2 p.powers.length cap2, Value.slice ao3 p.conj.length cap3] 32)
  clear hp
  by_cases hV : validB p = true
  case neg =>
    have hV' : validB p = false := by simpa using hV
    have HX := Lib.hid (conB_no hV')
    clear hV
    go_enter Try.func151, Try.ntmps151
    go_wp2_with fail
    refine (i_IsPresentation _ _ _ p _ (HP.out.below g0)).mono ?_
    rintro e w1 ⟨rfl, hb⟩
    have g1 := below_size g0 hb
    rw [hV']
    clear hb hV'
    go_wp2_with fail
    go_ret
    exact ⟨ret_bool HX.out.symm, g1⟩
  have HX := Lib.hid (conB_yes hV)
  have HVd := Lib.hid (validB_true.1 hV)
  by_cases hc : cf p = 0
  all_goals
    have HC := Lib.hid hc
    have D1 : ((cf p : Int) == 0) = decide (cf p = 0) := by rw [Bool.eq_iff_iff]; simp
    first | rw [decide_eq_true hc] at D1 | rw [decide_eq_false hc] at D1
    clear hc
    go_enter Try.func151, Try.ntmps151
    go_wp2_with fail
    refine (i_IsPresentation _ _ _ p _ (HP.out.below g0)).mono ?_
    rintro e w1 ⟨rfl, hb⟩
    have g1 := below_size g0 hb
    have PT : PtrP w1 (.pointer (some ⟨w.heap.size, 0, none⟩)) p := PtrP.below ⟨_, _, _, _, rfl, by simp [go_sem], by simp [go_sem], by simp [go_sem], HP.out.below g0⟩ hb
    rw [hV]
    clear hb hV
    go_wp2_with fail
    refine (i_consistentFrom HVd.out _ _ PT).mono ?_
    rintro e w2 ⟨rfl, hb2⟩
    have g2 := below_size g1 hb2
    clear hb2 PT
    go_wp2_with fail
    go_ret
    exact ⟨ret_bool (by rw [HX.out]; try first | exact (decide_eq_true HC.out).symm | exact (decide_eq_false HC.out).symm), g2⟩
