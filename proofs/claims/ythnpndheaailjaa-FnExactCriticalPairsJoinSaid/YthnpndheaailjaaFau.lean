/-
  The reference's first fault: l08Fault, l08Consistent, l08Group.
-/
import Derived.Test.YthnpndheaailjaaLev
namespace Go.Proofs.Ythnpndheaailjaa
set_option linter.unusedVariables false
set_option linter.unusedSimpArgs false
set_option maxRecDepth 100000
open Go.RowKit

--== faults 172
theorem Fx.old {w : World} {b : Nat} (h : Fx w b) (o : Obj) : Fx (w.alloc o) b := (Below.heap_alloc w o b h.lt).trans h
def fz : Value := .agg #[.int .i64 0, .int .i64 0, .int .i64 0, .int .i64 0]
/-- the first fault -/
def fltV (p : Pres) : Value := if cf p = 0 then fz else fvV p (cf p - 1)
theorem fltV_zero {p : Pres} (h : cf p = 0) : fltV p = .agg #[.int .i64 0, .int .i64 0, .int .i64 0, .int .i64 0] := by unfold fltV; rw [if_pos h]; rfl
theorem fltV_ne {p : Pres} {i : Nat} (h : cf p = i + 1) : fltV p = fvV p i := by unfold fltV; rw [if_neg (by omega), h]; rfl
theorem fvV_form (p : Pres) (i : Nat) : ∃ k l a b : Int, fvV p i = .agg #[.int .i64 k, .int .i64 l, .int .i64 a, .int .i64 b] ∧ (k = 0 ↔ (lvF p i).1 = 0) := by
  by_cases h : (lvF p i).1 = 0
  · exact ⟨0, 0, 0, 0, by unfold fvV; rw [if_pos h], by simp [h]⟩
  · exact ⟨_, _, _, _, by unfold fvV; rw [if_neg h], Iff.rfl⟩
theorem fvV_zero' {p : Pres} {i : Nat} (h : (lvF p i).1 = 0) : fvV p i = fz := by unfold fvV; rw [if_pos h]; rfl
--== spec.l08Fault
set_option maxHeartbeats 4000000 in
theorem s_l08Fault {p : Pres} (hV : ValidP p) (v1 v2 v3 : Value) (w : World) (hp : RdP w v1 v2 v3 p) :
    Calls Try.prog 174 #[.agg #[v1, v2, v3]] w (RetV w (fltV p)) := by
  have hn6 := hV.n6
  have HP := Lib.hid hp
  obtain ⟨p1, q1, rfl, _, _⟩ := hp.1.formN (n := p.n) rfl
  obtain ⟨p2, q2, rfl, _, _⟩ := hp.2.1.formN hV.pl
  obtain ⟨p3, q3, rfl, _, _⟩ := hp.2.2.formN hV.cl
  have g0 := below_alloc w (Obj.cells #[Value.slice p1 p.n q1, Value.slice p2 p.n q2, Value.slice p3 p.n q3] 32)
  have x0 := Bx.new w (Value.slice p1 p.n q1) (Value.slice p2 p.n q2) (Value.slice p3 p.n q3)
  have f0 := Fx.new (w.alloc (Obj.cells #[Value.slice p1 p.n q1, Value.slice p2 p.n q2, Value.slice p3 p.n q3] 32))
  have x1 := x0.old (Obj.cells #[.int .i64 0, .int .i64 0, .int .i64 0, .int .i64 0] 172)
  have g1 := ball g0 (Obj.cells #[.int .i64 0, .int .i64 0, .int .i64 0, .int .i64 0] 172)
  have hsz : (w.alloc (Obj.cells #[Value.slice p1 p.n q1, Value.slice p2 p.n q2, Value.slice p3 p.n q3] 32)).heap.size = w.heap.size + 1 := by simp
  rw [hsz] at f0
  clear hp g0 x0 hsz
  go_enter Try.func174, Try.ntmps174
  go_wp2_with fail
  go_loopw [3] (fun t wr => ∃ s : Nat, s ≤ p.n ∧ t = .int .i64 ((s : Int) - 1) ∧ cfOK p s ∧ Bx wr w.heap.size (Value.slice p1 p.n q1) (Value.slice p2 p.n q2) (Value.slice p3 p.n q3) ∧ Fx wr (w.heap.size + 1) ∧ Below w.heap.size w wr) (fun t _ => (intOf t + 1).toNat)
  case atStart => exact ⟨p.n, Nat.le_refl _, rfl, cfOK_top p, x1, f0, g1⟩
  case round =>
    clear x1 f0 g1
    obtain ⟨s, hs, rfl, hok, hX, hF, hB⟩ := hrel
    have HOK := Lib.hid hok
    clear hok
    by_cases h0 : s = 0
    · subst h0
      have HL := Lib.hid (fltV_zero (cf_zero HOK.out))
      have fc0 := hF.c (o := 0) (by omega)
      have fc1 := hF.c (o := 1) (by omega)
      have fc2 := hF.c (o := 2) (by omega)
      have fc3 := hF.c (o := 3) (by omega)
      have ff0 := hF.fr 0
      have ff1 := hF.fr 1
      have ff2 := hF.fr 2
      have ff3 := hF.fr 3
      have hW' := fset4 (b := w.heap.size + 1) hB (.int .i64 0) (.int .i64 0) (.int .i64 0) (.int .i64 0)
      clear hX hF hB
      go_wp2_with fail
      refine bodyPost_ret (v := .agg #[.int .i64 0, .int .i64 0, .int .i64 0, .int .i64 0]) (by simp [results, Try.results174, go_sem, fc0, fc1, fc2, fc3]) rfl ?_
      exact ⟨by rw [HL.out], hW'⟩
    · obtain ⟨i, rfl⟩ : ∃ i, s = i + 1 := ⟨s - 1, by omega⟩
      have ei : (((i + 1 : Nat) : Int) - 1) = (i : Int) := by omega
      rw [ei]
      have hin : i < p.n := by omega
      have hG := HOK.out.GT hV.valid
      have m0 := hX.c0
      have m1 := hX.c1
      have m2 := hX.c2
      obtain ⟨k, l, a, b, hfv, hk⟩ := fvV_form p i
      have HCON := Lib.hid (s_l08Level hV i hin hG (Value.slice p1 p.n q1) (Value.slice p2 p.n q2) (Value.slice p3 p.n q3) wr (HP.out.below hB))
      have HFV := Lib.hid hfv
      have HK := Lib.hid hk
      clear hG hfv hk ei h0
      go_wp2_with fail
      refine HCON.out.mono ?_
      rintro e w2 ⟨rfl, hB2⟩
      rw [HFV.out]
      have hX2 := hX.below hB2 hX.lt
      have hF2 := hF.below hB2 hF.lt
      have lf := hF2.lt
      have lx := hX2.lt
      have hB3 := below_size hB hB2
      have fc0 := hF2.c (o := 0) (by omega)
      have fc1 := hF2.c (o := 1) (by omega)
      have fc2 := hF2.c (o := 2) (by omega)
      have fc3 := hF2.c (o := 3) (by omega)
      have ff0 := hF2.fr 0
      have ff1 := hF2.fr 1
      have ff2 := hF2.fr 2
      have ff3 := hF2.fr 3
      clear m0 m1 m2 HCON hX hF hB hB2
      by_cases hk0 : k = 0
      · have HOK2 := Lib.hid (HOK.out.down (HK.out.1 hk0))
        subst hk0
        have hX3 := hX2.old (Obj.cells #[.int .i64 0, .int .i64 l, .int .i64 a, .int .i64 b] 172)
        have hF3 := hF2.old (Obj.cells #[.int .i64 0, .int .i64 l, .int .i64 a, .int .i64 b] 172)
        have hB4 := ball hB3 (Obj.cells #[.int .i64 0, .int .i64 l, .int .i64 a, .int .i64 b] 172)
        clear hX2 hF2 hB3
        go_wp2_with fail
        exact ⟨⟨i, by omega, rfl, HOK2.out, hX3, hF3, hB4⟩, by simp [intOf]⟩
      · have D1 : (k != 0) = true := by simpa using hk0
        have D2 : (k == 0) = false := by simpa using hk0
        have HL : Hid (fltV p = .agg #[.int .i64 k, .int .i64 l, .int .i64 a, .int .i64 b]) := by
          show _ = _
          rw [fltV_ne (cf_at HOK.out (fun h => hk0 (HK.out.2 h))), HFV.out]
        clear hk0
        have hW' := (fset4 (b := w.heap.size + 1) hB3 (.int .i64 k) (.int .i64 l) (.int .i64 a) (.int .i64 b))
        have hW2 := ball hW' (Obj.cells #[.int .i64 k, .int .i64 l, .int .i64 a, .int .i64 b] 172)
        clear hX2 hF2 hB3 hW'
        go_wp2_with fail
        refine bodyPost_ret (v := .agg #[.int .i64 k, .int .i64 l, .int .i64 a, .int .i64 b]) (by simp [results, Try.results174, go_sem, fc0, fc1, fc2, fc3, lf]) rfl ?_
        exact ⟨by rw [HL.out], hW2⟩
--== the first fault's parts 172
theorem fltV_form (p : Pres) : ∃ k l a b : Int, fltV p = .agg #[.int .i64 k, .int .i64 l, .int .i64 a, .int .i64 b] ∧ (k = 0 ↔ cf p = 0) ∧ (cf p ≠ 0 → l + 1 = (cf p : Int)) := by
  by_cases h : cf p = 0
  · exact ⟨0, 0, 0, 0, fltV_zero h, by simp [h], fun h' => absurd h h'⟩
  · obtain ⟨i, hi⟩ : ∃ i, cf p = i + 1 := ⟨cf p - 1, by omega⟩
    have h1 := (cf_spec p).2 i hi
    refine ⟨(lvF p i).1, i, (lvF p i).2.1, (lvF p i).2.2, ?_, ?_, fun _ => by omega⟩
    · rw [fltV_ne hi]; unfold fvV; rw [if_neg h1]
    · constructor
      · intro h2; exact absurd h2 h1
      · intro h2; exact absurd h2 h
theorem conB_no {p : Pres} (h : validB p = false) : conB p = false := by simp [conB, h]
theorem conB_yes {p : Pres} (h : validB p = true) : conB p = decide (cf p = 0) := by simp [conB, h]
--== spec.l08Consistent
set_option maxHeartbeats 1000000 in
theorem s_l08Consistent {p : Pres} (hV : ValidP p) (v1 v2 v3 : Value) (w : World) (hp : RdP w v1 v2 v3 p) :
    Calls Try.prog 147 #[.agg #[v1, v2, v3]] w (RetV w (.bool (decide (cf p = 0)))) := by
  have HP := Lib.hid hp
  obtain ⟨p1, q1, rfl, _, _⟩ := hp.1.formN (n := p.n) rfl
  obtain ⟨p2, q2, rfl, _, _⟩ := hp.2.1.formN hV.pl
  obtain ⟨p3, q3, rfl, _, _⟩ := hp.2.2.formN hV.cl
  have g0 := below_alloc w (Obj.cells #[Value.slice p1 p.n q1, Value.slice p2 p.n q2, Value.slice p3 p.n q3] 32)
  obtain ⟨k, l, a, b, hfv, hk, _⟩ := fltV_form p
  have HFV := Lib.hid hfv
  clear hp hfv
  by_cases hk0 : k = 0
  · have HD : Hid (decide (cf p = 0) = true) := by show _ = _; rw [decide_eq_true_iff]; exact hk.1 hk0
    subst hk0
    clear hk
    have hfd : ∀ w : World, (Instr.field 172 (.agg #[.int .i64 0, .int .i64 l, .int .i64 a, .int .i64 b]) 0).run Try.prog w = .ok (.int .i64 0) w := fun _ => by kernel_rfl
    go_enter Try.func147, Try.ntmps147
    go_wp2_with fail
    refine (s_l08Fault hV _ _ _ _ (HP.out.below g0)).mono ?_
    rintro e w2 ⟨rfl, hB2⟩
    rw [HFV.out]
    have hB3 := below_size g0 hB2
    clear g0 hB2
    go_wp2_with fail
    go_ret
    exact ⟨ret_bool HD.out.symm, hB3⟩
  · have HD : Hid (decide (cf p = 0) = false) := by show _ = _; rw [decide_eq_false]; exact fun h => hk0 (hk.2 h)
    have D1 : (k == 0) = false := by simpa using hk0
    clear hk hk0
    have hfd : ∀ w : World, (Instr.field 172 (.agg #[.int .i64 k, .int .i64 l, .int .i64 a, .int .i64 b]) 0).run Try.prog w = .ok (.int .i64 k) w := fun _ => by kernel_rfl
    go_enter Try.func147, Try.ntmps147
    go_wp2_with fail
    refine (s_l08Fault hV _ _ _ _ (HP.out.below g0)).mono ?_
    rintro e w2 ⟨rfl, hB2⟩
    rw [HFV.out]
    have hB3 := below_size g0 hB2
    clear g0 hB2
    go_wp2_with fail
    go_ret
    exact ⟨ret_bool HD.out.symm, hB3⟩
--== spec.l08Group
set_option maxHeartbeats 1000000 in
theorem s_l08Group (p : Pres) (v1 v2 v3 : Value) (w : World) (hp : RdP w v1 v2 v3 p) :
    Calls Try.prog 102 #[.agg #[v1, v2, v3]] w (RetV w (.bool (conB p))) := by
  have HP := Lib.hid hp
  obtain ⟨ao1, cap1, rfl, _, _⟩ := hp.1.form
  obtain ⟨ao2, cap2, rfl, _, _⟩ := hp.2.1.form
  obtain ⟨ao3, cap3, rfl, _, _⟩ := hp.2.2.form
  have g0 := below_alloc w (Obj.cells #[Value.slice ao1 p.orders.length cap1, Value.slice ao2 p.powers.length cap2, Value.slice ao3 p.conj.length cap3] 32)
  clear hp
  by_cases hV : validB p = true
  case neg =>
    have hV' : validB p = false := by simpa using hV
    have HX := Lib.hid (conB_no hV')
    clear hV
    go_enter Try.func102, Try.ntmps102
    go_wp2_with fail
    refine (s_IsPresentation _ _ _ p _ (HP.out.below g0)).mono ?_
    rintro e w1 ⟨rfl, hb⟩
    have g1 := below_size g0 hb
    rw [hV']
    clear hb hV'
    go_wp2_with fail
    go_ret
    exact ⟨ret_bool HX.out.symm, g1⟩
  have HX := Lib.hid (conB_yes hV)
  have HVd := Lib.hid (validB_true.1 hV)
  go_enter Try.func102, Try.ntmps102
  go_wp2_with fail
  refine (s_IsPresentation _ _ _ p _ (HP.out.below g0)).mono ?_
  rintro e w1 ⟨rfl, hb⟩
  have g1 := below_size g0 hb
  obtain ⟨c1, f1⟩ := bcell hb
  have z1 : w.heap.size < w1.heap.size := by have := hb.size; simp at this; omega
  rw [hV]
  clear hb hV
  go_wp2_with fail
  refine (s_l08Consistent HVd.out _ _ _ _ (HP.out.below g1)).mono ?_
  rintro e w2 ⟨rfl, hb2⟩
  have g2 := below_size g1 hb2
  clear hb2
  go_wp2_with fail
  go_ret
  exact ⟨ret_bool HX.out.symm, g2⟩
