/-
  ConsistencyFault.
-/
import Derived.Test.YtbhjbfgkohgiiaaConI
namespace Go.Proofs.Ytbhjbfgkohgiiaa
set_option linter.unusedVariables false
set_option linter.unusedSimpArgs false
set_option maxRecDepth 100000
open Go.RowKit

--== the fault, or none
def cfV (p : Pres) : Value := if validB p = true then fltV p else fz
theorem cfV_no {p : Pres} (h : validB p = false) : cfV p = .agg #[.int .i64 0, .int .i64 0, .int .i64 0, .int .i64 0] := by unfold cfV; rw [h]; rfl
theorem cfV_yes {p : Pres} (h : validB p = true) : cfV p = fltV p := if_pos h
theorem cfV_form (p : Pres) : ∃ k l a b : Int, cfV p = .agg #[.int .i64 k, .int .i64 l, .int .i64 a, .int .i64 b] := by
  by_cases h : validB p = true
  · obtain ⟨k, l, a, b, e, _⟩ := fltV_form p
    exact ⟨k, l, a, b, by rw [cfV_yes h, e]⟩
  · exact ⟨0, 0, 0, 0, cfV_no (by simpa using h)⟩
theorem ret_vi {u v : Value} {c d : Int} (h : u = v) (h' : c = d) : Ending.returned (.tuple #[u, .int .i64 c]) = .returned (.tuple #[v, .int .i64 d]) := by rw [h, h']
--== impl.ConsistencyFault
set_option maxHeartbeats 4000000 in
theorem i_ConsistencyFault (v1 v2 v3 : Value) (p : Pres) (w : World) (hp : RdP w v1 v2 v3 p) :
    Calls Try.prog 37 #[.agg #[v1, v2, v3]] w (RetV w (.tuple #[cfV p, .int .i64 (cod1 (validB p))])) := by
  have HP := Lib.hid hp
  obtain ⟨ao1, cap1, rfl, _, _⟩ := hp.1.form
  obtain ⟨ao2, cap2, rfl, _, _⟩ := hp.2.1.form
  obtain ⟨ao3, cap3, rfl, _, _⟩ := hp.2.2.form
  have g0 := below_alloc w (Obj.cells #[Value.slice ao1 p.orders.length cap1, Value.slice ao2 p.powers.length cap2, Value.slice ao3 p.conj.length cap3] 28)
  have g1 := ball g0 (Obj.cells #[.int .i64 0, .int .i64 0, .int .i64 0, .int .i64 0] 49)
  have f0 := Fx.new (w.alloc (Obj.cells #[Value.slice ao1 p.orders.length cap1, Value.slice ao2 p.powers.length cap2, Value.slice ao3 p.conj.length cap3] 28))
  have hsz : (w.alloc (Obj.cells #[Value.slice ao1 p.orders.length cap1, Value.slice ao2 p.powers.length cap2, Value.slice ao3 p.conj.length cap3] 28)).heap.size = w.heap.size + 1 := by simp
  rw [hsz] at f0
  have PT := Lib.hid (PtrP.below ((Bx.new w (Value.slice ao1 p.orders.length cap1) (Value.slice ao2 p.powers.length cap2) (Value.slice ao3 p.conj.length cap3)).ptr (hp.below g0)) (below_alloc _ (Obj.cells #[.int .i64 0, .int .i64 0, .int .i64 0, .int .i64 0] 49)))
  clear hp hsz g0
  by_cases hV : validB p = true
  case neg =>
    have hV' : validB p = false := by simpa using hV
    have HV := Lib.hid hV'
    clear hV
    go_enter Try.func37, Try.ntmps37
    go_wp2_with fail
    refine (i_IsPresentation _ _ _ p _ (HP.out.below g1)).mono ?_
    rintro e w1 ⟨rfl, hb⟩
    have g2 := below_size g1 hb
    have f1 := f0.below hb (by simp)
    have fc0 := f1.c (o := 0) (by omega)
    have fc1 := f1.c (o := 1) (by omega)
    have fc2 := f1.c (o := 2) (by omega)
    have fc3 := f1.c (o := 3) (by omega)
    have ff0 := f1.fr 0
    have ff1 := f1.fr 1
    have ff2 := f1.fr 2
    have ff3 := f1.fr 3
    have hW' := fset4 (b := w.heap.size + 1) g2 (.int .i64 0) (.int .i64 0) (.int .i64 0) (.int .i64 0)
    rw [hV']
    clear hb hV' f0 f1 g1 g2
    go_wp2_with fail
    refine bodyPost_ret (v := .tuple #[.agg #[.int .i64 0, .int .i64 0, .int .i64 0, .int .i64 0], .int .i64 1]) (by simp [results, Try.results37, go_sem, fc0, fc1, fc2, fc3]) rfl ?_
    exact ⟨ret_vi (cfV_no HV.out).symm (by rw [HV.out]; rfl), hW'⟩
  have HV := Lib.hid hV
  have HVd := Lib.hid (validB_true.1 hV)
  have hcn := (cf_spec p).1.1
  have hn6 := (validB_true.1 hV).n6
  by_cases hc : cf p = 0
  · have HX : Hid (cfV p = .agg #[.int .i64 0, .int .i64 0, .int .i64 0, .int .i64 0]) := by show _ = _; rw [cfV_yes hV, fltV_zero hc]
    have HC := Lib.hid hc
    go_enter Try.func37, Try.ntmps37
    go_wp2_with fail
    refine (i_IsPresentation _ _ _ p _ (HP.out.below g1)).mono ?_
    rintro e w1 ⟨rfl, hb⟩
    have g2 := below_size g1 hb
    have f1 := f0.below hb (by simp)
    have PT1 := PT.out.below hb
    rw [hV]
    clear hb hV f0 g1
    go_wp2_with fail
    refine (i_consistentFrom HVd.out _ _ PT1).mono ?_
    rintro e w2 ⟨rfl, hb⟩
    have g3 := below_size g2 hb
    have f2 := f1.below hb f1.lt
    have fc0 := f2.c (o := 0) (by omega)
    have fc1 := f2.c (o := 1) (by omega)
    have fc2 := f2.c (o := 2) (by omega)
    have fc3 := f2.c (o := 3) (by omega)
    have ff0 := f2.fr 0
    have ff1 := f2.fr 1
    have ff2 := f2.fr 2
    have ff3 := f2.fr 3
    have hW' := fset4 (b := w.heap.size + 1) g3 (.int .i64 0) (.int .i64 0) (.int .i64 0) (.int .i64 0)
    rw [hc]
    clear hb hc f1 f2 g2 g3 PT1
    go_wp2_with fail
    refine bodyPost_ret (v := .tuple #[.agg #[.int .i64 0, .int .i64 0, .int .i64 0, .int .i64 0], .int .i64 0]) (by simp [results, Try.results37, go_sem, fc0, fc1, fc2, fc3]) rfl ?_
    exact ⟨ret_vi HX.out.symm (by rw [HV.out]; rfl), hW'⟩
  · obtain ⟨i, hi⟩ : ∃ i, cf p = i + 1 := ⟨cf p - 1, by omega⟩
    obtain ⟨k, l, a, b, hf, _⟩ := fvV_form p i
    have HX : Hid (cfV p = .agg #[.int .i64 k, .int .i64 l, .int .i64 a, .int .i64 b]) := by show _ = _; rw [cfV_yes hV, fltV_ne hi, hf]
    have HF := Lib.hid hf
    have HI := Lib.hid hi
    have hin : i < p.n := by omega
    have HG : Hid (GT p (i + 1)) := by have := (cf_spec p).1; rw [hi] at this; exact this.GT (validB_true.1 hV).valid
    clear hf hc hcn
    go_enter Try.func37, Try.ntmps37
    go_wp2_with fail
    refine (i_IsPresentation _ _ _ p _ (HP.out.below g1)).mono ?_
    rintro e w1 ⟨rfl, hb⟩
    have g2 := below_size g1 hb
    have f1 := f0.below hb (by simp)
    have PT1 := PT.out.below hb
    rw [hV]
    clear hb hV f0 g1
    go_wp2_with fail
    refine (i_consistentFrom HVd.out _ _ PT1).mono ?_
    rintro e w2 ⟨rfl, hb⟩
    have g3 := below_size g2 hb
    have f2 := f1.below hb f1.lt
    have PT2 := PT1.below hb
    rw [hi]
    clear hb hi f1 g2 PT1
    go_wp2_with fail
    refine (i_levelFault HVd.out i hin HG.out _ _ PT2).mono ?_
    rintro e w3 ⟨rfl, hb⟩
    have g4 := below_size g3 hb
    have f3 := f2.below hb f2.lt
    have fc0 := f3.c (o := 0) (by omega)
    have fc1 := f3.c (o := 1) (by omega)
    have fc2 := f3.c (o := 2) (by omega)
    have fc3 := f3.c (o := 3) (by omega)
    have ff0 := f3.fr 0
    have ff1 := f3.fr 1
    have ff2 := f3.fr 2
    have ff3 := f3.fr 3
    have hW' := fset4 (b := w.heap.size + 1) g4 (.int .i64 k) (.int .i64 l) (.int .i64 a) (.int .i64 b)
    rw [HF.out]
    clear hb f2 f3 g3 g4 PT2
    go_wp2_with fail
    refine bodyPost_ret (v := .tuple #[.agg #[.int .i64 k, .int .i64 l, .int .i64 a, .int .i64 b], .int .i64 0]) (by simp [results, Try.results37, go_sem, fc0, fc1, fc2, fc3]) rfl ?_
    exact ⟨ret_vi HX.out.symm (by rw [HV.out]; rfl), hW'⟩
--== spec.ConsistencyFault
set_option maxHeartbeats 4000000 in
theorem s_ConsistencyFault (v1 v2 v3 : Value) (p : Pres) (w : World) (hp : RdP w v1 v2 v3 p) :
    Calls Try.prog 36 #[.agg #[v1, v2, v3]] w (RetV w (.tuple #[cfV p, .int .i64 (cod1 (validB p))])) := by
  have HP := Lib.hid hp
  obtain ⟨ao1, cap1, rfl, _, _⟩ := hp.1.form
  obtain ⟨ao2, cap2, rfl, _, _⟩ := hp.2.1.form
  obtain ⟨ao3, cap3, rfl, _, _⟩ := hp.2.2.form
  have g0 := below_alloc w (Obj.cells #[Value.slice ao1 p.orders.length cap1, Value.slice ao2 p.powers.length cap2, Value.slice ao3 p.conj.length cap3] 28)
  have g1 := ball g0 (Obj.cells #[.int .i64 0, .int .i64 0, .int .i64 0, .int .i64 0] 49)
  have f0 := Fx.new (w.alloc (Obj.cells #[Value.slice ao1 p.orders.length cap1, Value.slice ao2 p.powers.length cap2, Value.slice ao3 p.conj.length cap3] 28))
  have hsz : (w.alloc (Obj.cells #[Value.slice ao1 p.orders.length cap1, Value.slice ao2 p.powers.length cap2, Value.slice ao3 p.conj.length cap3] 28)).heap.size = w.heap.size + 1 := by simp
  have x0 := (Bx.new w (Value.slice ao1 p.orders.length cap1) (Value.slice ao2 p.powers.length cap2) (Value.slice ao3 p.conj.length cap3)).old (Obj.cells #[.int .i64 0, .int .i64 0, .int .i64 0, .int .i64 0] 49)
  rw [hsz] at f0
  clear hp hsz g0
  by_cases hV : validB p = true
  case neg =>
    have hV' : validB p = false := by simpa using hV
    have HV := Lib.hid hV'
    clear hV
    go_enter Try.func36, Try.ntmps36
    go_wp2_with fail
    refine (s_IsPresentation _ _ _ p _ (HP.out.below g1)).mono ?_
    rintro e w1 ⟨rfl, hb⟩
    have g2 := below_size g1 hb
    have f1 := f0.below hb (by simp)
    have fc0 := f1.c (o := 0) (by omega)
    have fc1 := f1.c (o := 1) (by omega)
    have fc2 := f1.c (o := 2) (by omega)
    have fc3 := f1.c (o := 3) (by omega)
    have ff0 := f1.fr 0
    have ff1 := f1.fr 1
    have ff2 := f1.fr 2
    have ff3 := f1.fr 3
    have hW' := fset4 (b := w.heap.size + 1) g2 (.int .i64 0) (.int .i64 0) (.int .i64 0) (.int .i64 0)
    rw [hV']
    clear hb hV' f0 f1 g1 g2
    go_wp2_with fail
    refine bodyPost_ret (v := .tuple #[.agg #[.int .i64 0, .int .i64 0, .int .i64 0, .int .i64 0], .int .i64 1]) (by simp [results, Try.results36, go_sem, fc0, fc1, fc2, fc3]) rfl ?_
    exact ⟨ret_vi (cfV_no HV.out).symm (by rw [HV.out]; rfl), hW'⟩
  have HV := Lib.hid hV
  have HVd := Lib.hid (validB_true.1 hV)
  obtain ⟨k, l, a, b, hf, _⟩ := fltV_form p
  have HX : Hid (cfV p = .agg #[.int .i64 k, .int .i64 l, .int .i64 a, .int .i64 b]) := by show _ = _; rw [cfV_yes hV, hf]
  have HF := Lib.hid hf
  clear hf
  go_enter Try.func36, Try.ntmps36
  go_wp2_with fail
  refine (s_IsPresentation _ _ _ p _ (HP.out.below g1)).mono ?_
  rintro e w1 ⟨rfl, hb⟩
  have g2 := below_size g1 hb
  have f1 := f0.below hb (by simp)
  have x1 := x0.below hb x0.lt
  have m0 := x1.c0
  have m1 := x1.c1
  have m2 := x1.c2
  rw [hV]
  clear hb hV f0 g1
  go_wp2_with fail
  refine (s_l08Fault HVd.out _ _ _ _ (HP.out.below g2)).mono ?_
  rintro e w3 ⟨rfl, hb⟩
  have g4 := below_size g2 hb
  have f3 := f1.below hb f1.lt
  have fc0 := f3.c (o := 0) (by omega)
  have fc1 := f3.c (o := 1) (by omega)
  have fc2 := f3.c (o := 2) (by omega)
  have fc3 := f3.c (o := 3) (by omega)
  have ff0 := f3.fr 0
  have ff1 := f3.fr 1
  have ff2 := f3.fr 2
  have ff3 := f3.fr 3
  have hW' := fset4 (b := w.heap.size + 1) g4 (.int .i64 k) (.int .i64 l) (.int .i64 a) (.int .i64 b)
  rw [HF.out]
  clear hb f1 f3 g2 g4 x1 m0 m1 m2
  go_wp2_with fail
  refine bodyPost_ret (v := .tuple #[.agg #[.int .i64 k, .int .i64 l, .int .i64 a, .int .i64 b], .int .i64 0]) (by simp [results, Try.results36, go_sem, fc0, fc1, fc2, fc3]) rfl ?_
  exact ⟨ret_vi HX.out.symm (by rw [HV.out]; rfl), hW'⟩
--== laws.eqFault
set_option maxHeartbeats 1000000 in
theorem l_eqFault_same (k l a b : Int) (w : World) :
    Calls Try.prog 38 #[.agg #[.int .i64 k, .int .i64 l, .int .i64 a, .int .i64 b], .agg #[.int .i64 k, .int .i64 l, .int .i64 a, .int .i64 b]] w (RetV w (.bool true)) := by
  have g1 := below_allocs2 w (Obj.cells #[.int .i64 k, .int .i64 l, .int .i64 a, .int .i64 b] 49) (Obj.cells #[.int .i64 k, .int .i64 l, .int .i64 a, .int .i64 b] 49)
  go_enter Try.func38, Try.ntmps38
  go_wp2_with fail
  go_ret
  exact ⟨rfl, g1⟩
end Go.Proofs.Ytbhjbfgkohgiiaa
