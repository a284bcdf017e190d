/-
  The text of a presentation: the two exported functions.
-/
import Derived.Test.YtdagfidnjenjhaaDoorPtc
import Derived.Test.YtdagfidnjenjhaaDoorPresD
namespace Go.Proofs.YtdagfidnjenjhaaDoor
set_option linter.unusedVariables false
set_option linter.unusedSimpArgs false
set_option maxRecDepth 100000
open Go.RowKit

--== plain
def ptB (p : Pres) : ByteArray := if validB p = true then ⟨(ptx p).toArray⟩ else ⟨#[]⟩
theorem ptB_no {p : Pres} (h : validB p = false) : ptB p = ⟨#[]⟩ := if_neg (by rw [h]; exact Bool.false_ne_true)
theorem ptB_of {p : Pres} (h : validB p = true) {s : ByteArray} (hs : s.data.toList = ptx p) : s = ptB p := ba_ext (by rw [hs]; unfold ptB; rw [if_pos h])
--== impl.PresentationText
set_option maxHeartbeats 2000000 in
theorem i_PresentationText (v1 v2 v3 : Value) (p : Pres) (w : World) (hp : RdP w v1 v2 v3 p) :
    Calls Tryd.prog 7 #[.agg #[v1, v2, v3]] w (RetV w (.tuple #[.string (ptB p), .int .i64 (cod1 (validB p))])) := by
  have HP := Lib.hid hp
  obtain ⟨ao1, cap1, rfl, _, _⟩ := hp.1.form
  obtain ⟨ao2, cap2, rfl, _, _⟩ := hp.2.1.form
  obtain ⟨ao3, cap3, rfl, _, _⟩ := hp.2.2.form
  have g0 := below_alloc w (Obj.cells #[Value.slice ao1 p.orders.length cap1, Value.slice ao2 p.powers.length cap2, Value.slice ao3 p.conj.length cap3] 30)
  clear hp
  by_cases hV : validB p = true
  case neg =>
    have hV' : validB p = false := by simpa using hV
    rw [hV', ptB_no hV']
    go_enter Tryd.func7, Tryd.ntmps7
    go_wp2_with fail
    refine (i_IsPresentation _ _ _ p _ (HP.out.below g0)).mono ?_
    rintro e w1 ⟨rfl, hb⟩
    have g1 := below_size g0 hb
    rw [hV']
    clear hb hV' hV
    go_wp2_with fail
    go_ret2
    exact ⟨rfl, g1⟩
  have HO := Lib.hid (validB_true.1 hV)
  have HVB := Lib.hid hV
  rw [hV]
  go_enter Tryd.func7, Tryd.ntmps7
  go_wp2_with fail
  refine (i_IsPresentation _ _ _ p _ (HP.out.below g0)).mono ?_
  rintro e w1 ⟨rfl, hb⟩
  have g1 := below_size g0 hb
  have PT : PtrP w1 (.pointer (some ⟨w.heap.size, 0, none⟩)) p := PtrP.below ⟨_, _, _, _, rfl, by simp [go_sem], by simp [go_sem], by simp [go_sem], HP.out.below g0⟩ hb
  rw [hV]
  clear hb hV
  go_wp2_with fail
  refine (i_presentationText HO.out _ _ PT).mono ?_
  rintro e w2 ⟨s, rfl, hs, hb2⟩
  have HS := Lib.hid (ptB_of HVB.out hs)
  have g2 := below_size g1 hb2
  clear hb2 hs
  go_wp2_with fail
  go_ret2
  exact ⟨by rw [HS.out]; rfl, g2⟩
--== spec.PresentationText
set_option maxHeartbeats 2000000 in
theorem s_PresentationText (v1 v2 v3 : Value) (p : Pres) (w : World) (hp : RdP w v1 v2 v3 p) :
    Calls Tryd.prog 5 #[.agg #[v1, v2, v3]] w (RetV w (.tuple #[.string (ptB p), .int .i64 (cod1 (validB p))])) := by
  have HP := Lib.hid hp
  obtain ⟨ao1, cap1, rfl, _, _⟩ := hp.1.form
  obtain ⟨ao2, cap2, rfl, _, _⟩ := hp.2.1.form
  obtain ⟨ao3, cap3, rfl, _, _⟩ := hp.2.2.form
  have g0 := below_alloc w (Obj.cells #[Value.slice ao1 p.orders.length cap1, Value.slice ao2 p.powers.length cap2, Value.slice ao3 p.conj.length cap3] 30)
  clear hp
  by_cases hV : validB p = true
  case neg =>
    have hV' : validB p = false := by simpa using hV
    rw [hV', ptB_no hV']
    go_enter Tryd.func5, Tryd.ntmps5
    go_wp2_with fail
    refine (s_IsPresentation _ _ _ p _ (HP.out.below g0)).mono ?_
    rintro e w1 ⟨rfl, hb⟩
    have g1 := below_size g0 hb
    rw [hV']
    clear hb hV' hV
    go_wp2_with fail
    go_ret2
    exact ⟨rfl, g1⟩
  have HO := Lib.hid (validB_true.1 hV)
  have HVB := Lib.hid hV
  rw [hV]
  go_enter Tryd.func5, Tryd.ntmps5
  go_wp2_with fail
  refine (s_IsPresentation _ _ _ p _ (HP.out.below g0)).mono ?_
  rintro e w1 ⟨rfl, hb⟩
  have g1 := below_size g0 hb
  have x1 := (Bx.new w (Value.slice ao1 p.orders.length cap1) (Value.slice ao2 p.powers.length cap2) (Value.slice ao3 p.conj.length cap3)).below hb (by simp)
  have m0 := x1.c0
  have m1 := x1.c1
  have m2 := x1.c2
  rw [hV]
  clear hb hV x1
  go_wp2_with fail
  refine (s_l07Text HO.out _ _ _ _ (HP.out.below g1)).mono ?_
  rintro e w2 ⟨s, rfl, hs, hb2⟩
  have HS := Lib.hid (ptB_of HVB.out hs)
  have g2 := below_size g1 hb2
  clear hb2 hs
  go_wp2_with fail
  go_ret2
  exact ⟨by rw [HS.out]; rfl, g2⟩
--== end
end Go.Proofs.YtdagfidnjenjhaaDoor
