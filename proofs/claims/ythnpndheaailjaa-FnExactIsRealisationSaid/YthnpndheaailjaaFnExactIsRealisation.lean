/-
  The law FnExactIsRealisation: for every input the call returns true, and each argument reads behind the call as it read before. No condition.
-/
import Derived.Test.YthnpndheaailjaaOpen
import Derived.Test.YthnpndheaailjaaIrs
namespace Go.Proofs.Ythnpndheaailjaa.fnExactIsRealisation
set_option linter.unusedVariables false
set_option linter.unusedSimpArgs false
set_option maxRecDepth 100000
open Go.ChangeShapes Go.WideShapes Go.ChangeAt Go.RowKit
open Go.ChangeMaps (open_string shut_string)
set_option linter.unusedVariables false

set_option maxHeartbeats 8000000 in
set_option maxRecDepth 100000 in
theorem core (v1aP v2aP v3aP : Value) (aP : Pres) (vaList : Value) (aList : List (List Int)) (w : World) (haP : RdP w v1aP v2aP v3aP aP) (haList : Rd2 w vaList aList) :
    Calls Try.prog 7 #[.agg #[v1aP, v2aP, v3aP], vaList] w (RetV w (.bool true)) := by
  obtain ⟨aoaList, capaList, eaList, c1aList, c2aList⟩ := haList.form
  subst eaList
  have HEaP := Lib.hid haP
  clear haP
  have HEaList := Lib.hid haList
  clear haList
  by_cases gaP : ((psize aP : Nat) : Int) ≤ 1048576
  case neg =>
    have SNaP := Lib.hid (szI_out gaP)
    have hbx : Below w.heap.size w (w.alloc (Obj.cells #[v1aP, v2aP, v3aP] 38)) := below_alloc w _
    have zaP : w.heap.size < ((w.alloc (Obj.cells #[v1aP, v2aP, v3aP] 38))).heap.size := by simp <;> omega
    have M0aP : Hid (((w.alloc (Obj.cells #[v1aP, v2aP, v3aP] 38))).cell? ⟨w.heap.size, 0, none⟩ = some v1aP) := by show _ = _; simp [go_sem]
    have M1aP : Hid (((w.alloc (Obj.cells #[v1aP, v2aP, v3aP] 38))).cell? ⟨w.heap.size, 1, none⟩ = some v2aP) := by show _ = _; simp [go_sem]
    have M2aP : Hid (((w.alloc (Obj.cells #[v1aP, v2aP, v3aP] 38))).cell? ⟨w.heap.size, 2, none⟩ = some v3aP) := by show _ = _; simp [go_sem]
    go_enter Try.func7, Try.ntmps7
    go_wp2_with fail
    generalize (w.alloc (Obj.cells #[v1aP, v2aP, v3aP] 38)) = w0 at *
    have m0aP := M0aP.out
    have m1aP := M1aP.out
    have m2aP := M2aP.out
    have hb0 := Below.refl w0.heap.size w0
    go_wp2_with fail
    refine (l_szPresentation _ _ _ aP _ _ ((HEaP.out.below hbx).below hb0) (by omega) (by omega)).mono ?_
    rintro e w1 ⟨rfl, hb⟩
    have hb0x := below_size hb0 hb
    clear hb0
    have hb0 := hb0x
    clear hb0x
    have s1 : w0.heap.size ≤ w1.heap.size := hb.size
    have t := (hb.cell (p := ⟨w.heap.size, 0, none⟩) (show w.heap.size < _ by omega)).trans m0aP
    clear m0aP
    have m0aP := t
    clear t
    have t := (hb.cell (p := ⟨w.heap.size, 1, none⟩) (show w.heap.size < _ by omega)).trans m1aP
    clear m1aP
    have m1aP := t
    clear t
    have t := (hb.cell (p := ⟨w.heap.size, 2, none⟩) (show w.heap.size < _ by omega)).trans m2aP
    clear m2aP
    have m2aP := t
    clear t
    clear hb
    rw [SNaP.out]
    go_wp2_with fail
    go_ret
    exact ⟨rfl, hbx.trans (hb0.mono hbx.size)⟩
  have SZaP := Lib.hid (szI_in gaP)
  have laP : psize aP ≤ 1048576 := by omega
  by_cases gaList : ((size2 aList : Nat) : Int) ≤ 1048576 - ((psize aP : Nat) : Int)
  case neg =>
    have SNaList := Lib.hid (szI_out gaList)
    have hbx : Below w.heap.size w (w.alloc (Obj.cells #[v1aP, v2aP, v3aP] 38)) := below_alloc w _
    have zaP : w.heap.size < ((w.alloc (Obj.cells #[v1aP, v2aP, v3aP] 38))).heap.size := by simp <;> omega
    have M0aP : Hid (((w.alloc (Obj.cells #[v1aP, v2aP, v3aP] 38))).cell? ⟨w.heap.size, 0, none⟩ = some v1aP) := by show _ = _; simp [go_sem]
    have M1aP : Hid (((w.alloc (Obj.cells #[v1aP, v2aP, v3aP] 38))).cell? ⟨w.heap.size, 1, none⟩ = some v2aP) := by show _ = _; simp [go_sem]
    have M2aP : Hid (((w.alloc (Obj.cells #[v1aP, v2aP, v3aP] 38))).cell? ⟨w.heap.size, 2, none⟩ = some v3aP) := by show _ = _; simp [go_sem]
    go_enter Try.func7, Try.ntmps7
    go_wp2_with fail
    generalize (w.alloc (Obj.cells #[v1aP, v2aP, v3aP] 38)) = w0 at *
    have m0aP := M0aP.out
    have m1aP := M1aP.out
    have m2aP := M2aP.out
    have hb0 := Below.refl w0.heap.size w0
    go_wp2_with fail
    refine (l_szPresentation _ _ _ aP _ _ ((HEaP.out.below hbx).below hb0) (by omega) (by omega)).mono ?_
    rintro e w1 ⟨rfl, hb⟩
    have hb0x := below_size hb0 hb
    clear hb0
    have hb0 := hb0x
    clear hb0x
    have s1 : w0.heap.size ≤ w1.heap.size := hb.size
    have t := (hb.cell (p := ⟨w.heap.size, 0, none⟩) (show w.heap.size < _ by omega)).trans m0aP
    clear m0aP
    have m0aP := t
    clear t
    have t := (hb.cell (p := ⟨w.heap.size, 1, none⟩) (show w.heap.size < _ by omega)).trans m1aP
    clear m1aP
    have m1aP := t
    clear t
    have t := (hb.cell (p := ⟨w.heap.size, 2, none⟩) (show w.heap.size < _ by omega)).trans m2aP
    clear m2aP
    have m2aP := t
    clear t
    clear hb
    rw [SZaP.out]
    go_wp2_with fail
    refine (l_szInt64SS _ aList _ _ ((HEaList.out.below hbx).below hb0) (by omega) (by omega)).mono ?_
    rintro e w' ⟨rfl, rfl⟩
    rw [SNaList.out]
    go_wp2_with fail
    go_ret
    exact ⟨rfl, hbx.trans (hb0.mono hbx.size)⟩
  have SZaList := Lib.hid (szI_in gaList)
  have laList : size2 aList ≤ 1048576 := by omega
  have l2aList : aList.length ≤ 1048576 ∧ (cat aList).length ≤ 1048576 := by unfold size2 at laList; omega
  have hbx : Below w.heap.size w (w.alloc (Obj.cells #[v1aP, v2aP, v3aP] 38)) := below_alloc w _
  have zaP : w.heap.size < ((w.alloc (Obj.cells #[v1aP, v2aP, v3aP] 38))).heap.size := by simp <;> omega
  have M0aP : Hid (((w.alloc (Obj.cells #[v1aP, v2aP, v3aP] 38))).cell? ⟨w.heap.size, 0, none⟩ = some v1aP) := by show _ = _; simp [go_sem]
  have M1aP : Hid (((w.alloc (Obj.cells #[v1aP, v2aP, v3aP] 38))).cell? ⟨w.heap.size, 1, none⟩ = some v2aP) := by show _ = _; simp [go_sem]
  have M2aP : Hid (((w.alloc (Obj.cells #[v1aP, v2aP, v3aP] 38))).cell? ⟨w.heap.size, 2, none⟩ = some v3aP) := by show _ = _; simp [go_sem]
  go_enter Try.func7, Try.ntmps7
  go_wp2_with fail
  generalize (w.alloc (Obj.cells #[v1aP, v2aP, v3aP] 38)) = w0 at *
  have m0aP := M0aP.out
  have m1aP := M1aP.out
  have m2aP := M2aP.out
  have hb0 := Below.refl w0.heap.size w0
  go_wp2_with fail
  refine (l_szPresentation _ _ _ aP _ _ ((HEaP.out.below hbx).below hb0) (by omega) (by omega)).mono ?_
  rintro e w1 ⟨rfl, hb⟩
  have hb0x := below_size hb0 hb
  clear hb0
  have hb0 := hb0x
  clear hb0x
  have s1 : w0.heap.size ≤ w1.heap.size := hb.size
  have t := (hb.cell (p := ⟨w.heap.size, 0, none⟩) (show w.heap.size < _ by omega)).trans m0aP
  clear m0aP
  have m0aP := t
  clear t
  have t := (hb.cell (p := ⟨w.heap.size, 1, none⟩) (show w.heap.size < _ by omega)).trans m1aP
  clear m1aP
  have m1aP := t
  clear t
  have t := (hb.cell (p := ⟨w.heap.size, 2, none⟩) (show w.heap.size < _ by omega)).trans m2aP
  clear m2aP
  have m2aP := t
  clear t
  clear hb
  rw [SZaP.out]
  go_wp2_with fail
  refine (l_szInt64SS _ aList _ _ ((HEaList.out.below hbx).below hb0) (by omega) (by omega)).mono ?_
  rintro e w' ⟨rfl, rfl⟩
  rw [SZaList.out]
  go_wp2_with fail
  refine (l_toPresentation _ _ _ aP _ ((HEaP.out.below hbx).below hb0) (by omega)).mono ?_
  rintro e w2 ⟨v1c1, v2c1, v3c1, rfl, hc1, hb⟩
  have hb0x := below_size hb0 hb
  clear hb0
  have hb0 := hb0x
  clear hb0x
  have s2 : w1.heap.size ≤ w2.heap.size := hb.size
  have t := (hb.cell (p := ⟨w.heap.size, 0, none⟩) (show w.heap.size < _ by omega)).trans m0aP
  clear m0aP
  have m0aP := t
  clear t
  have t := (hb.cell (p := ⟨w.heap.size, 1, none⟩) (show w.heap.size < _ by omega)).trans m1aP
  clear m1aP
  have m1aP := t
  clear t
  have t := (hb.cell (p := ⟨w.heap.size, 2, none⟩) (show w.heap.size < _ by omega)).trans m2aP
  clear m2aP
  have m2aP := t
  clear t
  clear hb
  go_wp2_with fail
  refine (l_toInt64SS _ aList _ ((HEaList.out.below hbx).below hb0) (by omega) (by omega)).mono ?_
  rintro e w3 ⟨vc2, rfl, hc2, hb⟩
  have hb0x := below_size hb0 hb
  clear hb0
  have hb0 := hb0x
  clear hb0x
  have s3 : w2.heap.size ≤ w3.heap.size := hb.size
  have t := (hb.cell (p := ⟨w.heap.size, 0, none⟩) (show w.heap.size < _ by omega)).trans m0aP
  clear m0aP
  have m0aP := t
  clear t
  have t := (hb.cell (p := ⟨w.heap.size, 1, none⟩) (show w.heap.size < _ by omega)).trans m1aP
  clear m1aP
  have m1aP := t
  clear t
  have t := (hb.cell (p := ⟨w.heap.size, 2, none⟩) (show w.heap.size < _ by omega)).trans m2aP
  clear m2aP
  have m2aP := t
  clear t
  have t := OP.below hc1 hb
  clear hc1
  have hc1 := t
  clear t
  clear hb
  go_wp2_with fail
  refine (s_IsRealisation _ _ _ _ _ _ _ hc1.rd hc2.rd).mono ?_
  rintro e w4 ⟨rfl, hb⟩
  have hb0x := below_size hb0 hb
  clear hb0
  have hb0 := hb0x
  clear hb0x
  have s4 : w3.heap.size ≤ w4.heap.size := hb.size
  have t := (hb.cell (p := ⟨w.heap.size, 0, none⟩) (show w.heap.size < _ by omega)).trans m0aP
  clear m0aP
  have m0aP := t
  clear t
  have t := (hb.cell (p := ⟨w.heap.size, 1, none⟩) (show w.heap.size < _ by omega)).trans m1aP
  clear m1aP
  have m1aP := t
  clear t
  have t := (hb.cell (p := ⟨w.heap.size, 2, none⟩) (show w.heap.size < _ by omega)).trans m2aP
  clear m2aP
  have m2aP := t
  clear t
  have t := OP.below hc1 hb
  clear hc1
  have hc1 := t
  clear t
  have t := local_O2.below hc2 hb
  clear hc2
  have hc2 := t
  clear t
  clear hb
  go_wp2_with fail
  refine (l_toPresentation _ _ _ aP _ ((HEaP.out.below hbx).below hb0) (by omega)).mono ?_
  rintro e w5 ⟨v1c3, v2c3, v3c3, rfl, hc3, hb⟩
  have hb0x := below_size hb0 hb
  clear hb0
  have hb0 := hb0x
  clear hb0x
  have s5 : w4.heap.size ≤ w5.heap.size := hb.size
  have t := (hb.cell (p := ⟨w.heap.size, 0, none⟩) (show w.heap.size < _ by omega)).trans m0aP
  clear m0aP
  have m0aP := t
  clear t
  have t := (hb.cell (p := ⟨w.heap.size, 1, none⟩) (show w.heap.size < _ by omega)).trans m1aP
  clear m1aP
  have m1aP := t
  clear t
  have t := (hb.cell (p := ⟨w.heap.size, 2, none⟩) (show w.heap.size < _ by omega)).trans m2aP
  clear m2aP
  have m2aP := t
  clear t
  have t := OP.below hc1 hb
  clear hc1
  have hc1 := t
  clear t
  have t := local_O2.below hc2 hb
  clear hc2
  have hc2 := t
  clear t
  clear hb
  obtain ⟨a1c3, n1c3, q1c3, a2c3, n2c3, q2c3, a3c3, n3c3, q3c3, rfl, rfl, rfl⟩ := hc3.formsE
  have llc3 : psize aP ≤ 1000000000 := by omega
  have yaP : w.heap.size < w5.heap.size := by omega
  go_wp2_with fail
  clear yaP
  have hb := below_alloc w5 (Obj.cells #[Value.slice a1c3 n1c3 q1c3, Value.slice a2c3 n2c3 q2c3, Value.slice a3c3 n3c3 q3c3] 32)
  have zc3 : w5.heap.size < (w5.alloc (Obj.cells #[Value.slice a1c3 n1c3 q1c3, Value.slice a2c3 n2c3 q2c3, Value.slice a3c3 n3c3 q3c3] 32)).heap.size := by simp
  have M0c3 : Hid ((w5.alloc (Obj.cells #[Value.slice a1c3 n1c3 q1c3, Value.slice a2c3 n2c3 q2c3, Value.slice a3c3 n3c3 q3c3] 32)).cell? ⟨w5.heap.size, 0, none⟩ = some (Value.slice a1c3 n1c3 q1c3)) := by show _ = _; simp [go_sem]
  have M1c3 : Hid ((w5.alloc (Obj.cells #[Value.slice a1c3 n1c3 q1c3, Value.slice a2c3 n2c3 q2c3, Value.slice a3c3 n3c3 q3c3] 32)).cell? ⟨w5.heap.size, 1, none⟩ = some (Value.slice a2c3 n2c3 q2c3)) := by show _ = _; simp [go_sem]
  have M2c3 : Hid ((w5.alloc (Obj.cells #[Value.slice a1c3 n1c3 q1c3, Value.slice a2c3 n2c3 q2c3, Value.slice a3c3 n3c3 q3c3] 32)).cell? ⟨w5.heap.size, 2, none⟩ = some (Value.slice a3c3 n3c3 q3c3)) := by show _ = _; simp [go_sem]
  generalize (w5.alloc (Obj.cells #[Value.slice a1c3 n1c3 q1c3, Value.slice a2c3 n2c3 q2c3, Value.slice a3c3 n3c3 q3c3] 32)) = w6 at *
  have hb0x := below_size hb0 hb
  clear hb0
  have hb0 := hb0x
  clear hb0x
  have s6 : w5.heap.size ≤ w6.heap.size := hb.size
  have t := (hb.cell (p := ⟨w.heap.size, 0, none⟩) (show w.heap.size < _ by omega)).trans m0aP
  clear m0aP
  have m0aP := t
  clear t
  have t := (hb.cell (p := ⟨w.heap.size, 1, none⟩) (show w.heap.size < _ by omega)).trans m1aP
  clear m1aP
  have m1aP := t
  clear t
  have t := (hb.cell (p := ⟨w.heap.size, 2, none⟩) (show w.heap.size < _ by omega)).trans m2aP
  clear m2aP
  have m2aP := t
  clear t
  have t := OP.below hc1 hb
  clear hc1
  have hc1 := t
  clear t
  have t := local_O2.below hc2 hb
  clear hc2
  have hc2 := t
  clear t
  have t := OP.below hc3 hb
  clear hc3
  have hc3 := t
  clear t
  clear hb
  have m0c3 := M0c3.out
  have m1c3 := M1c3.out
  have m2c3 := M2c3.out
  refine (l_toInt64SS _ aList _ ((HEaList.out.below hbx).below hb0) (by omega) (by omega)).mono ?_
  rintro e w7 ⟨vc4, rfl, hc4, hb⟩
  have hb0x := below_size hb0 hb
  clear hb0
  have hb0 := hb0x
  clear hb0x
  have s7 : w6.heap.size ≤ w7.heap.size := hb.size
  have t := (hb.cell (p := ⟨w.heap.size, 0, none⟩) (show w.heap.size < _ by omega)).trans m0aP
  clear m0aP
  have m0aP := t
  clear t
  have t := (hb.cell (p := ⟨w.heap.size, 1, none⟩) (show w.heap.size < _ by omega)).trans m1aP
  clear m1aP
  have m1aP := t
  clear t
  have t := (hb.cell (p := ⟨w.heap.size, 2, none⟩) (show w.heap.size < _ by omega)).trans m2aP
  clear m2aP
  have m2aP := t
  clear t
  have t := (hb.cell (p := ⟨w5.heap.size, 0, none⟩) (show w5.heap.size < _ by omega)).trans m0c3
  clear m0c3
  have m0c3 := t
  clear t
  have t := (hb.cell (p := ⟨w5.heap.size, 1, none⟩) (show w5.heap.size < _ by omega)).trans m1c3
  clear m1c3
  have m1c3 := t
  clear t
  have t := (hb.cell (p := ⟨w5.heap.size, 2, none⟩) (show w5.heap.size < _ by omega)).trans m2c3
  clear m2c3
  have m2c3 := t
  clear t
  have t := OP.below hc1 hb
  clear hc1
  have hc1 := t
  clear t
  have t := local_O2.below hc2 hb
  clear hc2
  have hc2 := t
  clear t
  have t := OP.below hc3 hb
  clear hc3
  have hc3 := t
  clear t
  clear hb
  have llc4 : size2 aList ≤ 1000000000 := by omega
  go_wp2_with fail
  refine (i_IsRealisation _ _ _ _ _ _ _ hc3.rd hc4.rd).mono ?_
  rintro e w8 ⟨rfl, hb⟩
  have hb0x := below_size hb0 hb
  clear hb0
  have hb0 := hb0x
  clear hb0x
  have s8 : w7.heap.size ≤ w8.heap.size := hb.size
  have t := (hb.cell (p := ⟨w.heap.size, 0, none⟩) (show w.heap.size < _ by omega)).trans m0aP
  clear m0aP
  have m0aP := t
  clear t
  have t := (hb.cell (p := ⟨w.heap.size, 1, none⟩) (show w.heap.size < _ by omega)).trans m1aP
  clear m1aP
  have m1aP := t
  clear t
  have t := (hb.cell (p := ⟨w.heap.size, 2, none⟩) (show w.heap.size < _ by omega)).trans m2aP
  clear m2aP
  have m2aP := t
  clear t
  have t := (hb.cell (p := ⟨w5.heap.size, 0, none⟩) (show w5.heap.size < _ by omega)).trans m0c3
  clear m0c3
  have m0c3 := t
  clear t
  have t := (hb.cell (p := ⟨w5.heap.size, 1, none⟩) (show w5.heap.size < _ by omega)).trans m1c3
  clear m1c3
  have m1c3 := t
  clear t
  have t := (hb.cell (p := ⟨w5.heap.size, 2, none⟩) (show w5.heap.size < _ by omega)).trans m2c3
  clear m2c3
  have m2c3 := t
  clear t
  have t := OP.below hc1 hb
  clear hc1
  have hc1 := t
  clear t
  have t := local_O2.below hc2 hb
  clear hc2
  have hc2 := t
  clear t
  have t := OP.below hc3 hb
  clear hc3
  have hc3 := t
  clear t
  have t := local_O2.below hc4 hb
  clear hc4
  have hc4 := t
  clear t
  clear hb
  go_wp2_with fail
  have HR := Lib.hid ((HEaP.out.below hbx).below hb0)
  have HX := Lib.hid hc3.rd
  have lt0 : w5.heap.size < w8.heap.size := by omega
  have lt3 : w.heap.size < w8.heap.size := by omega
  have KEEP : Hid (∀ wx, Below w8.heap.size w8 wx → Below w8.heap.size w8 wx ∧ wx.cell? ⟨w5.heap.size, 0, none⟩ = some (Value.slice a1c3 n1c3 q1c3) ∧ wx.cell? ⟨w5.heap.size, 1, none⟩ = some (Value.slice a2c3 n2c3 q2c3) ∧ wx.cell? ⟨w5.heap.size, 2, none⟩ = some (Value.slice a3c3 n3c3 q3c3) ∧ wx.cell? ⟨w.heap.size, 0, none⟩ = some (v1aP) ∧ wx.cell? ⟨w.heap.size, 1, none⟩ = some (v2aP) ∧ wx.cell? ⟨w.heap.size, 2, none⟩ = some (v3aP)) := fun wx hb => ⟨hb, ((hb).cell (p := ⟨w5.heap.size, 0, none⟩) (by omega)).trans m0c3, ((hb).cell (p := ⟨w5.heap.size, 1, none⟩) (by omega)).trans m1c3, ((hb).cell (p := ⟨w5.heap.size, 2, none⟩) (by omega)).trans m2c3, ((hb).cell (p := ⟨w.heap.size, 0, none⟩) (by omega)).trans m0aP, ((hb).cell (p := ⟨w.heap.size, 1, none⟩) (by omega)).trans m1aP, ((hb).cell (p := ⟨w.heap.size, 2, none⟩) (by omega)).trans m2aP⟩
  go_region_held3 (fun wx => Below w8.heap.size w8 wx ∧ wx.cell? ⟨w5.heap.size, 0, none⟩ = some (Value.slice a1c3 n1c3 q1c3) ∧ wx.cell? ⟨w5.heap.size, 1, none⟩ = some (Value.slice a2c3 n2c3 q2c3) ∧ wx.cell? ⟨w5.heap.size, 2, none⟩ = some (Value.slice a3c3 n3c3 q3c3) ∧ wx.cell? ⟨w.heap.size, 0, none⟩ = some (v1aP) ∧ wx.cell? ⟨w.heap.size, 1, none⟩ = some (v2aP) ∧ wx.cell? ⟨w.heap.size, 2, none⟩ = some (v3aP))
    (first | exact KEEP.out _ (Below.refl _ _).drew | exact KEEP.out _ (below_size (And.left (by assumption)) (by assumption)))
    (first
      | ((go_at_call 27); (refine (l_toPresentation _ _ _ aP _ (HR.out.below (And.left (by assumption))) (by omega)).mono ?_); (rintro e wy ⟨yv1, yv2, yv3, rfl, hy, hb⟩))
      | ((go_at_call 22); (refine (l_eqPresentation _ _ _ _ _ _ aP _ (HX.out.below (And.left (by assumption))) hy.rd).mono ?_); (rintro e w9 ⟨rfl, hb2⟩)))
  have hb : Below w8.heap.size w8 w9 := And.left (by assumption)
  clear KEEP HR HX
  have hb0x := below_size hb0 hb
  clear hb0
  have hb0 := hb0x
  clear hb0x
  have s9 : w8.heap.size ≤ w9.heap.size := hb.size
  have t := (hb.cell (p := ⟨w.heap.size, 0, none⟩) (show w.heap.size < _ by omega)).trans m0aP
  clear m0aP
  have m0aP := t
  clear t
  have t := (hb.cell (p := ⟨w.heap.size, 1, none⟩) (show w.heap.size < _ by omega)).trans m1aP
  clear m1aP
  have m1aP := t
  clear t
  have t := (hb.cell (p := ⟨w.heap.size, 2, none⟩) (show w.heap.size < _ by omega)).trans m2aP
  clear m2aP
  have m2aP := t
  clear t
  have t := (hb.cell (p := ⟨w5.heap.size, 0, none⟩) (show w5.heap.size < _ by omega)).trans m0c3
  clear m0c3
  have m0c3 := t
  clear t
  have t := (hb.cell (p := ⟨w5.heap.size, 1, none⟩) (show w5.heap.size < _ by omega)).trans m1c3
  clear m1c3
  have m1c3 := t
  clear t
  have t := (hb.cell (p := ⟨w5.heap.size, 2, none⟩) (show w5.heap.size < _ by omega)).trans m2c3
  clear m2c3
  have m2c3 := t
  clear t
  have t := OP.below hc1 hb
  clear hc1
  have hc1 := t
  clear t
  have t := local_O2.below hc2 hb
  clear hc2
  have hc2 := t
  clear t
  have t := OP.below hc3 hb
  clear hc3
  have hc3 := t
  clear t
  have t := local_O2.below hc4 hb
  clear hc4
  have hc4 := t
  clear t
  clear hb
  go_wp2_with fail
  refine (l_toInt64SS _ aList _ ((HEaList.out.below hbx).below hb0) (by omega) (by omega)).mono ?_
  rintro e w10 ⟨vc5, rfl, hc5, hb⟩
  have hb0x := below_size hb0 hb
  clear hb0
  have hb0 := hb0x
  clear hb0x
  have s10 : w9.heap.size ≤ w10.heap.size := hb.size
  have t := (hb.cell (p := ⟨w.heap.size, 0, none⟩) (show w.heap.size < _ by omega)).trans m0aP
  clear m0aP
  have m0aP := t
  clear t
  have t := (hb.cell (p := ⟨w.heap.size, 1, none⟩) (show w.heap.size < _ by omega)).trans m1aP
  clear m1aP
  have m1aP := t
  clear t
  have t := (hb.cell (p := ⟨w.heap.size, 2, none⟩) (show w.heap.size < _ by omega)).trans m2aP
  clear m2aP
  have m2aP := t
  clear t
  have t := (hb.cell (p := ⟨w5.heap.size, 0, none⟩) (show w5.heap.size < _ by omega)).trans m0c3
  clear m0c3
  have m0c3 := t
  clear t
  have t := (hb.cell (p := ⟨w5.heap.size, 1, none⟩) (show w5.heap.size < _ by omega)).trans m1c3
  clear m1c3
  have m1c3 := t
  clear t
  have t := (hb.cell (p := ⟨w5.heap.size, 2, none⟩) (show w5.heap.size < _ by omega)).trans m2c3
  clear m2c3
  have m2c3 := t
  clear t
  have t := OP.below hc1 hb
  clear hc1
  have hc1 := t
  clear t
  have t := local_O2.below hc2 hb
  clear hc2
  have hc2 := t
  clear t
  have t := OP.below hc3 hb
  clear hc3
  have hc3 := t
  clear t
  have t := local_O2.below hc4 hb
  clear hc4
  have hc4 := t
  clear t
  clear hb
  go_wp2_with fail
  refine (l_eqInt64SS_same _ _ _ _ hc4.rd hc5.rd).mono ?_
  rintro e w11 ⟨rfl, hb⟩
  have hb0x := below_size hb0 hb
  clear hb0
  have hb0 := hb0x
  clear hb0x
  have s11 : w10.heap.size ≤ w11.heap.size := hb.size
  have t := (hb.cell (p := ⟨w.heap.size, 0, none⟩) (show w.heap.size < _ by omega)).trans m0aP
  clear m0aP
  have m0aP := t
  clear t
  have t := (hb.cell (p := ⟨w.heap.size, 1, none⟩) (show w.heap.size < _ by omega)).trans m1aP
  clear m1aP
  have m1aP := t
  clear t
  have t := (hb.cell (p := ⟨w.heap.size, 2, none⟩) (show w.heap.size < _ by omega)).trans m2aP
  clear m2aP
  have m2aP := t
  clear t
  have t := (hb.cell (p := ⟨w5.heap.size, 0, none⟩) (show w5.heap.size < _ by omega)).trans m0c3
  clear m0c3
  have m0c3 := t
  clear t
  have t := (hb.cell (p := ⟨w5.heap.size, 1, none⟩) (show w5.heap.size < _ by omega)).trans m1c3
  clear m1c3
  have m1c3 := t
  clear t
  have t := (hb.cell (p := ⟨w5.heap.size, 2, none⟩) (show w5.heap.size < _ by omega)).trans m2c3
  clear m2c3
  have m2c3 := t
  clear t
  have t := OP.below hc1 hb
  clear hc1
  have hc1 := t
  clear t
  have t := local_O2.below hc2 hb
  clear hc2
  have hc2 := t
  clear t
  have t := OP.below hc3 hb
  clear hc3
  have hc3 := t
  clear t
  have t := local_O2.below hc4 hb
  clear hc4
  have hc4 := t
  clear t
  have t := local_O2.below hc5 hb
  clear hc5
  have hc5 := t
  clear t
  clear hb
  clear hc5
  go_wp2_with fail
  go_ret
  exact ⟨rfl, hbx.trans (hb0.mono hbx.size)⟩

theorem own : ownKnob Try.prog.godebug = none := by kernel_rfl
theorem laidOut : laidOutB Try.prog = true := by kernel_rfl

set_option maxRecDepth 100000 in
theorem lifted (os : Os) (started : os.Started) (H : Type) (enc : TypeId × Value → H) :
    ReturnsInHanded {} Try.checked os 7 .any (Rows.fnExactIsRealisationSpec.pre6 enc Try.prog Try.f7 Rows.fnExactIsRealisationRow.domain false) (Rows.fnExactIsRealisationSpec.post enc Try.prog Try.f7 false true false false) := by
  refine returnsInHanded_of_change (C := Try.checked) own started (by kernel_rfl) Try.func7
    (ChangeSpec.witness6 (enc := enc) (C := Try.checked) false ⟨#[], #[.agg #[.slice none 0 0, .slice none 0 0, .slice none 0 0], .slice none 0 0], []⟩ 8 (by kernel_rfl) (by kernel_rfl) (by kernel_rfl) (by kernel_rfl)) ?_
  intro W base args ds gs before hval0 hW hcnd _
  have hval : ∀ (j : Nat) t v, Try.f7.params[j]? = some t → args[j]? = some v → Value.okWide Try.prog W .any base t v := hval0
  have hW' := hW
  obtain ⟨p, q, hA0, hV, rfl, hfz, hnd⟩ := hW
  have hA : DataW.TrodAll enc Try.prog W 0 (fun _ => true) true Try.f7.params.toList args.toList ds p := hA0
  rw [Try.params7] at hA hval
  obtain ⟨v0, vs0, d0, ds0, p0, q0, hargs, rfl, rfl, h0, r0⟩ := trodAll_cons hA
  obtain ⟨v1, vs1, d1, ds1, p1, q1, rfl, rfl, rfl, h1, r1⟩ := trodAll_cons r0
  obtain ⟨rfl, rfl, rfl⟩ := trodAll_nil r1
  obtain rfl : args = #[v0, v1] := by cases args; simp_all
  obtain ⟨rfl, rfl⟩ := trodVars_none hV
  have k0 := h0
  have lt0 : ∀ x ∈ p0, x.block < W.heap.size := by obtain ⟨m, hm⟩ := k0; exact DataW.trod_lt m _ _ _ hm
  obtain ⟨x10, x20, x30, xs0, rfl, f0⟩ := rdP_of (hval 0 38 v0 rfl rfl) h0
  obtain ⟨a1, len1, cap1, rfl⟩ := okWide_slice Try.underlying29 (hval 1 29 v1 rfl rfl)
  have k1 := h1
  have lt1 : ∀ x ∈ p1, x.block < W.heap.size := by obtain ⟨m, hm⟩ := k1; exact DataW.trod_lt m _ _ _ hm
  obtain ⟨xs1, f1⟩ := (by obtain ⟨fuel, hf⟩ := h1; exact rd2_of hf : ∃ xs, Rd2 W (.slice a1 len1 cap1) xs)
  clear hA0 hval0
  refine (core _ _ _ xs0 _ xs1 W f0 f1).mono fun e W' ⟨he, bel⟩ => ?_
  subst he
  exact ⟨_, rfl, _, _, _, [], _, [], hW', trodAll_mk1 (shut_bool Try.underlying4 _), (trodAll_cons_mk (Below.trod laidOut (by kernel_rfl) (of_decide_eq_true (by kernel_rfl)) k0 bel lt0) (trodAll_cons_mk (Below.trod laidOut (by kernel_rfl) (of_decide_eq_true (by kernel_rfl)) k1 bel lt1) trodAll_mk0)), rfl, bel.frame _, fun h => by cases h⟩

theorem and_i {a b : Bool} (ha : a = true) (hb : b = true) : (a && b) = true := by rw [ha, hb]; rfl
set_option maxHeartbeats 8000000 in
theorem closed : joinedFacts Try.pinned.checked.prog 7 Try.f7 Rows.fnExactIsRealisationSpec Rows.fnExactIsRealisationRow = true := by
  unfold joinedFacts
  repeat' with_reducible apply and_i
  all_goals as_aux_lemma => kernel_rfl

theorem over : Rows.fnExactIsRealisationRow.holds Try.pinned (OpenSpec.ofChange Rows.fnExactIsRealisationSpec) :=
  OpenClaim.holds_of_wide 7 Try.f7 rfl rfl rfl rfl rfl rfl rfl ⟨rfl, rfl, rfl, rfl, rfl⟩ rfl rfl rfl rfl rfl (by kernel_rfl) Try.func7 closed
    (of_decide_eq_true (by kernel_rfl)) (by unfold Func.isWrapper; first | (rw [if_pos (by decide +kernel)]; kernel_rfl) | (rw [if_neg (by decide +kernel)]; exact ⟨rfl, rfl⟩))
    (fun os started H enc _ => lifted os started H enc)

/-- The given statement. -/
theorem proved : Rows.FnExactIsRealisationSaid := over
#print axioms proved
end Go.Proofs.Ythnpndheaailjaa.fnExactIsRealisation
