/-
  The law FnExactCollectProduct: for every input the call returns true, and each argument reads behind the call as it read before. No condition.
-/
import Derived.Test.YtbhjbfgkohgiiaaOpen
import Derived.Test.YtbhjbfgkohgiiaaCpr
namespace Go.Proofs.Ytbhjbfgkohgiiaa.fnExactCollectProduct
set_option linter.unusedVariables false
set_option linter.unusedSimpArgs false
set_option maxRecDepth 100000
open Go.ChangeShapes Go.WideShapes Go.ChangeAt Go.RowKit
open Go.ChangeMaps (open_string shut_string)
set_option linter.unusedVariables false

set_option maxHeartbeats 8000000 in
set_option maxRecDepth 100000 in
theorem core (v1aP v2aP v3aP : Value) (aP : Pres) (vaA : Value) (aA : List Int) (vaB : Value) (aB : List Int) (aLimit : Int) (w : World) (haP : RdP w v1aP v2aP v3aP aP) (haA : Rd w vaA aA) (haB : Rd w vaB aB) (baLimit : -9223372036854775808 ≤ aLimit ∧ aLimit ≤ 9223372036854775807) :
    Calls Try.prog 7 #[.agg #[v1aP, v2aP, v3aP], vaA, vaB, .int .i64 aLimit] w (RetV w (.bool true)) := by
  obtain ⟨aoaA, capaA, eaA, c1aA, c2aA, _⟩ := id haA
  subst eaA
  obtain ⟨aoaB, capaB, eaB, c1aB, c2aB, _⟩ := id haB
  subst eaB
  have HEaP := Lib.hid haP
  clear haP
  have HEaA := Lib.hid haA
  clear haA
  have HEaB := Lib.hid haB
  clear haB
  by_cases gaA : 1048576 < aA.length
  ·
    have hbx : Below w.heap.size w (w.alloc (Obj.cells #[v1aP, v2aP, v3aP] 26)) := below_alloc w _
    have zaP : w.heap.size < ((w.alloc (Obj.cells #[v1aP, v2aP, v3aP] 26))).heap.size := by simp
    have M0aP : Hid (((w.alloc (Obj.cells #[v1aP, v2aP, v3aP] 26))).cell? ⟨w.heap.size, 0, none⟩ = some v1aP) := by show _ = _; simp [go_sem]
    have M1aP : Hid (((w.alloc (Obj.cells #[v1aP, v2aP, v3aP] 26))).cell? ⟨w.heap.size, 1, none⟩ = some v2aP) := by show _ = _; simp [go_sem]
    have M2aP : Hid (((w.alloc (Obj.cells #[v1aP, v2aP, v3aP] 26))).cell? ⟨w.heap.size, 2, none⟩ = some v3aP) := by show _ = _; simp [go_sem]
    go_enter Try.func7, Try.ntmps7
    go_wp2_with fail
    generalize (w.alloc (Obj.cells #[v1aP, v2aP, v3aP] 26)) = w0 at *
    have m0aP := M0aP.out
    have m1aP := M1aP.out
    have m2aP := M2aP.out
    have hb0 := Below.refl w0.heap.size w0
    go_wp2_with fail
    go_ret
    exact ⟨rfl, hbx.trans (hb0.mono hbx.size)⟩
  have laA : aA.length ≤ 1048576 := by omega
  have HGaA := Lib.hid gaA
  clear gaA
  by_cases gaB : 1048576 < aB.length
  ·
    have hbx : Below w.heap.size w (w.alloc (Obj.cells #[v1aP, v2aP, v3aP] 26)) := below_alloc w _
    have zaP : w.heap.size < ((w.alloc (Obj.cells #[v1aP, v2aP, v3aP] 26))).heap.size := by simp
    have M0aP : Hid (((w.alloc (Obj.cells #[v1aP, v2aP, v3aP] 26))).cell? ⟨w.heap.size, 0, none⟩ = some v1aP) := by show _ = _; simp [go_sem]
    have M1aP : Hid (((w.alloc (Obj.cells #[v1aP, v2aP, v3aP] 26))).cell? ⟨w.heap.size, 1, none⟩ = some v2aP) := by show _ = _; simp [go_sem]
    have M2aP : Hid (((w.alloc (Obj.cells #[v1aP, v2aP, v3aP] 26))).cell? ⟨w.heap.size, 2, none⟩ = some v3aP) := by show _ = _; simp [go_sem]
    go_enter Try.func7, Try.ntmps7
    go_wp2_with fail
    generalize (w.alloc (Obj.cells #[v1aP, v2aP, v3aP] 26)) = w0 at *
    have m0aP := M0aP.out
    have m1aP := M1aP.out
    have m2aP := M2aP.out
    have hb0 := Below.refl w0.heap.size w0
    go_wp2_with fail
    go_ret
    exact ⟨rfl, hbx.trans (hb0.mono hbx.size)⟩
  have laB : aB.length ≤ 1048576 := by omega
  have HGaB := Lib.hid gaB
  clear gaB
  by_cases gaP : ((psize aP : Nat) : Int) ≤ 1048576
  case neg =>
    have SNaP := Lib.hid (szI_out gaP)
    have hbx : Below w.heap.size w (w.alloc (Obj.cells #[v1aP, v2aP, v3aP] 26)) := below_alloc w _
    have zaP : w.heap.size < ((w.alloc (Obj.cells #[v1aP, v2aP, v3aP] 26))).heap.size := by simp
    have M0aP : Hid (((w.alloc (Obj.cells #[v1aP, v2aP, v3aP] 26))).cell? ⟨w.heap.size, 0, none⟩ = some v1aP) := by show _ = _; simp [go_sem]
    have M1aP : Hid (((w.alloc (Obj.cells #[v1aP, v2aP, v3aP] 26))).cell? ⟨w.heap.size, 1, none⟩ = some v2aP) := by show _ = _; simp [go_sem]
    have M2aP : Hid (((w.alloc (Obj.cells #[v1aP, v2aP, v3aP] 26))).cell? ⟨w.heap.size, 2, none⟩ = some v3aP) := by show _ = _; simp [go_sem]
    go_enter Try.func7, Try.ntmps7
    go_wp2_with fail
    generalize (w.alloc (Obj.cells #[v1aP, v2aP, v3aP] 26)) = w0 at *
    have m0aP := M0aP.out
    have m1aP := M1aP.out
    have m2aP := M2aP.out
    have hb0 := Below.refl w0.heap.size w0
    go_wp2_with fail
    refine (l_szPresentation _ _ _ aP _ _ ((HEaP.out.below hbx).below hb0) (by omega) (by omega)).mono ?_
    rintro e w1 ⟨rfl, hb⟩
    have hb0x := below_size hb0 hb
    clear hb0
    have hb0 := hb0x
    clear hb0x
    have s1 : w0.heap.size ≤ w1.heap.size := hb.size
    have t := (hb.cell (p := ⟨w.heap.size, 0, none⟩) (show w.heap.size < _ by omega)).trans m0aP
    clear m0aP
    have m0aP := t
    clear t
    have t := (hb.cell (p := ⟨w.heap.size, 1, none⟩) (show w.heap.size < _ by omega)).trans m1aP
    clear m1aP
    have m1aP := t
    clear t
    have t := (hb.cell (p := ⟨w.heap.size, 2, none⟩) (show w.heap.size < _ by omega)).trans m2aP
    clear m2aP
    have m2aP := t
    clear t
    clear hb
    rw [SNaP.out]
    go_wp2_with fail
    go_ret
    exact ⟨rfl, hbx.trans (hb0.mono hbx.size)⟩
  have SZaP := Lib.hid (szI_in gaP)
  have laP : psize aP ≤ 1048576 := by omega
  have hbx : Below w.heap.size w (w.alloc (Obj.cells #[v1aP, v2aP, v3aP] 26)) := below_alloc w _
  have zaP : w.heap.size < ((w.alloc (Obj.cells #[v1aP, v2aP, v3aP] 26))).heap.size := by simp
  have M0aP : Hid (((w.alloc (Obj.cells #[v1aP, v2aP, v3aP] 26))).cell? ⟨w.heap.size, 0, none⟩ = some v1aP) := by show _ = _; simp [go_sem]
  have M1aP : Hid (((w.alloc (Obj.cells #[v1aP, v2aP, v3aP] 26))).cell? ⟨w.heap.size, 1, none⟩ = some v2aP) := by show _ = _; simp [go_sem]
  have M2aP : Hid (((w.alloc (Obj.cells #[v1aP, v2aP, v3aP] 26))).cell? ⟨w.heap.size, 2, none⟩ = some v3aP) := by show _ = _; simp [go_sem]
  go_enter Try.func7, Try.ntmps7
  go_wp2_with fail
  generalize (w.alloc (Obj.cells #[v1aP, v2aP, v3aP] 26)) = w0 at *
  have m0aP := M0aP.out
  have m1aP := M1aP.out
  have m2aP := M2aP.out
  have hb0 := Below.refl w0.heap.size w0
  go_wp2_with fail
  refine (l_szPresentation _ _ _ aP _ _ ((HEaP.out.below hbx).below hb0) (by omega) (by omega)).mono ?_
  rintro e w1 ⟨rfl, hb⟩
  have hb0x := below_size hb0 hb
  clear hb0
  have hb0 := hb0x
  clear hb0x
  have s1 : w0.heap.size ≤ w1.heap.size := hb.size
  have t := (hb.cell (p := ⟨w.heap.size, 0, none⟩) (show w.heap.size < _ by omega)).trans m0aP
  clear m0aP
  have m0aP := t
  clear t
  have t := (hb.cell (p := ⟨w.heap.size, 1, none⟩) (show w.heap.size < _ by omega)).trans m1aP
  clear m1aP
  have m1aP := t
  clear t
  have t := (hb.cell (p := ⟨w.heap.size, 2, none⟩) (show w.heap.size < _ by omega)).trans m2aP
  clear m2aP
  have m2aP := t
  clear t
  clear hb
  rw [SZaP.out]
  go_wp2_with fail
  refine (l_toPresentation _ _ _ aP _ ((HEaP.out.below hbx).below hb0) (by omega)).mono ?_
  rintro e w2 ⟨v1c1, v2c1, v3c1, rfl, hc1, hb⟩
  have hb0x := below_size hb0 hb
  clear hb0
  have hb0 := hb0x
  clear hb0x
  have s2 : w1.heap.size ≤ w2.heap.size := hb.size
  have t := (hb.cell (p := ⟨w.heap.size, 0, none⟩) (show w.heap.size < _ by omega)).trans m0aP
  clear m0aP
  have m0aP := t
  clear t
  have t := (hb.cell (p := ⟨w.heap.size, 1, none⟩) (show w.heap.size < _ by omega)).trans m1aP
  clear m1aP
  have m1aP := t
  clear t
  have t := (hb.cell (p := ⟨w.heap.size, 2, none⟩) (show w.heap.size < _ by omega)).trans m2aP
  clear m2aP
  have m2aP := t
  clear t
  clear hb
  go_wp2_with fail
  refine (l_toInt64S _ aA _ ((HEaA.out.below hbx).below hb0) (by omega)).mono ?_
  rintro e w3 ⟨vc2, rfl, hc2x, hb⟩
  have hc2 := hc2x.o1
  clear hc2x
  have hb0x := below_size hb0 hb
  clear hb0
  have hb0 := hb0x
  clear hb0x
  have s3 : w2.heap.size ≤ w3.heap.size := hb.size
  have t := (hb.cell (p := ⟨w.heap.size, 0, none⟩) (show w.heap.size < _ by omega)).trans m0aP
  clear m0aP
  have m0aP := t
  clear t
  have t := (hb.cell (p := ⟨w.heap.size, 1, none⟩) (show w.heap.size < _ by omega)).trans m1aP
  clear m1aP
  have m1aP := t
  clear t
  have t := (hb.cell (p := ⟨w.heap.size, 2, none⟩) (show w.heap.size < _ by omega)).trans m2aP
  clear m2aP
  have m2aP := t
  clear t
  have t := OP.below hc1 hb
  clear hc1
  have hc1 := t
  clear t
  clear hb
  go_wp2_with fail
  refine (l_toInt64S _ aB _ ((HEaB.out.below hbx).below hb0) (by omega)).mono ?_
  rintro e w4 ⟨vc3, rfl, hc3x, hb⟩
  have hc3 := hc3x.o1
  clear hc3x
  have hb0x := below_size hb0 hb
  clear hb0
  have hb0 := hb0x
  clear hb0x
  have s4 : w3.heap.size ≤ w4.heap.size := hb.size
  have t := (hb.cell (p := ⟨w.heap.size, 0, none⟩) (show w.heap.size < _ by omega)).trans m0aP
  clear m0aP
  have m0aP := t
  clear t
  have t := (hb.cell (p := ⟨w.heap.size, 1, none⟩) (show w.heap.size < _ by omega)).trans m1aP
  clear m1aP
  have m1aP := t
  clear t
  have t := (hb.cell (p := ⟨w.heap.size, 2, none⟩) (show w.heap.size < _ by omega)).trans m2aP
  clear m2aP
  have m2aP := t
  clear t
  have t := OP.below hc1 hb
  clear hc1
  have hc1 := t
  clear t
  have t := local_O1.below hc2 hb
  clear hc2
  have hc2 := t
  clear t
  clear hb
  go_wp2_with fail
  refine (s_CollectProduct _ _ _ _ _ _ _ _ _ _ hc1.rd hc2.rd hc3.rd baLimit).mono ?_
  rintro e w5 ⟨vw0, rfl, hw0x, hb⟩
  have hw0 := hw0x.o1
  clear hw0x
  have hb0x := below_size hb0 hb
  clear hb0
  have hb0 := hb0x
  clear hb0x
  have s5 : w4.heap.size ≤ w5.heap.size := hb.size
  have t := (hb.cell (p := ⟨w.heap.size, 0, none⟩) (show w.heap.size < _ by omega)).trans m0aP
  clear m0aP
  have m0aP := t
  clear t
  have t := (hb.cell (p := ⟨w.heap.size, 1, none⟩) (show w.heap.size < _ by omega)).trans m1aP
  clear m1aP
  have m1aP := t
  clear t
  have t := (hb.cell (p := ⟨w.heap.size, 2, none⟩) (show w.heap.size < _ by omega)).trans m2aP
  clear m2aP
  have m2aP := t
  clear t
  have t := OP.below hc1 hb
  clear hc1
  have hc1 := t
  clear t
  have t := local_O1.below hc2 hb
  clear hc2
  have hc2 := t
  clear t
  have t := local_O1.below hc3 hb
  clear hc3
  have hc3 := t
  clear t
  clear hb
  obtain ⟨aw0, qw0, rfl, _, _⟩ := hw0.rd.form
  go_wp2_with fail
  refine (l_toPresentation _ _ _ aP _ ((HEaP.out.below hbx).below hb0) (by omega)).mono ?_
  rintro e w6 ⟨v1c4, v2c4, v3c4, rfl, hc4, hb⟩
  have hb0x := below_size hb0 hb
  clear hb0
  have hb0 := hb0x
  clear hb0x
  have s6 : w5.heap.size ≤ w6.heap.size := hb.size
  have t := (hb.cell (p := ⟨w.heap.size, 0, none⟩) (show w.heap.size < _ by omega)).trans m0aP
  clear m0aP
  have m0aP := t
  clear t
  have t := (hb.cell (p := ⟨w.heap.size, 1, none⟩) (show w.heap.size < _ by omega)).trans m1aP
  clear m1aP
  have m1aP := t
  clear t
  have t := (hb.cell (p := ⟨w.heap.size, 2, none⟩) (show w.heap.size < _ by omega)).trans m2aP
  clear m2aP
  have m2aP := t
  clear t
  have t := OP.below hc1 hb
  clear hc1
  have hc1 := t
  clear t
  have t := local_O1.below hc2 hb
  clear hc2
  have hc2 := t
  clear t
  have t := local_O1.below hc3 hb
  clear hc3
  have hc3 := t
  clear t
  have t := local_O1.below hw0 hb
  clear hw0
  have hw0 := t
  clear t
  clear hb
  obtain ⟨a1c4, n1c4, q1c4, a2c4, n2c4, q2c4, a3c4, n3c4, q3c4, rfl, rfl, rfl⟩ := hc4.formsE
  have llc4 : psize aP ≤ 1000000000 := by omega
  have yaP : w.heap.size < w6.heap.size := by omega
  go_wp2_with fail
  clear yaP
  have hb := below_alloc w6 (Obj.cells #[Value.slice a1c4 n1c4 q1c4, Value.slice a2c4 n2c4 q2c4, Value.slice a3c4 n3c4 q3c4] 28)
  have zc4 : w6.heap.size < (w6.alloc (Obj.cells #[Value.slice a1c4 n1c4 q1c4, Value.slice a2c4 n2c4 q2c4, Value.slice a3c4 n3c4 q3c4] 28)).heap.size := by simp
  have M0c4 : Hid ((w6.alloc (Obj.cells #[Value.slice a1c4 n1c4 q1c4, Value.slice a2c4 n2c4 q2c4, Value.slice a3c4 n3c4 q3c4] 28)).cell? ⟨w6.heap.size, 0, none⟩ = some (Value.slice a1c4 n1c4 q1c4)) := by show _ = _; simp [go_sem]
  have M1c4 : Hid ((w6.alloc (Obj.cells #[Value.slice a1c4 n1c4 q1c4, Value.slice a2c4 n2c4 q2c4, Value.slice a3c4 n3c4 q3c4] 28)).cell? ⟨w6.heap.size, 1, none⟩ = some (Value.slice a2c4 n2c4 q2c4)) := by show _ = _; simp [go_sem]
  have M2c4 : Hid ((w6.alloc (Obj.cells #[Value.slice a1c4 n1c4 q1c4, Value.slice a2c4 n2c4 q2c4, Value.slice a3c4 n3c4 q3c4] 28)).cell? ⟨w6.heap.size, 2, none⟩ = some (Value.slice a3c4 n3c4 q3c4)) := by show _ = _; simp [go_sem]
  generalize (w6.alloc (Obj.cells #[Value.slice a1c4 n1c4 q1c4, Value.slice a2c4 n2c4 q2c4, Value.slice a3c4 n3c4 q3c4] 28)) = w7 at *
  have hb0x := below_size hb0 hb
  clear hb0
  have hb0 := hb0x
  clear hb0x
  have s7 : w6.heap.size ≤ w7.heap.size := hb.size
  have t := (hb.cell (p := ⟨w.heap.size, 0, none⟩) (show w.heap.size < _ by omega)).trans m0aP
  clear m0aP
  have m0aP := t
  clear t
  have t := (hb.cell (p := ⟨w.heap.size, 1, none⟩) (show w.heap.size < _ by omega)).trans m1aP
  clear m1aP
  have m1aP := t
  clear t
  have t := (hb.cell (p := ⟨w.heap.size, 2, none⟩) (show w.heap.size < _ by omega)).trans m2aP
  clear m2aP
  have m2aP := t
  clear t
  have t := OP.below hc1 hb
  clear hc1
  have hc1 := t
  clear t
  have t := local_O1.below hc2 hb
  clear hc2
  have hc2 := t
  clear t
  have t := local_O1.below hc3 hb
  clear hc3
  have hc3 := t
  clear t
  have t := local_O1.below hw0 hb
  clear hw0
  have hw0 := t
  clear t
  have t := OP.below hc4 hb
  clear hc4
  have hc4 := t
  clear t
  clear hb
  have m0c4 := M0c4.out
  have m1c4 := M1c4.out
  have m2c4 := M2c4.out
  refine (l_toInt64S _ aA _ ((HEaA.out.below hbx).below hb0) (by omega)).mono ?_
  rintro e w8 ⟨vc5, rfl, hc5x, hb⟩
  have hc5 := hc5x.o1
  clear hc5x
  have hb0x := below_size hb0 hb
  clear hb0
  have hb0 := hb0x
  clear hb0x
  have s8 : w7.heap.size ≤ w8.heap.size := hb.size
  have t := (hb.cell (p := ⟨w.heap.size, 0, none⟩) (show w.heap.size < _ by omega)).trans m0aP
  clear m0aP
  have m0aP := t
  clear t
  have t := (hb.cell (p := ⟨w.heap.size, 1, none⟩) (show w.heap.size < _ by omega)).trans m1aP
  clear m1aP
  have m1aP := t
  clear t
  have t := (hb.cell (p := ⟨w.heap.size, 2, none⟩) (show w.heap.size < _ by omega)).trans m2aP
  clear m2aP
  have m2aP := t
  clear t
  have t := (hb.cell (p := ⟨w6.heap.size, 0, none⟩) (show w6.heap.size < _ by omega)).trans m0c4
  clear m0c4
  have m0c4 := t
  clear t
  have t := (hb.cell (p := ⟨w6.heap.size, 1, none⟩) (show w6.heap.size < _ by omega)).trans m1c4
  clear m1c4
  have m1c4 := t
  clear t
  have t := (hb.cell (p := ⟨w6.heap.size, 2, none⟩) (show w6.heap.size < _ by omega)).trans m2c4
  clear m2c4
  have m2c4 := t
  clear t
  have t := OP.below hc1 hb
  clear hc1
  have hc1 := t
  clear t
  have t := local_O1.below hc2 hb
  clear hc2
  have hc2 := t
  clear t
  have t := local_O1.below hc3 hb
  clear hc3
  have hc3 := t
  clear t
  have t := local_O1.below hw0 hb
  clear hw0
  have hw0 := t
  clear t
  have t := OP.below hc4 hb
  clear hc4
  have hc4 := t
  clear t
  clear hb
  have llc5 : aA.length ≤ 1000000000 := by omega
  go_wp2_with fail
  refine (l_toInt64S _ aB _ ((HEaB.out.below hbx).below hb0) (by omega)).mono ?_
  rintro e w9 ⟨vc6, rfl, hc6x, hb⟩
  have hc6 := hc6x.o1
  clear hc6x
  have hb0x := below_size hb0 hb
  clear hb0
  have hb0 := hb0x
  clear hb0x
  have s9 : w8.heap.size ≤ w9.heap.size := hb.size
  have t := (hb.cell (p := ⟨w.heap.size, 0, none⟩) (show w.heap.size < _ by omega)).trans m0aP
  clear m0aP
  have m0aP := t
  clear t
  have t := (hb.cell (p := ⟨w.heap.size, 1, none⟩) (show w.heap.size < _ by omega)).trans m1aP
  clear m1aP
  have m1aP := t
  clear t
  have t := (hb.cell (p := ⟨w.heap.size, 2, none⟩) (show w.heap.size < _ by omega)).trans m2aP
  clear m2aP
  have m2aP := t
  clear t
  have t := (hb.cell (p := ⟨w6.heap.size, 0, none⟩) (show w6.heap.size < _ by omega)).trans m0c4
  clear m0c4
  have m0c4 := t
  clear t
  have t := (hb.cell (p := ⟨w6.heap.size, 1, none⟩) (show w6.heap.size < _ by omega)).trans m1c4
  clear m1c4
  have m1c4 := t
  clear t
  have t := (hb.cell (p := ⟨w6.heap.size, 2, none⟩) (show w6.heap.size < _ by omega)).trans m2c4
  clear m2c4
  have m2c4 := t
  clear t
  have t := OP.below hc1 hb
  clear hc1
  have hc1 := t
  clear t
  have t := local_O1.below hc2 hb
  clear hc2
  have hc2 := t
  clear t
  have t := local_O1.below hc3 hb
  clear hc3
  have hc3 := t
  clear t
  have t := local_O1.below hw0 hb
  clear hw0
  have hw0 := t
  clear t
  have t := OP.below hc4 hb
  clear hc4
  have hc4 := t
  clear t
  have t := local_O1.below hc5 hb
  clear hc5
  have hc5 := t
  clear t
  clear hb
  have llc6 : aB.length ≤ 1000000000 := by omega
  go_wp2_with fail
  refine (i_CollectProduct _ _ _ _ _ _ _ _ _ _ hc4.rd hc5.rd hc6.rd baLimit).mono ?_
  rintro e w10 ⟨vg0, rfl, hg0x, hb⟩
  have hg0 := hg0x.o1
  clear hg0x
  have hb0x := below_size hb0 hb
  clear hb0
  have hb0 := hb0x
  clear hb0x
  have s10 : w9.heap.size ≤ w10.heap.size := hb.size
  have t := (hb.cell (p := ⟨w.heap.size, 0, none⟩) (show w.heap.size < _ by omega)).trans m0aP
  clear m0aP
  have m0aP := t
  clear t
  have t := (hb.cell (p := ⟨w.heap.size, 1, none⟩) (show w.heap.size < _ by omega)).trans m1aP
  clear m1aP
  have m1aP := t
  clear t
  have t := (hb.cell (p := ⟨w.heap.size, 2, none⟩) (show w.heap.size < _ by omega)).trans m2aP
  clear m2aP
  have m2aP := t
  clear t
  have t := (hb.cell (p := ⟨w6.heap.size, 0, none⟩) (show w6.heap.size < _ by omega)).trans m0c4
  clear m0c4
  have m0c4 := t
  clear t
  have t := (hb.cell (p := ⟨w6.heap.size, 1, none⟩) (show w6.heap.size < _ by omega)).trans m1c4
  clear m1c4
  have m1c4 := t
  clear t
  have t := (hb.cell (p := ⟨w6.heap.size, 2, none⟩) (show w6.heap.size < _ by omega)).trans m2c4
  clear m2c4
  have m2c4 := t
  clear t
  have t := OP.below hc1 hb
  clear hc1
  have hc1 := t
  clear t
  have t := local_O1.below hc2 hb
  clear hc2
  have hc2 := t
  clear t
  have t := local_O1.below hc3 hb
  clear hc3
  have hc3 := t
  clear t
  have t := local_O1.below hw0 hb
  clear hw0
  have hw0 := t
  clear t
  have t := OP.below hc4 hb
  clear hc4
  have hc4 := t
  clear t
  have t := local_O1.below hc5 hb
  clear hc5
  have hc5 := t
  clear t
  have t := local_O1.below hc6 hb
  clear hc6
  have hc6 := t
  clear t
  clear hb
  have llg0 : _ ≤ 1000000000 := len_CollectProduct aP aA aB aLimit
  obtain ⟨ag0, qg0, rfl, _, _⟩ := hg0.rd.form
  go_wp2_with fail
  refine (l_eqInt64S_same _ _ _ _ hg0.rd hw0.rd).mono ?_
  rintro e w11 ⟨rfl, hb⟩
  have hb0x := below_size hb0 hb
  clear hb0
  have hb0 := hb0x
  clear hb0x
  have s11 : w10.heap.size ≤ w11.heap.size := hb.size
  have t := (hb.cell (p := ⟨w.heap.size, 0, none⟩) (show w.heap.size < _ by omega)).trans m0aP
  clear m0aP
  have m0aP := t
  clear t
  have t := (hb.cell (p := ⟨w.heap.size, 1, none⟩) (show w.heap.size < _ by omega)).trans m1aP
  clear m1aP
  have m1aP := t
  clear t
  have t := (hb.cell (p := ⟨w.heap.size, 2, none⟩) (show w.heap.size < _ by omega)).trans m2aP
  clear m2aP
  have m2aP := t
  clear t
  have t := (hb.cell (p := ⟨w6.heap.size, 0, none⟩) (show w6.heap.size < _ by omega)).trans m0c4
  clear m0c4
  have m0c4 := t
  clear t
  have t := (hb.cell (p := ⟨w6.heap.size, 1, none⟩) (show w6.heap.size < _ by omega)).trans m1c4
  clear m1c4
  have m1c4 := t
  clear t
  have t := (hb.cell (p := ⟨w6.heap.size, 2, none⟩) (show w6.heap.size < _ by omega)).trans m2c4
  clear m2c4
  have m2c4 := t
  clear t
  have t := OP.below hc1 hb
  clear hc1
  have hc1 := t
  clear t
  have t := local_O1.below hc2 hb
  clear hc2
  have hc2 := t
  clear t
  have t := local_O1.below hc3 hb
  clear hc3
  have hc3 := t
  clear t
  have t := local_O1.below hw0 hb
  clear hw0
  have hw0 := t
  clear t
  have t := OP.below hc4 hb
  clear hc4
  have hc4 := t
  clear t
  have t := local_O1.below hc5 hb
  clear hc5
  have hc5 := t
  clear t
  have t := local_O1.below hc6 hb
  clear hc6
  have hc6 := t
  clear t
  have t := local_O1.below hg0 hb
  clear hg0
  have hg0 := t
  clear t
  clear hb
  go_wp2_with fail
  have HR := Lib.hid ((HEaP.out.below hbx).below hb0)
  have HX := Lib.hid hc4.rd
  have lt0 : w6.heap.size < w11.heap.size := by omega
  have lt3 : w.heap.size < w11.heap.size := by omega
  have KEEP : Hid (∀ wx, Below w11.heap.size w11 wx → Below w11.heap.size w11 wx ∧ wx.cell? ⟨w6.heap.size, 0, none⟩ = some (Value.slice a1c4 n1c4 q1c4) ∧ wx.cell? ⟨w6.heap.size, 1, none⟩ = some (Value.slice a2c4 n2c4 q2c4) ∧ wx.cell? ⟨w6.heap.size, 2, none⟩ = some (Value.slice a3c4 n3c4 q3c4) ∧ wx.cell? ⟨w.heap.size, 0, none⟩ = some (v1aP) ∧ wx.cell? ⟨w.heap.size, 1, none⟩ = some (v2aP) ∧ wx.cell? ⟨w.heap.size, 2, none⟩ = some (v3aP)) := fun wx hb => ⟨hb, ((hb).cell (p := ⟨w6.heap.size, 0, none⟩) (by omega)).trans m0c4, ((hb).cell (p := ⟨w6.heap.size, 1, none⟩) (by omega)).trans m1c4, ((hb).cell (p := ⟨w6.heap.size, 2, none⟩) (by omega)).trans m2c4, ((hb).cell (p := ⟨w.heap.size, 0, none⟩) (by omega)).trans m0aP, ((hb).cell (p := ⟨w.heap.size, 1, none⟩) (by omega)).trans m1aP, ((hb).cell (p := ⟨w.heap.size, 2, none⟩) (by omega)).trans m2aP⟩
  go_region_held3 (fun wx => Below w11.heap.size w11 wx ∧ wx.cell? ⟨w6.heap.size, 0, none⟩ = some (Value.slice a1c4 n1c4 q1c4) ∧ wx.cell? ⟨w6.heap.size, 1, none⟩ = some (Value.slice a2c4 n2c4 q2c4) ∧ wx.cell? ⟨w6.heap.size, 2, none⟩ = some (Value.slice a3c4 n3c4 q3c4) ∧ wx.cell? ⟨w.heap.size, 0, none⟩ = some (v1aP) ∧ wx.cell? ⟨w.heap.size, 1, none⟩ = some (v2aP) ∧ wx.cell? ⟨w.heap.size, 2, none⟩ = some (v3aP))
    (first | exact KEEP.out _ (Below.refl _ _).drew | exact KEEP.out _ (below_size (And.left (by assumption)) (by assumption)))
    (first
      | ((go_at_call 17); (refine (l_toPresentation _ _ _ aP _ (HR.out.below (And.left (by assumption))) (by omega)).mono ?_); (rintro e wy ⟨yv1, yv2, yv3, rfl, hy, hb⟩))
      | ((go_at_call 19); (refine (l_eqPresentation _ _ _ _ _ _ aP _ (HX.out.below (And.left (by assumption))) hy.rd).mono ?_); (rintro e w12 ⟨rfl, hb2⟩)))
  have hb : Below w11.heap.size w11 w12 := And.left (by assumption)
  clear KEEP HR HX
  have hb0x := below_size hb0 hb
  clear hb0
  have hb0 := hb0x
  clear hb0x
  have s12 : w11.heap.size ≤ w12.heap.size := hb.size
  have t := (hb.cell (p := ⟨w.heap.size, 0, none⟩) (show w.heap.size < _ by omega)).trans m0aP
  clear m0aP
  have m0aP := t
  clear t
  have t := (hb.cell (p := ⟨w.heap.size, 1, none⟩) (show w.heap.size < _ by omega)).trans m1aP
  clear m1aP
  have m1aP := t
  clear t
  have t := (hb.cell (p := ⟨w.heap.size, 2, none⟩) (show w.heap.size < _ by omega)).trans m2aP
  clear m2aP
  have m2aP := t
  clear t
  have t := (hb.cell (p := ⟨w6.heap.size, 0, none⟩) (show w6.heap.size < _ by omega)).trans m0c4
  clear m0c4
  have m0c4 := t
  clear t
  have t := (hb.cell (p := ⟨w6.heap.size, 1, none⟩) (show w6.heap.size < _ by omega)).trans m1c4
  clear m1c4
  have m1c4 := t
  clear t
  have t := (hb.cell (p := ⟨w6.heap.size, 2, none⟩) (show w6.heap.size < _ by omega)).trans m2c4
  clear m2c4
  have m2c4 := t
  clear t
  have t := OP.below hc1 hb
  clear hc1
  have hc1 := t
  clear t
  have t := local_O1.below hc2 hb
  clear hc2
  have hc2 := t
  clear t
  have t := local_O1.below hc3 hb
  clear hc3
  have hc3 := t
  clear t
  have t := local_O1.below hw0 hb
  clear hw0
  have hw0 := t
  clear t
  have t := OP.below hc4 hb
  clear hc4
  have hc4 := t
  clear t
  have t := local_O1.below hc5 hb
  clear hc5
  have hc5 := t
  clear t
  have t := local_O1.below hc6 hb
  clear hc6
  have hc6 := t
  clear t
  have t := local_O1.below hg0 hb
  clear hg0
  have hg0 := t
  clear t
  clear hb
  go_wp2_with fail
  refine (l_toInt64S _ aA _ ((HEaA.out.below hbx).below hb0) (by omega)).mono ?_
  rintro e w13 ⟨vc7, rfl, hc7x, hb⟩
  have hc7 := hc7x.o1
  clear hc7x
  have hb0x := below_size hb0 hb
  clear hb0
  have hb0 := hb0x
  clear hb0x
  have s13 : w12.heap.size ≤ w13.heap.size := hb.size
  have t := (hb.cell (p := ⟨w.heap.size, 0, none⟩) (show w.heap.size < _ by omega)).trans m0aP
  clear m0aP
  have m0aP := t
  clear t
  have t := (hb.cell (p := ⟨w.heap.size, 1, none⟩) (show w.heap.size < _ by omega)).trans m1aP
  clear m1aP
  have m1aP := t
  clear t
  have t := (hb.cell (p := ⟨w.heap.size, 2, none⟩) (show w.heap.size < _ by omega)).trans m2aP
  clear m2aP
  have m2aP := t
  clear t
  have t := (hb.cell (p := ⟨w6.heap.size, 0, none⟩) (show w6.heap.size < _ by omega)).trans m0c4
  clear m0c4
  have m0c4 := t
  clear t
  have t := (hb.cell (p := ⟨w6.heap.size, 1, none⟩) (show w6.heap.size < _ by omega)).trans m1c4
  clear m1c4
  have m1c4 := t
  clear t
  have t := (hb.cell (p := ⟨w6.heap.size, 2, none⟩) (show w6.heap.size < _ by omega)).trans m2c4
  clear m2c4
  have m2c4 := t
  clear t
  have t := OP.below hc1 hb
  clear hc1
  have hc1 := t
  clear t
  have t := local_O1.below hc2 hb
  clear hc2
  have hc2 := t
  clear t
  have t := local_O1.below hc3 hb
  clear hc3
  have hc3 := t
  clear t
  have t := local_O1.below hw0 hb
  clear hw0
  have hw0 := t
  clear t
  have t := OP.below hc4 hb
  clear hc4
  have hc4 := t
  clear t
  have t := local_O1.below hc5 hb
  clear hc5
  have hc5 := t
  clear t
  have t := local_O1.below hc6 hb
  clear hc6
  have hc6 := t
  clear t
  have t := local_O1.below hg0 hb
  clear hg0
  have hg0 := t
  clear t
  clear hb
  go_wp2_with fail
  refine (l_eqInt64S_same _ _ _ _ hc5.rd hc7.rd).mono ?_
  rintro e w14 ⟨rfl, hb⟩
  have hb0x := below_size hb0 hb
  clear hb0
  have hb0 := hb0x
  clear hb0x
  have s14 : w13.heap.size ≤ w14.heap.size := hb.size
  have t := (hb.cell (p := ⟨w.heap.size, 0, none⟩) (show w.heap.size < _ by omega)).trans m0aP
  clear m0aP
  have m0aP := t
  clear t
  have t := (hb.cell (p := ⟨w.heap.size, 1, none⟩) (show w.heap.size < _ by omega)).trans m1aP
  clear m1aP
  have m1aP := t
  clear t
  have t := (hb.cell (p := ⟨w.heap.size, 2, none⟩) (show w.heap.size < _ by omega)).trans m2aP
  clear m2aP
  have m2aP := t
  clear t
  have t := (hb.cell (p := ⟨w6.heap.size, 0, none⟩) (show w6.heap.size < _ by omega)).trans m0c4
  clear m0c4
  have m0c4 := t
  clear t
  have t := (hb.cell (p := ⟨w6.heap.size, 1, none⟩) (show w6.heap.size < _ by omega)).trans m1c4
  clear m1c4
  have m1c4 := t
  clear t
  have t := (hb.cell (p := ⟨w6.heap.size, 2, none⟩) (show w6.heap.size < _ by omega)).trans m2c4
  clear m2c4
  have m2c4 := t
  clear t
  have t := OP.below hc1 hb
  clear hc1
  have hc1 := t
  clear t
  have t := local_O1.below hc2 hb
  clear hc2
  have hc2 := t
  clear t
  have t := local_O1.below hc3 hb
  clear hc3
  have hc3 := t
  clear t
  have t := local_O1.below hw0 hb
  clear hw0
  have hw0 := t
  clear t
  have t := OP.below hc4 hb
  clear hc4
  have hc4 := t
  clear t
  have t := local_O1.below hc5 hb
  clear hc5
  have hc5 := t
  clear t
  have t := local_O1.below hc6 hb
  clear hc6
  have hc6 := t
  clear t
  have t := local_O1.below hg0 hb
  clear hg0
  have hg0 := t
  clear t
  have t := local_O1.below hc7 hb
  clear hc7
  have hc7 := t
  clear t
  clear hb
  clear hc7
  go_wp2_with fail
  refine (l_toInt64S _ aB _ ((HEaB.out.below hbx).below hb0) (by omega)).mono ?_
  rintro e w15 ⟨vc8, rfl, hc8x, hb⟩
  have hc8 := hc8x.o1
  clear hc8x
  have hb0x := below_size hb0 hb
  clear hb0
  have hb0 := hb0x
  clear hb0x
  have s15 : w14.heap.size ≤ w15.heap.size := hb.size
  have t := (hb.cell (p := ⟨w.heap.size, 0, none⟩) (show w.heap.size < _ by omega)).trans m0aP
  clear m0aP
  have m0aP := t
  clear t
  have t := (hb.cell (p := ⟨w.heap.size, 1, none⟩) (show w.heap.size < _ by omega)).trans m1aP
  clear m1aP
  have m1aP := t
  clear t
  have t := (hb.cell (p := ⟨w.heap.size, 2, none⟩) (show w.heap.size < _ by omega)).trans m2aP
  clear m2aP
  have m2aP := t
  clear t
  have t := (hb.cell (p := ⟨w6.heap.size, 0, none⟩) (show w6.heap.size < _ by omega)).trans m0c4
  clear m0c4
  have m0c4 := t
  clear t
  have t := (hb.cell (p := ⟨w6.heap.size, 1, none⟩) (show w6.heap.size < _ by omega)).trans m1c4
  clear m1c4
  have m1c4 := t
  clear t
  have t := (hb.cell (p := ⟨w6.heap.size, 2, none⟩) (show w6.heap.size < _ by omega)).trans m2c4
  clear m2c4
  have m2c4 := t
  clear t
  have t := OP.below hc1 hb
  clear hc1
  have hc1 := t
  clear t
  have t := local_O1.below hc2 hb
  clear hc2
  have hc2 := t
  clear t
  have t := local_O1.below hc3 hb
  clear hc3
  have hc3 := t
  clear t
  have t := local_O1.below hw0 hb
  clear hw0
  have hw0 := t
  clear t
  have t := OP.below hc4 hb
  clear hc4
  have hc4 := t
  clear t
  have t := local_O1.below hc5 hb
  clear hc5
  have hc5 := t
  clear t
  have t := local_O1.below hc6 hb
  clear hc6
  have hc6 := t
  clear t
  have t := local_O1.below hg0 hb
  clear hg0
  have hg0 := t
  clear t
  clear hb
  go_wp2_with fail
  refine (l_eqInt64S_same _ _ _ _ hc6.rd hc8.rd).mono ?_
  rintro e w16 ⟨rfl, hb⟩
  have hb0x := below_size hb0 hb
  clear hb0
  have hb0 := hb0x
  clear hb0x
  have s16 : w15.heap.size ≤ w16.heap.size := hb.size
  have t := (hb.cell (p := ⟨w.heap.size, 0, none⟩) (show w.heap.size < _ by omega)).trans m0aP
  clear m0aP
  have m0aP := t
  clear t
  have t := (hb.cell (p := ⟨w.heap.size, 1, none⟩) (show w.heap.size < _ by omega)).trans m1aP
  clear m1aP
  have m1aP := t
  clear t
  have t := (hb.cell (p := ⟨w.heap.size, 2, none⟩) (show w.heap.size < _ by omega)).trans m2aP
  clear m2aP
  have m2aP := t
  clear t
  have t := (hb.cell (p := ⟨w6.heap.size, 0, none⟩) (show w6.heap.size < _ by omega)).trans m0c4
  clear m0c4
  have m0c4 := t
  clear t
  have t := (hb.cell (p := ⟨w6.heap.size, 1, none⟩) (show w6.heap.size < _ by omega)).trans m1c4
  clear m1c4
  have m1c4 := t
  clear t
  have t := (hb.cell (p := ⟨w6.heap.size, 2, none⟩) (show w6.heap.size < _ by omega)).trans m2c4
  clear m2c4
  have m2c4 := t
  clear t
  have t := OP.below hc1 hb
  clear hc1
  have hc1 := t
  clear t
  have t := local_O1.below hc2 hb
  clear hc2
  have hc2 := t
  clear t
  have t := local_O1.below hc3 hb
  clear hc3
  have hc3 := t
  clear t
  have t := local_O1.below hw0 hb
  clear hw0
  have hw0 := t
  clear t
  have t := OP.below hc4 hb
  clear hc4
  have hc4 := t
  clear t
  have t := local_O1.below hc5 hb
  clear hc5
  have hc5 := t
  clear t
  have t := local_O1.below hc6 hb
  clear hc6
  have hc6 := t
  clear t
  have t := local_O1.below hg0 hb
  clear hg0
  have hg0 := t
  clear t
  have t := local_O1.below hc8 hb
  clear hc8
  have hc8 := t
  clear t
  clear hb
  clear hc8
  go_wp2_with fail
  have pcc4 := (psize_le llc4).2.2.2.2.2.2
  refine (l_markPresentation _ _ _ _ _ _ _ hc4 (by omega) (by omega) llc4).mono ?_
  rintro e w17 ⟨rfl, hnc4, hg⟩
  clear hc4
  have hc4 := hnc4
  clear hnc4
  have s17 : w16.heap.size ≤ w17.heap.size := hg.size
  have t := hb0.trans (hg.below (B := w0.heap.size) (fun k hk => by have := hk.1; omega) (by omega))
  clear hb0
  have hb0 := t
  clear t
  have t := ((hg.at (b := w.heap.size) (by omega) (fun hk => by have := hk.1; have := hk.2; omega)).1 0).trans m0aP
  clear m0aP
  have m0aP := t
  clear t
  have t := ((hg.at (b := w.heap.size) (by omega) (fun hk => by have := hk.1; have := hk.2; omega)).1 1).trans m1aP
  clear m1aP
  have m1aP := t
  clear t
  have t := ((hg.at (b := w.heap.size) (by omega) (fun hk => by have := hk.1; have := hk.2; omega)).1 2).trans m2aP
  clear m2aP
  have m2aP := t
  clear t
  have t := ((hg.at (b := w6.heap.size) (by omega) (fun hk => by have := hk.1; have := hk.2; omega)).1 0).trans m0c4
  clear m0c4
  have m0c4 := t
  clear t
  have t := ((hg.at (b := w6.heap.size) (by omega) (fun hk => by have := hk.1; have := hk.2; omega)).1 1).trans m1c4
  clear m1c4
  have m1c4 := t
  clear t
  have t := ((hg.at (b := w6.heap.size) (by omega) (fun hk => by have := hk.1; have := hk.2; omega)).1 2).trans m2c4
  clear m2c4
  have m2c4 := t
  clear t
  have t := OP.chg hc1 hg (fun k hk hk2 => by have := hk.1; have := hk.2; have := hk2.1; have := hk2.2; omega)
  clear hc1
  have hc1 := t
  clear t
  have t := local_O1.chg hc2 hg (fun k hk hk2 => by have := hk.1; have := hk.2; have := hk2.1; have := hk2.2; omega)
  clear hc2
  have hc2 := t
  clear t
  have t := local_O1.chg hc3 hg (fun k hk hk2 => by have := hk.1; have := hk.2; have := hk2.1; have := hk2.2; omega)
  clear hc3
  have hc3 := t
  clear t
  have t := local_O1.chg hw0 hg (fun k hk hk2 => by have := hk.1; have := hk.2; have := hk2.1; have := hk2.2; omega)
  clear hw0
  have hw0 := t
  clear t
  have t := local_O1.chg hc5 hg (fun k hk hk2 => by have := hk.1; have := hk.2; have := hk2.1; have := hk2.2; omega)
  clear hc5
  have hc5 := t
  clear t
  have t := local_O1.chg hc6 hg (fun k hk hk2 => by have := hk.1; have := hk.2; have := hk2.1; have := hk2.2; omega)
  clear hc6
  have hc6 := t
  clear t
  have t := local_O1.chg hg0 hg (fun k hk hk2 => by have := hk.1; have := hk.2; have := hk2.1; have := hk2.2; omega)
  clear hg0
  have hg0 := t
  clear t
  clear hg
  go_wp2_with fail
  refine (l_markO1 _ _ _ _ _ hc5 (by omega) (by omega) llc5).mono ?_
  rintro e w18 ⟨rfl, hnc5, hg, hsz⟩
  clear hsz
  clear hc5
  have hc5 := hnc5
  clear hnc5
  have s18 : w17.heap.size ≤ w18.heap.size := hg.size
  have t := hb0.trans (hg.below (B := w0.heap.size) (fun k hk => by have := hk.1; omega) (by omega))
  clear hb0
  have hb0 := t
  clear t
  have t := ((hg.at (b := w.heap.size) (by omega) (fun hk => by have := hk.1; have := hk.2; omega)).1 0).trans m0aP
  clear m0aP
  have m0aP := t
  clear t
  have t := ((hg.at (b := w.heap.size) (by omega) (fun hk => by have := hk.1; have := hk.2; omega)).1 1).trans m1aP
  clear m1aP
  have m1aP := t
  clear t
  have t := ((hg.at (b := w.heap.size) (by omega) (fun hk => by have := hk.1; have := hk.2; omega)).1 2).trans m2aP
  clear m2aP
  have m2aP := t
  clear t
  have t := ((hg.at (b := w6.heap.size) (by omega) (fun hk => by have := hk.1; have := hk.2; omega)).1 0).trans m0c4
  clear m0c4
  have m0c4 := t
  clear t
  have t := ((hg.at (b := w6.heap.size) (by omega) (fun hk => by have := hk.1; have := hk.2; omega)).1 1).trans m1c4
  clear m1c4
  have m1c4 := t
  clear t
  have t := ((hg.at (b := w6.heap.size) (by omega) (fun hk => by have := hk.1; have := hk.2; omega)).1 2).trans m2c4
  clear m2c4
  have m2c4 := t
  clear t
  have t := OP.chg hc1 hg (fun k hk hk2 => by have := hk.1; have := hk.2; have := hk2.1; have := hk2.2; omega)
  clear hc1
  have hc1 := t
  clear t
  have t := local_O1.chg hc2 hg (fun k hk hk2 => by have := hk.1; have := hk.2; have := hk2.1; have := hk2.2; omega)
  clear hc2
  have hc2 := t
  clear t
  have t := local_O1.chg hc3 hg (fun k hk hk2 => by have := hk.1; have := hk.2; have := hk2.1; have := hk2.2; omega)
  clear hc3
  have hc3 := t
  clear t
  have t := local_O1.chg hw0 hg (fun k hk hk2 => by have := hk.1; have := hk.2; have := hk2.1; have := hk2.2; omega)
  clear hw0
  have hw0 := t
  clear t
  have t := OP.chg hc4 hg (fun k hk hk2 => by have := hk.1; have := hk.2; have := hk2.1; have := hk2.2; omega)
  clear hc4
  have hc4 := t
  clear t
  have t := local_O1.chg hc6 hg (fun k hk hk2 => by have := hk.1; have := hk.2; have := hk2.1; have := hk2.2; omega)
  clear hc6
  have hc6 := t
  clear t
  have t := local_O1.chg hg0 hg (fun k hk hk2 => by have := hk.1; have := hk.2; have := hk2.1; have := hk2.2; omega)
  clear hg0
  have hg0 := t
  clear t
  clear hg
  go_wp2_with fail
  refine (l_markO1 _ _ _ _ _ hc6 (by omega) (by omega) llc6).mono ?_
  rintro e w19 ⟨rfl, hnc6, hg, hsz⟩
  clear hsz
  clear hc6
  have hc6 := hnc6
  clear hnc6
  have s19 : w18.heap.size ≤ w19.heap.size := hg.size
  have t := hb0.trans (hg.below (B := w0.heap.size) (fun k hk => by have := hk.1; omega) (by omega))
  clear hb0
  have hb0 := t
  clear t
  have t := ((hg.at (b := w.heap.size) (by omega) (fun hk => by have := hk.1; have := hk.2; omega)).1 0).trans m0aP
  clear m0aP
  have m0aP := t
  clear t
  have t := ((hg.at (b := w.heap.size) (by omega) (fun hk => by have := hk.1; have := hk.2; omega)).1 1).trans m1aP
  clear m1aP
  have m1aP := t
  clear t
  have t := ((hg.at (b := w.heap.size) (by omega) (fun hk => by have := hk.1; have := hk.2; omega)).1 2).trans m2aP
  clear m2aP
  have m2aP := t
  clear t
  have t := ((hg.at (b := w6.heap.size) (by omega) (fun hk => by have := hk.1; have := hk.2; omega)).1 0).trans m0c4
  clear m0c4
  have m0c4 := t
  clear t
  have t := ((hg.at (b := w6.heap.size) (by omega) (fun hk => by have := hk.1; have := hk.2; omega)).1 1).trans m1c4
  clear m1c4
  have m1c4 := t
  clear t
  have t := ((hg.at (b := w6.heap.size) (by omega) (fun hk => by have := hk.1; have := hk.2; omega)).1 2).trans m2c4
  clear m2c4
  have m2c4 := t
  clear t
  have t := OP.chg hc1 hg (fun k hk hk2 => by have := hk.1; have := hk.2; have := hk2.1; have := hk2.2; omega)
  clear hc1
  have hc1 := t
  clear t
  have t := local_O1.chg hc2 hg (fun k hk hk2 => by have := hk.1; have := hk.2; have := hk2.1; have := hk2.2; omega)
  clear hc2
  have hc2 := t
  clear t
  have t := local_O1.chg hc3 hg (fun k hk hk2 => by have := hk.1; have := hk.2; have := hk2.1; have := hk2.2; omega)
  clear hc3
  have hc3 := t
  clear t
  have t := local_O1.chg hw0 hg (fun k hk hk2 => by have := hk.1; have := hk.2; have := hk2.1; have := hk2.2; omega)
  clear hw0
  have hw0 := t
  clear t
  have t := OP.chg hc4 hg (fun k hk hk2 => by have := hk.1; have := hk.2; have := hk2.1; have := hk2.2; omega)
  clear hc4
  have hc4 := t
  clear t
  have t := local_O1.chg hc5 hg (fun k hk hk2 => by have := hk.1; have := hk.2; have := hk2.1; have := hk2.2; omega)
  clear hc5
  have hc5 := t
  clear t
  have t := local_O1.chg hg0 hg (fun k hk hk2 => by have := hk.1; have := hk.2; have := hk2.1; have := hk2.2; omega)
  clear hg0
  have hg0 := t
  clear t
  clear hg
  go_wp2_with fail
  refine (l_eqInt64S_same _ _ _ _ hg0.rd hw0.rd).mono ?_
  rintro e w20 ⟨rfl, hb⟩
  have hb0x := below_size hb0 hb
  clear hb0
  have hb0 := hb0x
  clear hb0x
  have s20 : w19.heap.size ≤ w20.heap.size := hb.size
  have t := (hb.cell (p := ⟨w.heap.size, 0, none⟩) (show w.heap.size < _ by omega)).trans m0aP
  clear m0aP
  have m0aP := t
  clear t
  have t := (hb.cell (p := ⟨w.heap.size, 1, none⟩) (show w.heap.size < _ by omega)).trans m1aP
  clear m1aP
  have m1aP := t
  clear t
  have t := (hb.cell (p := ⟨w.heap.size, 2, none⟩) (show w.heap.size < _ by omega)).trans m2aP
  clear m2aP
  have m2aP := t
  clear t
  have t := (hb.cell (p := ⟨w6.heap.size, 0, none⟩) (show w6.heap.size < _ by omega)).trans m0c4
  clear m0c4
  have m0c4 := t
  clear t
  have t := (hb.cell (p := ⟨w6.heap.size, 1, none⟩) (show w6.heap.size < _ by omega)).trans m1c4
  clear m1c4
  have m1c4 := t
  clear t
  have t := (hb.cell (p := ⟨w6.heap.size, 2, none⟩) (show w6.heap.size < _ by omega)).trans m2c4
  clear m2c4
  have m2c4 := t
  clear t
  have t := OP.below hc1 hb
  clear hc1
  have hc1 := t
  clear t
  have t := local_O1.below hc2 hb
  clear hc2
  have hc2 := t
  clear t
  have t := local_O1.below hc3 hb
  clear hc3
  have hc3 := t
  clear t
  have t := local_O1.below hw0 hb
  clear hw0
  have hw0 := t
  clear t
  have t := OP.below hc4 hb
  clear hc4
  have hc4 := t
  clear t
  have t := local_O1.below hc5 hb
  clear hc5
  have hc5 := t
  clear t
  have t := local_O1.below hc6 hb
  clear hc6
  have hc6 := t
  clear t
  have t := local_O1.below hg0 hb
  clear hg0
  have hg0 := t
  clear t
  clear hb
  go_wp2_with fail
  refine (l_markO1 _ _ _ _ _ hg0 (by omega) (by omega) llg0).mono ?_
  rintro e w21 ⟨rfl, hng0, hg, hsz⟩
  clear hsz
  clear hg0
  have hg0 := hng0
  clear hng0
  have s21 : w20.heap.size ≤ w21.heap.size := hg.size
  have t := hb0.trans (hg.below (B := w0.heap.size) (fun k hk => by have := hk.1; omega) (by omega))
  clear hb0
  have hb0 := t
  clear t
  have t := ((hg.at (b := w.heap.size) (by omega) (fun hk => by have := hk.1; have := hk.2; omega)).1 0).trans m0aP
  clear m0aP
  have m0aP := t
  clear t
  have t := ((hg.at (b := w.heap.size) (by omega) (fun hk => by have := hk.1; have := hk.2; omega)).1 1).trans m1aP
  clear m1aP
  have m1aP := t
  clear t
  have t := ((hg.at (b := w.heap.size) (by omega) (fun hk => by have := hk.1; have := hk.2; omega)).1 2).trans m2aP
  clear m2aP
  have m2aP := t
  clear t
  have t := ((hg.at (b := w6.heap.size) (by omega) (fun hk => by have := hk.1; have := hk.2; omega)).1 0).trans m0c4
  clear m0c4
  have m0c4 := t
  clear t
  have t := ((hg.at (b := w6.heap.size) (by omega) (fun hk => by have := hk.1; have := hk.2; omega)).1 1).trans m1c4
  clear m1c4
  have m1c4 := t
  clear t
  have t := ((hg.at (b := w6.heap.size) (by omega) (fun hk => by have := hk.1; have := hk.2; omega)).1 2).trans m2c4
  clear m2c4
  have m2c4 := t
  clear t
  have t := OP.chg hc1 hg (fun k hk hk2 => by have := hk.1; have := hk.2; have := hk2.1; have := hk2.2; omega)
  clear hc1
  have hc1 := t
  clear t
  have t := local_O1.chg hc2 hg (fun k hk hk2 => by have := hk.1; have := hk.2; have := hk2.1; have := hk2.2; omega)
  clear hc2
  have hc2 := t
  clear t
  have t := local_O1.chg hc3 hg (fun k hk hk2 => by have := hk.1; have := hk.2; have := hk2.1; have := hk2.2; omega)
  clear hc3
  have hc3 := t
  clear t
  have t := local_O1.chg hw0 hg (fun k hk hk2 => by have := hk.1; have := hk.2; have := hk2.1; have := hk2.2; omega)
  clear hw0
  have hw0 := t
  clear t
  have t := OP.chg hc4 hg (fun k hk hk2 => by have := hk.1; have := hk.2; have := hk2.1; have := hk2.2; omega)
  clear hc4
  have hc4 := t
  clear t
  have t := local_O1.chg hc5 hg (fun k hk hk2 => by have := hk.1; have := hk.2; have := hk2.1; have := hk2.2; omega)
  clear hc5
  have hc5 := t
  clear t
  have t := local_O1.chg hc6 hg (fun k hk hk2 => by have := hk.1; have := hk.2; have := hk2.1; have := hk2.2; omega)
  clear hc6
  have hc6 := t
  clear t
  clear hg
  go_wp2_with fail
  refine (l_heldInt64S _ _ _ _ hg0.rd (by omega) (by omega) llg0).mono ?_
  rintro e w' ⟨rfl, rfl⟩
  go_wp2_with fail
  refine (l_toPresentation _ _ _ aP _ ((HEaP.out.below hbx).below hb0) (by omega)).mono ?_
  rintro e w22 ⟨v1c9, v2c9, v3c9, rfl, hc9, hb⟩
  have hb0x := below_size hb0 hb
  clear hb0
  have hb0 := hb0x
  clear hb0x
  have s22 : w21.heap.size ≤ w22.heap.size := hb.size
  have t := (hb.cell (p := ⟨w.heap.size, 0, none⟩) (show w.heap.size < _ by omega)).trans m0aP
  clear m0aP
  have m0aP := t
  clear t
  have t := (hb.cell (p := ⟨w.heap.size, 1, none⟩) (show w.heap.size < _ by omega)).trans m1aP
  clear m1aP
  have m1aP := t
  clear t
  have t := (hb.cell (p := ⟨w.heap.size, 2, none⟩) (show w.heap.size < _ by omega)).trans m2aP
  clear m2aP
  have m2aP := t
  clear t
  have t := (hb.cell (p := ⟨w6.heap.size, 0, none⟩) (show w6.heap.size < _ by omega)).trans m0c4
  clear m0c4
  have m0c4 := t
  clear t
  have t := (hb.cell (p := ⟨w6.heap.size, 1, none⟩) (show w6.heap.size < _ by omega)).trans m1c4
  clear m1c4
  have m1c4 := t
  clear t
  have t := (hb.cell (p := ⟨w6.heap.size, 2, none⟩) (show w6.heap.size < _ by omega)).trans m2c4
  clear m2c4
  have m2c4 := t
  clear t
  have t := OP.below hc1 hb
  clear hc1
  have hc1 := t
  clear t
  have t := local_O1.below hc2 hb
  clear hc2
  have hc2 := t
  clear t
  have t := local_O1.below hc3 hb
  clear hc3
  have hc3 := t
  clear t
  have t := local_O1.below hw0 hb
  clear hw0
  have hw0 := t
  clear t
  have t := OP.below hc4 hb
  clear hc4
  have hc4 := t
  clear t
  have t := local_O1.below hc5 hb
  clear hc5
  have hc5 := t
  clear t
  have t := local_O1.below hc6 hb
  clear hc6
  have hc6 := t
  clear t
  have t := local_O1.below hg0 hb
  clear hg0
  have hg0 := t
  clear t
  clear hb
  go_wp2_with fail
  refine (l_toInt64S _ aA _ ((HEaA.out.below hbx).below hb0) (by omega)).mono ?_
  rintro e w23 ⟨vc10, rfl, hc10x, hb⟩
  have hc10 := hc10x.o1
  clear hc10x
  have hb0x := below_size hb0 hb
  clear hb0
  have hb0 := hb0x
  clear hb0x
  have s23 : w22.heap.size ≤ w23.heap.size := hb.size
  have t := (hb.cell (p := ⟨w.heap.size, 0, none⟩) (show w.heap.size < _ by omega)).trans m0aP
  clear m0aP
  have m0aP := t
  clear t
  have t := (hb.cell (p := ⟨w.heap.size, 1, none⟩) (show w.heap.size < _ by omega)).trans m1aP
  clear m1aP
  have m1aP := t
  clear t
  have t := (hb.cell (p := ⟨w.heap.size, 2, none⟩) (show w.heap.size < _ by omega)).trans m2aP
  clear m2aP
  have m2aP := t
  clear t
  have t := (hb.cell (p := ⟨w6.heap.size, 0, none⟩) (show w6.heap.size < _ by omega)).trans m0c4
  clear m0c4
  have m0c4 := t
  clear t
  have t := (hb.cell (p := ⟨w6.heap.size, 1, none⟩) (show w6.heap.size < _ by omega)).trans m1c4
  clear m1c4
  have m1c4 := t
  clear t
  have t := (hb.cell (p := ⟨w6.heap.size, 2, none⟩) (show w6.heap.size < _ by omega)).trans m2c4
  clear m2c4
  have m2c4 := t
  clear t
  have t := OP.below hc1 hb
  clear hc1
  have hc1 := t
  clear t
  have t := local_O1.below hc2 hb
  clear hc2
  have hc2 := t
  clear t
  have t := local_O1.below hc3 hb
  clear hc3
  have hc3 := t
  clear t
  have t := local_O1.below hw0 hb
  clear hw0
  have hw0 := t
  clear t
  have t := OP.below hc4 hb
  clear hc4
  have hc4 := t
  clear t
  have t := local_O1.below hc5 hb
  clear hc5
  have hc5 := t
  clear t
  have t := local_O1.below hc6 hb
  clear hc6
  have hc6 := t
  clear t
  have t := local_O1.below hg0 hb
  clear hg0
  have hg0 := t
  clear t
  have t := OP.below hc9 hb
  clear hc9
  have hc9 := t
  clear t
  clear hb
  go_wp2_with fail
  refine (l_toInt64S _ aB _ ((HEaB.out.below hbx).below hb0) (by omega)).mono ?_
  rintro e w24 ⟨vc11, rfl, hc11x, hb⟩
  have hc11 := hc11x.o1
  clear hc11x
  have hb0x := below_size hb0 hb
  clear hb0
  have hb0 := hb0x
  clear hb0x
  have s24 : w23.heap.size ≤ w24.heap.size := hb.size
  have t := (hb.cell (p := ⟨w.heap.size, 0, none⟩) (show w.heap.size < _ by omega)).trans m0aP
  clear m0aP
  have m0aP := t
  clear t
  have t := (hb.cell (p := ⟨w.heap.size, 1, none⟩) (show w.heap.size < _ by omega)).trans m1aP
  clear m1aP
  have m1aP := t
  clear t
  have t := (hb.cell (p := ⟨w.heap.size, 2, none⟩) (show w.heap.size < _ by omega)).trans m2aP
  clear m2aP
  have m2aP := t
  clear t
  have t := (hb.cell (p := ⟨w6.heap.size, 0, none⟩) (show w6.heap.size < _ by omega)).trans m0c4
  clear m0c4
  have m0c4 := t
  clear t
  have t := (hb.cell (p := ⟨w6.heap.size, 1, none⟩) (show w6.heap.size < _ by omega)).trans m1c4
  clear m1c4
  have m1c4 := t
  clear t
  have t := (hb.cell (p := ⟨w6.heap.size, 2, none⟩) (show w6.heap.size < _ by omega)).trans m2c4
  clear m2c4
  have m2c4 := t
  clear t
  have t := OP.below hc1 hb
  clear hc1
  have hc1 := t
  clear t
  have t := local_O1.below hc2 hb
  clear hc2
  have hc2 := t
  clear t
  have t := local_O1.below hc3 hb
  clear hc3
  have hc3 := t
  clear t
  have t := local_O1.below hw0 hb
  clear hw0
  have hw0 := t
  clear t
  have t := OP.below hc4 hb
  clear hc4
  have hc4 := t
  clear t
  have t := local_O1.below hc5 hb
  clear hc5
  have hc5 := t
  clear t
  have t := local_O1.below hc6 hb
  clear hc6
  have hc6 := t
  clear t
  have t := local_O1.below hg0 hb
  clear hg0
  have hg0 := t
  clear t
  have t := OP.below hc9 hb
  clear hc9
  have hc9 := t
  clear t
  have t := local_O1.below hc10 hb
  clear hc10
  have hc10 := t
  clear t
  clear hb
  go_wp2_with fail
  refine (i_CollectProduct _ _ _ _ _ _ _ _ _ _ hc9.rd hc10.rd hc11.rd baLimit).mono ?_
  rintro e w25 ⟨vh0, rfl, hh0x, hb⟩
  have hh0 := hh0x.o1
  clear hh0x
  have hb0x := below_size hb0 hb
  clear hb0
  have hb0 := hb0x
  clear hb0x
  have s25 : w24.heap.size ≤ w25.heap.size := hb.size
  have t := (hb.cell (p := ⟨w.heap.size, 0, none⟩) (show w.heap.size < _ by omega)).trans m0aP
  clear m0aP
  have m0aP := t
  clear t
  have t := (hb.cell (p := ⟨w.heap.size, 1, none⟩) (show w.heap.size < _ by omega)).trans m1aP
  clear m1aP
  have m1aP := t
  clear t
  have t := (hb.cell (p := ⟨w.heap.size, 2, none⟩) (show w.heap.size < _ by omega)).trans m2aP
  clear m2aP
  have m2aP := t
  clear t
  have t := (hb.cell (p := ⟨w6.heap.size, 0, none⟩) (show w6.heap.size < _ by omega)).trans m0c4
  clear m0c4
  have m0c4 := t
  clear t
  have t := (hb.cell (p := ⟨w6.heap.size, 1, none⟩) (show w6.heap.size < _ by omega)).trans m1c4
  clear m1c4
  have m1c4 := t
  clear t
  have t := (hb.cell (p := ⟨w6.heap.size, 2, none⟩) (show w6.heap.size < _ by omega)).trans m2c4
  clear m2c4
  have m2c4 := t
  clear t
  have t := OP.below hc1 hb
  clear hc1
  have hc1 := t
  clear t
  have t := local_O1.below hc2 hb
  clear hc2
  have hc2 := t
  clear t
  have t := local_O1.below hc3 hb
  clear hc3
  have hc3 := t
  clear t
  have t := local_O1.below hw0 hb
  clear hw0
  have hw0 := t
  clear t
  have t := OP.below hc4 hb
  clear hc4
  have hc4 := t
  clear t
  have t := local_O1.below hc5 hb
  clear hc5
  have hc5 := t
  clear t
  have t := local_O1.below hc6 hb
  clear hc6
  have hc6 := t
  clear t
  have t := local_O1.below hg0 hb
  clear hg0
  have hg0 := t
  clear t
  have t := OP.below hc9 hb
  clear hc9
  have hc9 := t
  clear t
  have t := local_O1.below hc10 hb
  clear hc10
  have hc10 := t
  clear t
  have t := local_O1.below hc11 hb
  clear hc11
  have hc11 := t
  clear t
  clear hb
  have llh0 : _ ≤ 1000000000 := len_CollectProduct aP aA aB aLimit
  obtain ⟨ah0, qh0, rfl, _, _⟩ := hh0.rd.form
  go_wp2_with fail
  refine (l_eqInt64S_same _ _ _ _ hh0.rd hw0.rd).mono ?_
  rintro e w26 ⟨rfl, hb⟩
  have hb0x := below_size hb0 hb
  clear hb0
  have hb0 := hb0x
  clear hb0x
  have s26 : w25.heap.size ≤ w26.heap.size := hb.size
  have t := (hb.cell (p := ⟨w.heap.size, 0, none⟩) (show w.heap.size < _ by omega)).trans m0aP
  clear m0aP
  have m0aP := t
  clear t
  have t := (hb.cell (p := ⟨w.heap.size, 1, none⟩) (show w.heap.size < _ by omega)).trans m1aP
  clear m1aP
  have m1aP := t
  clear t
  have t := (hb.cell (p := ⟨w.heap.size, 2, none⟩) (show w.heap.size < _ by omega)).trans m2aP
  clear m2aP
  have m2aP := t
  clear t
  have t := (hb.cell (p := ⟨w6.heap.size, 0, none⟩) (show w6.heap.size < _ by omega)).trans m0c4
  clear m0c4
  have m0c4 := t
  clear t
  have t := (hb.cell (p := ⟨w6.heap.size, 1, none⟩) (show w6.heap.size < _ by omega)).trans m1c4
  clear m1c4
  have m1c4 := t
  clear t
  have t := (hb.cell (p := ⟨w6.heap.size, 2, none⟩) (show w6.heap.size < _ by omega)).trans m2c4
  clear m2c4
  have m2c4 := t
  clear t
  have t := OP.below hc1 hb
  clear hc1
  have hc1 := t
  clear t
  have t := local_O1.below hc2 hb
  clear hc2
  have hc2 := t
  clear t
  have t := local_O1.below hc3 hb
  clear hc3
  have hc3 := t
  clear t
  have t := local_O1.below hw0 hb
  clear hw0
  have hw0 := t
  clear t
  have t := OP.below hc4 hb
  clear hc4
  have hc4 := t
  clear t
  have t := local_O1.below hc5 hb
  clear hc5
  have hc5 := t
  clear t
  have t := local_O1.below hc6 hb
  clear hc6
  have hc6 := t
  clear t
  have t := local_O1.below hg0 hb
  clear hg0
  have hg0 := t
  clear t
  have t := OP.below hc9 hb
  clear hc9
  have hc9 := t
  clear t
  have t := local_O1.below hc10 hb
  clear hc10
  have hc10 := t
  clear t
  have t := local_O1.below hc11 hb
  clear hc11
  have hc11 := t
  clear t
  have t := local_O1.below hh0 hb
  clear hh0
  have hh0 := t
  clear t
  clear hb
  go_wp2_with fail
  refine (l_heldInt64S _ _ _ _ hg0.rd (by omega) (by omega) llg0).mono ?_
  rintro e w' ⟨rfl, rfl⟩
  go_wp2_with fail
  go_ret
  exact ⟨rfl, hbx.trans (hb0.mono hbx.size)⟩

theorem own : ownKnob Try.prog.godebug = none := by kernel_rfl
theorem laidOut : laidOutB Try.prog = true := by kernel_rfl

set_option maxRecDepth 100000 in
theorem lifted (os : Os) (started : os.Started) (H : Type) (enc : TypeId × Value → H) :
    ReturnsInHanded {} Try.checked os 7 .any (Rows.fnExactCollectProductSpec.pre6 enc Try.prog Try.f7 Rows.fnExactCollectProductRow.domain false) (Rows.fnExactCollectProductSpec.post enc Try.prog Try.f7 false true false false) := by
  refine returnsInHanded_of_change (C := Try.checked) own started (by kernel_rfl) Try.func7
    (ChangeSpec.witness6 (enc := enc) (C := Try.checked) false ⟨#[], #[.agg #[.slice none 0 0, .slice none 0 0, .slice none 0 0], .slice none 0 0, .slice none 0 0, .int .i64 0], []⟩ 8 (by kernel_rfl) (by kernel_rfl) (by kernel_rfl) (by kernel_rfl)) ?_
  intro W base args ds gs before hval0 hW hcnd _
  have hval : ∀ (j : Nat) t v, Try.f7.params[j]? = some t → args[j]? = some v → Value.okWide Try.prog W .any base t v := hval0
  have hW' := hW
  obtain ⟨p, q, hA0, hV, rfl, hfz, hnd⟩ := hW
  have hA : DataW.TrodAll enc Try.prog W 0 (fun _ => true) true Try.f7.params.toList args.toList ds p := hA0
  rw [Try.params7] at hA hval
  obtain ⟨v0, vs0, d0, ds0, p0, q0, hargs, rfl, rfl, h0, r0⟩ := trodAll_cons hA
  obtain ⟨v1, vs1, d1, ds1, p1, q1, rfl, rfl, rfl, h1, r1⟩ := trodAll_cons r0
  obtain ⟨v2, vs2, d2, ds2, p2, q2, rfl, rfl, rfl, h2, r2⟩ := trodAll_cons r1
  obtain ⟨v3, vs3, d3, ds3, p3, q3, rfl, rfl, rfl, h3, r3⟩ := trodAll_cons r2
  obtain ⟨rfl, rfl, rfl⟩ := trodAll_nil r3
  obtain rfl : args = #[v0, v1, v2, v3] := by cases args; simp_all
  obtain ⟨rfl, rfl⟩ := trodVars_none hV
  have k0 := h0
  have lt0 : ∀ x ∈ p0, x.block < W.heap.size := by obtain ⟨m, hm⟩ := k0; exact DataW.trod_lt m _ _ _ hm
  obtain ⟨x10, x20, x30, xs0, rfl, f0⟩ := rdP_of (hval 0 26 v0 rfl rfl) h0
  obtain ⟨a1, len1, cap1, rfl⟩ := okWide_slice Try.underlying22 (hval 1 22 v1 rfl rfl)
  have k1 := h1
  have lt1 : ∀ x ∈ p1, x.block < W.heap.size := by obtain ⟨m, hm⟩ := k1; exact DataW.trod_lt m _ _ _ hm
  obtain ⟨xs1, f1⟩ := (by obtain ⟨fuel, hf⟩ := h1; exact rd1_of hf : ∃ xs, Rd W (.slice a1 len1 cap1) xs)
  obtain ⟨a2, len2, cap2, rfl⟩ := okWide_slice Try.underlying22 (hval 2 22 v2 rfl rfl)
  have k2 := h2
  have lt2 : ∀ x ∈ p2, x.block < W.heap.size := by obtain ⟨m, hm⟩ := k2; exact DataW.trod_lt m _ _ _ hm
  obtain ⟨xs2, f2⟩ := (by obtain ⟨fuel, hf⟩ := h2; exact rd1_of hf : ∃ xs, Rd W (.slice a2 len2 cap2) xs)
  obtain ⟨a3, rfl, rfl, rfl, f3⟩ := open_int Try.underlying2 (hval 3 2 v3 rfl rfl) h3
  clear hA0 hval0
  refine (core _ _ _ xs0 _ xs1 _ xs2 a3 W f0 f1 f2 (wf_bd f3)).mono fun e W' ⟨he, bel⟩ => ?_
  subst he
  exact ⟨_, rfl, _, _, _, [], _, [], hW', trodAll_mk1 (shut_bool Try.underlying4 _), (trodAll_cons_mk (Below.trod laidOut (by kernel_rfl) (of_decide_eq_true (by kernel_rfl)) k0 bel lt0) (trodAll_cons_mk (Below.trod laidOut (by kernel_rfl) (of_decide_eq_true (by kernel_rfl)) k1 bel lt1) (trodAll_cons_mk (Below.trod laidOut (by kernel_rfl) (of_decide_eq_true (by kernel_rfl)) k2 bel lt2) (trodAll_cons_mk (shut_int Try.underlying2 f3) trodAll_mk0)))), rfl, bel.frame _, fun h => by cases h⟩

theorem and_i {a b : Bool} (ha : a = true) (hb : b = true) : (a && b) = true := by rw [ha, hb]; rfl
set_option maxHeartbeats 8000000 in
theorem closed : joinedFacts Try.pinned.checked.prog 7 Try.f7 Rows.fnExactCollectProductSpec Rows.fnExactCollectProductRow = true := by
  unfold joinedFacts
  repeat' with_reducible apply and_i
  all_goals as_aux_lemma => kernel_rfl

theorem over : Rows.fnExactCollectProductRow.holds Try.pinned (OpenSpec.ofChange Rows.fnExactCollectProductSpec) :=
  OpenClaim.holds_of_wide 7 Try.f7 rfl rfl rfl rfl rfl rfl rfl ⟨rfl, rfl, rfl, rfl, rfl⟩ rfl rfl rfl rfl rfl (by kernel_rfl) Try.func7 closed
    (of_decide_eq_true (by kernel_rfl)) (by unfold Func.isWrapper; first | (rw [if_pos (by decide +kernel)]; kernel_rfl) | (rw [if_neg (by decide +kernel)]; exact ⟨rfl, rfl⟩))
    (fun os started H enc _ => lifted os started H enc)

/-- The given statement. -/
theorem proved : Rows.FnExactCollectProductSaid := over
#print axioms proved
end Go.Proofs.Ytbhjbfgkohgiiaa.fnExactCollectProduct
