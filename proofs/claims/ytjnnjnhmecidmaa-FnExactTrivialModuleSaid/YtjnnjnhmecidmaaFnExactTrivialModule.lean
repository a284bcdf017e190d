/-
  The law FnExactTrivialModule: for every input the call returns true, and each argument reads behind the call as it read before. No condition.
-/
import Derived.Test.YtjnnjnhmecidmaaOpen
import Derived.Test.YtjnnjnhmecidmaaMof
namespace Go.Proofs.Ytjnnjnhmecidmaa.fnExactTrivialModule
set_option linter.unusedVariables false
set_option linter.unusedSimpArgs false
set_option maxRecDepth 100000
open Go.ChangeShapes Go.WideShapes Go.ChangeAt Go.RowKit
open Go.ChangeMaps (open_string shut_string)
set_option linter.unusedVariables false

set_option maxHeartbeats 8000000 in
set_option maxRecDepth 100000 in
theorem core (v1aP v2aP v3aP : Value) (aP : Pres) (aPrime : Int) (aDim : Int) (w : World) (haP : RdP w v1aP v2aP v3aP aP) (baPrime : -9223372036854775808 ≤ aPrime ∧ aPrime ≤ 9223372036854775807) (baDim : -9223372036854775808 ≤ aDim ∧ aDim ≤ 9223372036854775807) :
    Calls Try.prog 5 #[.agg #[v1aP, v2aP, v3aP], .int .i64 aPrime, .int .i64 aDim] w (RetV w (.bool true)) := by
  have HEaP := Lib.hid haP
  clear haP
  by_cases gaP : ((psize aP : Nat) : Int) ≤ 1048576
  case neg =>
    have SNaP := Lib.hid (szI_out gaP)
    have hbx : Below w.heap.size w (w.alloc (Obj.cells #[v1aP, v2aP, v3aP] 26)) := below_alloc w _
    have zaP : w.heap.size < ((w.alloc (Obj.cells #[v1aP, v2aP, v3aP] 26))).heap.size := by simp <;> omega
    have M0aP : Hid (((w.alloc (Obj.cells #[v1aP, v2aP, v3aP] 26))).cell? ⟨w.heap.size, 0, none⟩ = some v1aP) := by show _ = _; simp [go_sem]
    have M1aP : Hid (((w.alloc (Obj.cells #[v1aP, v2aP, v3aP] 26))).cell? ⟨w.heap.size, 1, none⟩ = some v2aP) := by show _ = _; simp [go_sem]
    have M2aP : Hid (((w.alloc (Obj.cells #[v1aP, v2aP, v3aP] 26))).cell? ⟨w.heap.size, 2, none⟩ = some v3aP) := by show _ = _; simp [go_sem]
    go_enter Try.func5, Try.ntmps5
    go_wp2_with fail
    generalize (w.alloc (Obj.cells #[v1aP, v2aP, v3aP] 26)) = w0 at *
    have m0aP := M0aP.out
    have m1aP := M1aP.out
    have m2aP := M2aP.out
    have hb0 := Below.refl w0.heap.size w0
    go_wp2_with fail
    refine (l_szPresentation _ _ _ aP _ _ ((HEaP.out.below hbx).below hb0) (by omega) (by omega)).mono ?_
    rintro e w1 ⟨rfl, hb⟩
    have hb0x := below_size hb0 hb
    clear hb0
    have hb0 := hb0x
    clear hb0x
    have s1 : w0.heap.size ≤ w1.heap.size := hb.size
    have t := (hb.cell (p := ⟨w.heap.size, 0, none⟩) (show w.heap.size < _ by omega)).trans m0aP
    clear m0aP
    have m0aP := t
    clear t
    have t := (hb.cell (p := ⟨w.heap.size, 1, none⟩) (show w.heap.size < _ by omega)).trans m1aP
    clear m1aP
    have m1aP := t
    clear t
    have t := (hb.cell (p := ⟨w.heap.size, 2, none⟩) (show w.heap.size < _ by omega)).trans m2aP
    clear m2aP
    have m2aP := t
    clear t
    clear hb
    rw [SNaP.out]
    go_wp2_with fail
    go_ret
    exact ⟨rfl, hbx.trans (hb0.mono hbx.size)⟩
  have SZaP := Lib.hid (szI_in gaP)
  have laP : psize aP ≤ 1048576 := by omega
  have hbx : Below w.heap.size w (w.alloc (Obj.cells #[v1aP, v2aP, v3aP] 26)) := below_alloc w _
  have zaP : w.heap.size < ((w.alloc (Obj.cells #[v1aP, v2aP, v3aP] 26))).heap.size := by simp <;> omega
  have M0aP : Hid (((w.alloc (Obj.cells #[v1aP, v2aP, v3aP] 26))).cell? ⟨w.heap.size, 0, none⟩ = some v1aP) := by show _ = _; simp [go_sem]
  have M1aP : Hid (((w.alloc (Obj.cells #[v1aP, v2aP, v3aP] 26))).cell? ⟨w.heap.size, 1, none⟩ = some v2aP) := by show _ = _; simp [go_sem]
  have M2aP : Hid (((w.alloc (Obj.cells #[v1aP, v2aP, v3aP] 26))).cell? ⟨w.heap.size, 2, none⟩ = some v3aP) := by show _ = _; simp [go_sem]
  go_enter Try.func5, Try.ntmps5
  go_wp2_with fail
  generalize (w.alloc (Obj.cells #[v1aP, v2aP, v3aP] 26)) = w0 at *
  have m0aP := M0aP.out
  have m1aP := M1aP.out
  have m2aP := M2aP.out
  have hb0 := Below.refl w0.heap.size w0
  go_wp2_with fail
  refine (l_szPresentation _ _ _ aP _ _ ((HEaP.out.below hbx).below hb0) (by omega) (by omega)).mono ?_
  rintro e w1 ⟨rfl, hb⟩
  have hb0x := below_size hb0 hb
  clear hb0
  have hb0 := hb0x
  clear hb0x
  have s1 : w0.heap.size ≤ w1.heap.size := hb.size
  have t := (hb.cell (p := ⟨w.heap.size, 0, none⟩) (show w.heap.size < _ by omega)).trans m0aP
  clear m0aP
  have m0aP := t
  clear t
  have t := (hb.cell (p := ⟨w.heap.size, 1, none⟩) (show w.heap.size < _ by omega)).trans m1aP
  clear m1aP
  have m1aP := t
  clear t
  have t := (hb.cell (p := ⟨w.heap.size, 2, none⟩) (show w.heap.size < _ by omega)).trans m2aP
  clear m2aP
  have m2aP := t
  clear t
  clear hb
  rw [SZaP.out]
  go_wp2_with fail
  refine (l_toPresentation _ _ _ aP _ ((HEaP.out.below hbx).below hb0) (by omega)).mono ?_
  rintro e w2 ⟨v1c1, v2c1, v3c1, rfl, hc1, hb⟩
  have hb0x := below_size hb0 hb
  clear hb0
  have hb0 := hb0x
  clear hb0x
  have s2 : w1.heap.size ≤ w2.heap.size := hb.size
  have t := (hb.cell (p := ⟨w.heap.size, 0, none⟩) (show w.heap.size < _ by omega)).trans m0aP
  clear m0aP
  have m0aP := t
  clear t
  have t := (hb.cell (p := ⟨w.heap.size, 1, none⟩) (show w.heap.size < _ by omega)).trans m1aP
  clear m1aP
  have m1aP := t
  clear t
  have t := (hb.cell (p := ⟨w.heap.size, 2, none⟩) (show w.heap.size < _ by omega)).trans m2aP
  clear m2aP
  have m2aP := t
  clear t
  clear hb
  go_wp2_with fail
  have hml0 := len_TrivialModule aP aPrime aDim
  obtain ⟨mx, hmx⟩ : ∃ z, tmX aP aPrime aDim = z := ⟨_, rfl⟩
  obtain ⟨my, hmy⟩ : ∃ z, tmY aP aPrime aDim = z := ⟨_, rfl⟩
  obtain ⟨md, hmd⟩ : ∃ z, tmD aP aPrime aDim = z := ⟨_, rfl⟩
  obtain ⟨mc, hmc⟩ : ∃ z, tmC aP aPrime aDim = z := ⟨_, rfl⟩
  have HMX := Lib.hid hmx
  have HMY := Lib.hid hmy
  have HMD := Lib.hid hmd
  have HMC := Lib.hid hmc
  have hml : msize md ≤ 1000000000 := by rw [← HMD.out]; exact hml0
  clear hml0 hmx hmy hmd hmc
  have hcl := @s_TrivialModule
  have hcl' := hcl _ _ _ _ aPrime aDim w2 hc1.rd
  clear hcl
  rw [HMX.out, HMY.out, HMD.out, HMC.out] at hcl'
  have HCL := Lib.hid hcl'
  clear hcl'
  refine HCL.out.mono ?_
  rintro e w3 ⟨vw0, rfl, hw0, hb⟩
  have hb0x := below_size hb0 hb
  clear hb0
  have hb0 := hb0x
  clear hb0x
  have s3 : w2.heap.size ≤ w3.heap.size := hb.size
  have t := (hb.cell (p := ⟨w.heap.size, 0, none⟩) (show w.heap.size < _ by omega)).trans m0aP
  clear m0aP
  have m0aP := t
  clear t
  have t := (hb.cell (p := ⟨w.heap.size, 1, none⟩) (show w.heap.size < _ by omega)).trans m1aP
  clear m1aP
  have m1aP := t
  clear t
  have t := (hb.cell (p := ⟨w.heap.size, 2, none⟩) (show w.heap.size < _ by omega)).trans m2aP
  clear m2aP
  have m2aP := t
  clear t
  have t := OP.below hc1 hb
  clear hc1
  have hc1 := t
  clear t
  clear hb
  clear HCL
  obtain ⟨aw0, qw0, rfl, _, _⟩ := (O3.rd hw0).form
  have yaP : w.heap.size < w3.heap.size := by omega
  go_wp2_with fail
  clear yaP
  have hb := below_alloc w3 (Obj.cells #[.int .i64 mx, .int .i64 my, Value.slice aw0 md.length qw0] 42)
  have zw0 : w3.heap.size < (w3.alloc (Obj.cells #[.int .i64 mx, .int .i64 my, Value.slice aw0 md.length qw0] 42)).heap.size := by simp
  have M0w0 : Hid ((w3.alloc (Obj.cells #[.int .i64 mx, .int .i64 my, Value.slice aw0 md.length qw0] 42)).cell? ⟨w3.heap.size, 0, none⟩ = some (.int .i64 mx)) := by show _ = _; simp [go_sem]
  have M1w0 : Hid ((w3.alloc (Obj.cells #[.int .i64 mx, .int .i64 my, Value.slice aw0 md.length qw0] 42)).cell? ⟨w3.heap.size, 1, none⟩ = some (.int .i64 my)) := by show _ = _; simp [go_sem]
  have M2w0 : Hid ((w3.alloc (Obj.cells #[.int .i64 mx, .int .i64 my, Value.slice aw0 md.length qw0] 42)).cell? ⟨w3.heap.size, 2, none⟩ = some (Value.slice aw0 md.length qw0)) := by show _ = _; simp [go_sem]
  generalize (w3.alloc (Obj.cells #[.int .i64 mx, .int .i64 my, Value.slice aw0 md.length qw0] 42)) = w4 at *
  have hb0x := below_size hb0 hb
  clear hb0
  have hb0 := hb0x
  clear hb0x
  have s4 : w3.heap.size ≤ w4.heap.size := hb.size
  have t := (hb.cell (p := ⟨w.heap.size, 0, none⟩) (show w.heap.size < _ by omega)).trans m0aP
  clear m0aP
  have m0aP := t
  clear t
  have t := (hb.cell (p := ⟨w.heap.size, 1, none⟩) (show w.heap.size < _ by omega)).trans m1aP
  clear m1aP
  have m1aP := t
  clear t
  have t := (hb.cell (p := ⟨w.heap.size, 2, none⟩) (show w.heap.size < _ by omega)).trans m2aP
  clear m2aP
  have m2aP := t
  clear t
  have t := OP.below hc1 hb
  clear hc1
  have hc1 := t
  clear t
  have t := local_O3.below hw0 hb
  clear hw0
  have hw0 := t
  clear t
  clear hb
  have m0w0 := M0w0.out
  have m1w0 := M1w0.out
  have m2w0 := M2w0.out
  refine (l_toPresentation _ _ _ aP _ ((HEaP.out.below hbx).below hb0) (by omega)).mono ?_
  rintro e w5 ⟨v1c2, v2c2, v3c2, rfl, hc2, hb⟩
  have hb0x := below_size hb0 hb
  clear hb0
  have hb0 := hb0x
  clear hb0x
  have s5 : w4.heap.size ≤ w5.heap.size := hb.size
  have t := (hb.cell (p := ⟨w.heap.size, 0, none⟩) (show w.heap.size < _ by omega)).trans m0aP
  clear m0aP
  have m0aP := t
  clear t
  have t := (hb.cell (p := ⟨w.heap.size, 1, none⟩) (show w.heap.size < _ by omega)).trans m1aP
  clear m1aP
  have m1aP := t
  clear t
  have t := (hb.cell (p := ⟨w.heap.size, 2, none⟩) (show w.heap.size < _ by omega)).trans m2aP
  clear m2aP
  have m2aP := t
  clear t
  have t := (hb.cell (p := ⟨w3.heap.size, 0, none⟩) (show w3.heap.size < _ by omega)).trans m0w0
  clear m0w0
  have m0w0 := t
  clear t
  have t := (hb.cell (p := ⟨w3.heap.size, 1, none⟩) (show w3.heap.size < _ by omega)).trans m1w0
  clear m1w0
  have m1w0 := t
  clear t
  have t := (hb.cell (p := ⟨w3.heap.size, 2, none⟩) (show w3.heap.size < _ by omega)).trans m2w0
  clear m2w0
  have m2w0 := t
  clear t
  have t := OP.below hc1 hb
  clear hc1
  have hc1 := t
  clear t
  have t := local_O3.below hw0 hb
  clear hw0
  have hw0 := t
  clear t
  clear hb
  obtain ⟨a1c2, n1c2, q1c2, a2c2, n2c2, q2c2, a3c2, n3c2, q3c2, rfl, rfl, rfl⟩ := hc2.formsE
  have llc2 : psize aP ≤ 1000000000 := by omega
  have yaP : w.heap.size < w5.heap.size := by omega
  have yw0 : w3.heap.size < w5.heap.size := by omega
  go_wp2_with fail
  clear yaP yw0
  have hb := below_alloc w5 (Obj.cells #[Value.slice a1c2 n1c2 q1c2, Value.slice a2c2 n2c2 q2c2, Value.slice a3c2 n3c2 q3c2] 28)
  have zc2 : w5.heap.size < (w5.alloc (Obj.cells #[Value.slice a1c2 n1c2 q1c2, Value.slice a2c2 n2c2 q2c2, Value.slice a3c2 n3c2 q3c2] 28)).heap.size := by simp
  have M0c2 : Hid ((w5.alloc (Obj.cells #[Value.slice a1c2 n1c2 q1c2, Value.slice a2c2 n2c2 q2c2, Value.slice a3c2 n3c2 q3c2] 28)).cell? ⟨w5.heap.size, 0, none⟩ = some (Value.slice a1c2 n1c2 q1c2)) := by show _ = _; simp [go_sem]
  have M1c2 : Hid ((w5.alloc (Obj.cells #[Value.slice a1c2 n1c2 q1c2, Value.slice a2c2 n2c2 q2c2, Value.slice a3c2 n3c2 q3c2] 28)).cell? ⟨w5.heap.size, 1, none⟩ = some (Value.slice a2c2 n2c2 q2c2)) := by show _ = _; simp [go_sem]
  have M2c2 : Hid ((w5.alloc (Obj.cells #[Value.slice a1c2 n1c2 q1c2, Value.slice a2c2 n2c2 q2c2, Value.slice a3c2 n3c2 q3c2] 28)).cell? ⟨w5.heap.size, 2, none⟩ = some (Value.slice a3c2 n3c2 q3c2)) := by show _ = _; simp [go_sem]
  generalize (w5.alloc (Obj.cells #[Value.slice a1c2 n1c2 q1c2, Value.slice a2c2 n2c2 q2c2, Value.slice a3c2 n3c2 q3c2] 28)) = w6 at *
  have hb0x := below_size hb0 hb
  clear hb0
  have hb0 := hb0x
  clear hb0x
  have s6 : w5.heap.size ≤ w6.heap.size := hb.size
  have t := (hb.cell (p := ⟨w.heap.size, 0, none⟩) (show w.heap.size < _ by omega)).trans m0aP
  clear m0aP
  have m0aP := t
  clear t
  have t := (hb.cell (p := ⟨w.heap.size, 1, none⟩) (show w.heap.size < _ by omega)).trans m1aP
  clear m1aP
  have m1aP := t
  clear t
  have t := (hb.cell (p := ⟨w.heap.size, 2, none⟩) (show w.heap.size < _ by omega)).trans m2aP
  clear m2aP
  have m2aP := t
  clear t
  have t := (hb.cell (p := ⟨w3.heap.size, 0, none⟩) (show w3.heap.size < _ by omega)).trans m0w0
  clear m0w0
  have m0w0 := t
  clear t
  have t := (hb.cell (p := ⟨w3.heap.size, 1, none⟩) (show w3.heap.size < _ by omega)).trans m1w0
  clear m1w0
  have m1w0 := t
  clear t
  have t := (hb.cell (p := ⟨w3.heap.size, 2, none⟩) (show w3.heap.size < _ by omega)).trans m2w0
  clear m2w0
  have m2w0 := t
  clear t
  have t := OP.below hc1 hb
  clear hc1
  have hc1 := t
  clear t
  have t := local_O3.below hw0 hb
  clear hw0
  have hw0 := t
  clear t
  have t := OP.below hc2 hb
  clear hc2
  have hc2 := t
  clear t
  clear hb
  have m0c2 := M0c2.out
  have m1c2 := M1c2.out
  have m2c2 := M2c2.out
  have hcl := @i_TrivialModule
  have hcl' := hcl _ _ _ _ aPrime aDim w6 hc2.rd
  clear hcl
  rw [HMX.out, HMY.out, HMD.out, HMC.out] at hcl'
  have HCL := Lib.hid hcl'
  clear hcl'
  refine HCL.out.mono ?_
  rintro e w7 ⟨vg0, rfl, hg0, hb⟩
  have hb0x := below_size hb0 hb
  clear hb0
  have hb0 := hb0x
  clear hb0x
  have s7 : w6.heap.size ≤ w7.heap.size := hb.size
  have t := (hb.cell (p := ⟨w.heap.size, 0, none⟩) (show w.heap.size < _ by omega)).trans m0aP
  clear m0aP
  have m0aP := t
  clear t
  have t := (hb.cell (p := ⟨w.heap.size, 1, none⟩) (show w.heap.size < _ by omega)).trans m1aP
  clear m1aP
  have m1aP := t
  clear t
  have t := (hb.cell (p := ⟨w.heap.size, 2, none⟩) (show w.heap.size < _ by omega)).trans m2aP
  clear m2aP
  have m2aP := t
  clear t
  have t := (hb.cell (p := ⟨w3.heap.size, 0, none⟩) (show w3.heap.size < _ by omega)).trans m0w0
  clear m0w0
  have m0w0 := t
  clear t
  have t := (hb.cell (p := ⟨w3.heap.size, 1, none⟩) (show w3.heap.size < _ by omega)).trans m1w0
  clear m1w0
  have m1w0 := t
  clear t
  have t := (hb.cell (p := ⟨w3.heap.size, 2, none⟩) (show w3.heap.size < _ by omega)).trans m2w0
  clear m2w0
  have m2w0 := t
  clear t
  have t := (hb.cell (p := ⟨w5.heap.size, 0, none⟩) (show w5.heap.size < _ by omega)).trans m0c2
  clear m0c2
  have m0c2 := t
  clear t
  have t := (hb.cell (p := ⟨w5.heap.size, 1, none⟩) (show w5.heap.size < _ by omega)).trans m1c2
  clear m1c2
  have m1c2 := t
  clear t
  have t := (hb.cell (p := ⟨w5.heap.size, 2, none⟩) (show w5.heap.size < _ by omega)).trans m2c2
  clear m2c2
  have m2c2 := t
  clear t
  have t := OP.below hc1 hb
  clear hc1
  have hc1 := t
  clear t
  have t := local_O3.below hw0 hb
  clear hw0
  have hw0 := t
  clear t
  have t := OP.below hc2 hb
  clear hc2
  have hc2 := t
  clear t
  clear hb
  clear HCL
  have llg0 : _ ≤ 1000000000 := hml
  obtain ⟨ag0, qg0, rfl, _, _⟩ := (O3.rd hg0).form
  have yaP : w.heap.size < w7.heap.size := by omega
  have yw0 : w3.heap.size < w7.heap.size := by omega
  have yc2 : w5.heap.size < w7.heap.size := by omega
  go_wp2_with fail
  clear yaP yw0 yc2
  have hb := below_alloc w7 (Obj.cells #[.int .i64 mx, .int .i64 my, Value.slice ag0 md.length qg0] 42)
  have zg0 : w7.heap.size < (w7.alloc (Obj.cells #[.int .i64 mx, .int .i64 my, Value.slice ag0 md.length qg0] 42)).heap.size := by simp
  have M0g0 : Hid ((w7.alloc (Obj.cells #[.int .i64 mx, .int .i64 my, Value.slice ag0 md.length qg0] 42)).cell? ⟨w7.heap.size, 0, none⟩ = some (.int .i64 mx)) := by show _ = _; simp [go_sem]
  have M1g0 : Hid ((w7.alloc (Obj.cells #[.int .i64 mx, .int .i64 my, Value.slice ag0 md.length qg0] 42)).cell? ⟨w7.heap.size, 1, none⟩ = some (.int .i64 my)) := by show _ = _; simp [go_sem]
  have M2g0 : Hid ((w7.alloc (Obj.cells #[.int .i64 mx, .int .i64 my, Value.slice ag0 md.length qg0] 42)).cell? ⟨w7.heap.size, 2, none⟩ = some (Value.slice ag0 md.length qg0)) := by show _ = _; simp [go_sem]
  generalize (w7.alloc (Obj.cells #[.int .i64 mx, .int .i64 my, Value.slice ag0 md.length qg0] 42)) = w8 at *
  have hb0x := below_size hb0 hb
  clear hb0
  have hb0 := hb0x
  clear hb0x
  have s8 : w7.heap.size ≤ w8.heap.size := hb.size
  have t := (hb.cell (p := ⟨w.heap.size, 0, none⟩) (show w.heap.size < _ by omega)).trans m0aP
  clear m0aP
  have m0aP := t
  clear t
  have t := (hb.cell (p := ⟨w.heap.size, 1, none⟩) (show w.heap.size < _ by omega)).trans m1aP
  clear m1aP
  have m1aP := t
  clear t
  have t := (hb.cell (p := ⟨w.heap.size, 2, none⟩) (show w.heap.size < _ by omega)).trans m2aP
  clear m2aP
  have m2aP := t
  clear t
  have t := (hb.cell (p := ⟨w3.heap.size, 0, none⟩) (show w3.heap.size < _ by omega)).trans m0w0
  clear m0w0
  have m0w0 := t
  clear t
  have t := (hb.cell (p := ⟨w3.heap.size, 1, none⟩) (show w3.heap.size < _ by omega)).trans m1w0
  clear m1w0
  have m1w0 := t
  clear t
  have t := (hb.cell (p := ⟨w3.heap.size, 2, none⟩) (show w3.heap.size < _ by omega)).trans m2w0
  clear m2w0
  have m2w0 := t
  clear t
  have t := (hb.cell (p := ⟨w5.heap.size, 0, none⟩) (show w5.heap.size < _ by omega)).trans m0c2
  clear m0c2
  have m0c2 := t
  clear t
  have t := (hb.cell (p := ⟨w5.heap.size, 1, none⟩) (show w5.heap.size < _ by omega)).trans m1c2
  clear m1c2
  have m1c2 := t
  clear t
  have t := (hb.cell (p := ⟨w5.heap.size, 2, none⟩) (show w5.heap.size < _ by omega)).trans m2c2
  clear m2c2
  have m2c2 := t
  clear t
  have t := OP.below hc1 hb
  clear hc1
  have hc1 := t
  clear t
  have t := local_O3.below hw0 hb
  clear hw0
  have hw0 := t
  clear t
  have t := OP.below hc2 hb
  clear hc2
  have hc2 := t
  clear t
  have t := local_O3.below hg0 hb
  clear hg0
  have hg0 := t
  clear t
  clear hb
  have m0g0 := M0g0.out
  have m1g0 := M1g0.out
  have m2g0 := M2g0.out
  refine (l_eqModule _ _ _ _ _ _ (O3.rd hg0) (O3.rd hw0)).mono ?_
  rintro e w9 ⟨rfl, hb⟩
  have hb0x := below_size hb0 hb
  clear hb0
  have hb0 := hb0x
  clear hb0x
  have s9 : w8.heap.size ≤ w9.heap.size := hb.size
  have t := (hb.cell (p := ⟨w.heap.size, 0, none⟩) (show w.heap.size < _ by omega)).trans m0aP
  clear m0aP
  have m0aP := t
  clear t
  have t := (hb.cell (p := ⟨w.heap.size, 1, none⟩) (show w.heap.size < _ by omega)).trans m1aP
  clear m1aP
  have m1aP := t
  clear t
  have t := (hb.cell (p := ⟨w.heap.size, 2, none⟩) (show w.heap.size < _ by omega)).trans m2aP
  clear m2aP
  have m2aP := t
  clear t
  have t := (hb.cell (p := ⟨w3.heap.size, 0, none⟩) (show w3.heap.size < _ by omega)).trans m0w0
  clear m0w0
  have m0w0 := t
  clear t
  have t := (hb.cell (p := ⟨w3.heap.size, 1, none⟩) (show w3.heap.size < _ by omega)).trans m1w0
  clear m1w0
  have m1w0 := t
  clear t
  have t := (hb.cell (p := ⟨w3.heap.size, 2, none⟩) (show w3.heap.size < _ by omega)).trans m2w0
  clear m2w0
  have m2w0 := t
  clear t
  have t := (hb.cell (p := ⟨w5.heap.size, 0, none⟩) (show w5.heap.size < _ by omega)).trans m0c2
  clear m0c2
  have m0c2 := t
  clear t
  have t := (hb.cell (p := ⟨w5.heap.size, 1, none⟩) (show w5.heap.size < _ by omega)).trans m1c2
  clear m1c2
  have m1c2 := t
  clear t
  have t := (hb.cell (p := ⟨w5.heap.size, 2, none⟩) (show w5.heap.size < _ by omega)).trans m2c2
  clear m2c2
  have m2c2 := t
  clear t
  have t := (hb.cell (p := ⟨w7.heap.size, 0, none⟩) (show w7.heap.size < _ by omega)).trans m0g0
  clear m0g0
  have m0g0 := t
  clear t
  have t := (hb.cell (p := ⟨w7.heap.size, 1, none⟩) (show w7.heap.size < _ by omega)).trans m1g0
  clear m1g0
  have m1g0 := t
  clear t
  have t := (hb.cell (p := ⟨w7.heap.size, 2, none⟩) (show w7.heap.size < _ by omega)).trans m2g0
  clear m2g0
  have m2g0 := t
  clear t
  have t := OP.below hc1 hb
  clear hc1
  have hc1 := t
  clear t
  have t := local_O3.below hw0 hb
  clear hw0
  have hw0 := t
  clear t
  have t := OP.below hc2 hb
  clear hc2
  have hc2 := t
  clear t
  have t := local_O3.below hg0 hb
  clear hg0
  have hg0 := t
  clear t
  clear hb
  go_wp2_with fail
  have HR := Lib.hid ((HEaP.out.below hbx).below hb0)
  have HX := Lib.hid hc2.rd
  have lt0 : w5.heap.size < w9.heap.size := by omega
  have lt3 : w.heap.size < w9.heap.size := by omega
  have KEEP : Hid (∀ wx, Below w9.heap.size w9 wx → Below w9.heap.size w9 wx ∧ wx.cell? ⟨w5.heap.size, 0, none⟩ = some (Value.slice a1c2 n1c2 q1c2) ∧ wx.cell? ⟨w5.heap.size, 1, none⟩ = some (Value.slice a2c2 n2c2 q2c2) ∧ wx.cell? ⟨w5.heap.size, 2, none⟩ = some (Value.slice a3c2 n3c2 q3c2) ∧ wx.cell? ⟨w.heap.size, 0, none⟩ = some (v1aP) ∧ wx.cell? ⟨w.heap.size, 1, none⟩ = some (v2aP) ∧ wx.cell? ⟨w.heap.size, 2, none⟩ = some (v3aP)) := fun wx hb => ⟨hb, ((hb).cell (p := ⟨w5.heap.size, 0, none⟩) (by omega)).trans m0c2, ((hb).cell (p := ⟨w5.heap.size, 1, none⟩) (by omega)).trans m1c2, ((hb).cell (p := ⟨w5.heap.size, 2, none⟩) (by omega)).trans m2c2, ((hb).cell (p := ⟨w.heap.size, 0, none⟩) (by omega)).trans m0aP, ((hb).cell (p := ⟨w.heap.size, 1, none⟩) (by omega)).trans m1aP, ((hb).cell (p := ⟨w.heap.size, 2, none⟩) (by omega)).trans m2aP⟩
  go_region_held3 (fun wx => Below w9.heap.size w9 wx ∧ wx.cell? ⟨w5.heap.size, 0, none⟩ = some (Value.slice a1c2 n1c2 q1c2) ∧ wx.cell? ⟨w5.heap.size, 1, none⟩ = some (Value.slice a2c2 n2c2 q2c2) ∧ wx.cell? ⟨w5.heap.size, 2, none⟩ = some (Value.slice a3c2 n3c2 q3c2) ∧ wx.cell? ⟨w.heap.size, 0, none⟩ = some (v1aP) ∧ wx.cell? ⟨w.heap.size, 1, none⟩ = some (v2aP) ∧ wx.cell? ⟨w.heap.size, 2, none⟩ = some (v3aP))
    (first | exact KEEP.out _ (Below.refl _ _).drew | exact KEEP.out _ (below_size (And.left (by assumption)) (by assumption)))
    (first
      | ((go_at_call 16); (refine (l_toPresentation _ _ _ aP _ (HR.out.below (And.left (by assumption))) (by omega)).mono ?_); (rintro e wy ⟨yv1, yv2, yv3, rfl, hy, hb⟩))
      | ((go_at_call 18); (refine (l_eqPresentation _ _ _ _ _ _ aP _ (HX.out.below (And.left (by assumption))) hy.rd).mono ?_); (rintro e w10 ⟨rfl, hb2⟩)))
  have hb : Below w9.heap.size w9 w10 := And.left (by assumption)
  clear KEEP HR HX
  have hb0x := below_size hb0 hb
  clear hb0
  have hb0 := hb0x
  clear hb0x
  have s10 : w9.heap.size ≤ w10.heap.size := hb.size
  have t := (hb.cell (p := ⟨w.heap.size, 0, none⟩) (show w.heap.size < _ by omega)).trans m0aP
  clear m0aP
  have m0aP := t
  clear t
  have t := (hb.cell (p := ⟨w.heap.size, 1, none⟩) (show w.heap.size < _ by omega)).trans m1aP
  clear m1aP
  have m1aP := t
  clear t
  have t := (hb.cell (p := ⟨w.heap.size, 2, none⟩) (show w.heap.size < _ by omega)).trans m2aP
  clear m2aP
  have m2aP := t
  clear t
  have t := (hb.cell (p := ⟨w3.heap.size, 0, none⟩) (show w3.heap.size < _ by omega)).trans m0w0
  clear m0w0
  have m0w0 := t
  clear t
  have t := (hb.cell (p := ⟨w3.heap.size, 1, none⟩) (show w3.heap.size < _ by omega)).trans m1w0
  clear m1w0
  have m1w0 := t
  clear t
  have t := (hb.cell (p := ⟨w3.heap.size, 2, none⟩) (show w3.heap.size < _ by omega)).trans m2w0
  clear m2w0
  have m2w0 := t
  clear t
  have t := (hb.cell (p := ⟨w5.heap.size, 0, none⟩) (show w5.heap.size < _ by omega)).trans m0c2
  clear m0c2
  have m0c2 := t
  clear t
  have t := (hb.cell (p := ⟨w5.heap.size, 1, none⟩) (show w5.heap.size < _ by omega)).trans m1c2
  clear m1c2
  have m1c2 := t
  clear t
  have t := (hb.cell (p := ⟨w5.heap.size, 2, none⟩) (show w5.heap.size < _ by omega)).trans m2c2
  clear m2c2
  have m2c2 := t
  clear t
  have t := (hb.cell (p := ⟨w7.heap.size, 0, none⟩) (show w7.heap.size < _ by omega)).trans m0g0
  clear m0g0
  have m0g0 := t
  clear t
  have t := (hb.cell (p := ⟨w7.heap.size, 1, none⟩) (show w7.heap.size < _ by omega)).trans m1g0
  clear m1g0
  have m1g0 := t
  clear t
  have t := (hb.cell (p := ⟨w7.heap.size, 2, none⟩) (show w7.heap.size < _ by omega)).trans m2g0
  clear m2g0
  have m2g0 := t
  clear t
  have t := OP.below hc1 hb
  clear hc1
  have hc1 := t
  clear t
  have t := local_O3.below hw0 hb
  clear hw0
  have hw0 := t
  clear t
  have t := OP.below hc2 hb
  clear hc2
  have hc2 := t
  clear t
  have t := local_O3.below hg0 hb
  clear hg0
  have hg0 := t
  clear t
  clear hb
  go_wp2_with fail
  have pcc2 := (psize_le laP).2.2.2.2.2.2
  refine (l_markPresentation _ _ _ _ _ _ _ hc2 (by omega) (by omega) llc2).mono ?_
  rintro e w11 ⟨rfl, hnc2, hg⟩
  clear hc2
  have hc2 := hnc2
  clear hnc2
  have s11 : w10.heap.size ≤ w11.heap.size := hg.size
  have t := hb0.trans (hg.below (B := w0.heap.size) (fun k hk => by have := hk.1; omega) (by omega))
  clear hb0
  have hb0 := t
  clear t
  have t := ((hg.at (b := w.heap.size) (by omega) (fun hk => by have := hk.1; have := hk.2; omega)).1 0).trans m0aP
  clear m0aP
  have m0aP := t
  clear t
  have t := ((hg.at (b := w.heap.size) (by omega) (fun hk => by have := hk.1; have := hk.2; omega)).1 1).trans m1aP
  clear m1aP
  have m1aP := t
  clear t
  have t := ((hg.at (b := w.heap.size) (by omega) (fun hk => by have := hk.1; have := hk.2; omega)).1 2).trans m2aP
  clear m2aP
  have m2aP := t
  clear t
  have t := ((hg.at (b := w3.heap.size) (by omega) (fun hk => by have := hk.1; have := hk.2; omega)).1 0).trans m0w0
  clear m0w0
  have m0w0 := t
  clear t
  have t := ((hg.at (b := w3.heap.size) (by omega) (fun hk => by have := hk.1; have := hk.2; omega)).1 1).trans m1w0
  clear m1w0
  have m1w0 := t
  clear t
  have t := ((hg.at (b := w3.heap.size) (by omega) (fun hk => by have := hk.1; have := hk.2; omega)).1 2).trans m2w0
  clear m2w0
  have m2w0 := t
  clear t
  have t := ((hg.at (b := w5.heap.size) (by omega) (fun hk => by have := hk.1; have := hk.2; omega)).1 0).trans m0c2
  clear m0c2
  have m0c2 := t
  clear t
  have t := ((hg.at (b := w5.heap.size) (by omega) (fun hk => by have := hk.1; have := hk.2; omega)).1 1).trans m1c2
  clear m1c2
  have m1c2 := t
  clear t
  have t := ((hg.at (b := w5.heap.size) (by omega) (fun hk => by have := hk.1; have := hk.2; omega)).1 2).trans m2c2
  clear m2c2
  have m2c2 := t
  clear t
  have t := ((hg.at (b := w7.heap.size) (by omega) (fun hk => by have := hk.1; have := hk.2; omega)).1 0).trans m0g0
  clear m0g0
  have m0g0 := t
  clear t
  have t := ((hg.at (b := w7.heap.size) (by omega) (fun hk => by have := hk.1; have := hk.2; omega)).1 1).trans m1g0
  clear m1g0
  have m1g0 := t
  clear t
  have t := ((hg.at (b := w7.heap.size) (by omega) (fun hk => by have := hk.1; have := hk.2; omega)).1 2).trans m2g0
  clear m2g0
  have m2g0 := t
  clear t
  have t := OP.chg hc1 hg (fun k hk hk2 => by have := hk.1; have := hk.2; have := hk2.1; have := hk2.2; omega)
  clear hc1
  have hc1 := t
  clear t
  have t := local_O3.chg hw0 hg (fun k hk hk2 => by have := hk.1; have := hk.2; have := hk2.1; have := hk2.2; omega)
  clear hw0
  have hw0 := t
  clear t
  have t := local_O3.chg hg0 hg (fun k hk hk2 => by have := hk.1; have := hk.2; have := hk2.1; have := hk2.2; omega)
  clear hg0
  have hg0 := t
  clear t
  clear hg
  go_wp2_with fail
  refine (l_eqModule _ _ _ _ _ _ (O3.rd hg0) (O3.rd hw0)).mono ?_
  rintro e w12 ⟨rfl, hb⟩
  have hb0x := below_size hb0 hb
  clear hb0
  have hb0 := hb0x
  clear hb0x
  have s12 : w11.heap.size ≤ w12.heap.size := hb.size
  have t := (hb.cell (p := ⟨w.heap.size, 0, none⟩) (show w.heap.size < _ by omega)).trans m0aP
  clear m0aP
  have m0aP := t
  clear t
  have t := (hb.cell (p := ⟨w.heap.size, 1, none⟩) (show w.heap.size < _ by omega)).trans m1aP
  clear m1aP
  have m1aP := t
  clear t
  have t := (hb.cell (p := ⟨w.heap.size, 2, none⟩) (show w.heap.size < _ by omega)).trans m2aP
  clear m2aP
  have m2aP := t
  clear t
  have t := (hb.cell (p := ⟨w3.heap.size, 0, none⟩) (show w3.heap.size < _ by omega)).trans m0w0
  clear m0w0
  have m0w0 := t
  clear t
  have t := (hb.cell (p := ⟨w3.heap.size, 1, none⟩) (show w3.heap.size < _ by omega)).trans m1w0
  clear m1w0
  have m1w0 := t
  clear t
  have t := (hb.cell (p := ⟨w3.heap.size, 2, none⟩) (show w3.heap.size < _ by omega)).trans m2w0
  clear m2w0
  have m2w0 := t
  clear t
  have t := (hb.cell (p := ⟨w5.heap.size, 0, none⟩) (show w5.heap.size < _ by omega)).trans m0c2
  clear m0c2
  have m0c2 := t
  clear t
  have t := (hb.cell (p := ⟨w5.heap.size, 1, none⟩) (show w5.heap.size < _ by omega)).trans m1c2
  clear m1c2
  have m1c2 := t
  clear t
  have t := (hb.cell (p := ⟨w5.heap.size, 2, none⟩) (show w5.heap.size < _ by omega)).trans m2c2
  clear m2c2
  have m2c2 := t
  clear t
  have t := (hb.cell (p := ⟨w7.heap.size, 0, none⟩) (show w7.heap.size < _ by omega)).trans m0g0
  clear m0g0
  have m0g0 := t
  clear t
  have t := (hb.cell (p := ⟨w7.heap.size, 1, none⟩) (show w7.heap.size < _ by omega)).trans m1g0
  clear m1g0
  have m1g0 := t
  clear t
  have t := (hb.cell (p := ⟨w7.heap.size, 2, none⟩) (show w7.heap.size < _ by omega)).trans m2g0
  clear m2g0
  have m2g0 := t
  clear t
  have t := OP.below hc1 hb
  clear hc1
  have hc1 := t
  clear t
  have t := local_O3.below hw0 hb
  clear hw0
  have hw0 := t
  clear t
  have t := OP.below hc2 hb
  clear hc2
  have hc2 := t
  clear t
  have t := local_O3.below hg0 hb
  clear hg0
  have hg0 := t
  clear t
  clear hb
  go_wp2_with fail
  refine (l_markModule _ _ _ _ _ _ _ hg0 (by omega) (by omega) llg0).mono ?_
  rintro e w13 ⟨rfl, hng0, hg⟩
  clear hg0
  have hg0 := hng0
  clear hng0
  have s13 : w12.heap.size ≤ w13.heap.size := hg.size
  have t := hb0.trans (hg.below (B := w0.heap.size) (fun k hk => by have := hk.1; omega) (by omega))
  clear hb0
  have hb0 := t
  clear t
  have t := ((hg.at (b := w.heap.size) (by omega) (fun hk => by have := hk.1; have := hk.2; omega)).1 0).trans m0aP
  clear m0aP
  have m0aP := t
  clear t
  have t := ((hg.at (b := w.heap.size) (by omega) (fun hk => by have := hk.1; have := hk.2; omega)).1 1).trans m1aP
  clear m1aP
  have m1aP := t
  clear t
  have t := ((hg.at (b := w.heap.size) (by omega) (fun hk => by have := hk.1; have := hk.2; omega)).1 2).trans m2aP
  clear m2aP
  have m2aP := t
  clear t
  have t := ((hg.at (b := w3.heap.size) (by omega) (fun hk => by have := hk.1; have := hk.2; omega)).1 0).trans m0w0
  clear m0w0
  have m0w0 := t
  clear t
  have t := ((hg.at (b := w3.heap.size) (by omega) (fun hk => by have := hk.1; have := hk.2; omega)).1 1).trans m1w0
  clear m1w0
  have m1w0 := t
  clear t
  have t := ((hg.at (b := w3.heap.size) (by omega) (fun hk => by have := hk.1; have := hk.2; omega)).1 2).trans m2w0
  clear m2w0
  have m2w0 := t
  clear t
  have t := ((hg.at (b := w5.heap.size) (by omega) (fun hk => by have := hk.1; have := hk.2; omega)).1 0).trans m0c2
  clear m0c2
  have m0c2 := t
  clear t
  have t := ((hg.at (b := w5.heap.size) (by omega) (fun hk => by have := hk.1; have := hk.2; omega)).1 1).trans m1c2
  clear m1c2
  have m1c2 := t
  clear t
  have t := ((hg.at (b := w5.heap.size) (by omega) (fun hk => by have := hk.1; have := hk.2; omega)).1 2).trans m2c2
  clear m2c2
  have m2c2 := t
  clear t
  have t := ((hg.at (b := w7.heap.size) (by omega) (fun hk => by have := hk.1; have := hk.2; omega)).1 0).trans m0g0
  clear m0g0
  have m0g0 := t
  clear t
  have t := ((hg.at (b := w7.heap.size) (by omega) (fun hk => by have := hk.1; have := hk.2; omega)).1 1).trans m1g0
  clear m1g0
  have m1g0 := t
  clear t
  have t := ((hg.at (b := w7.heap.size) (by omega) (fun hk => by have := hk.1; have := hk.2; omega)).1 2).trans m2g0
  clear m2g0
  have m2g0 := t
  clear t
  have t := OP.chg hc1 hg (fun k hk hk2 => by have := hk.1; have := hk.2; have := hk2.1; have := hk2.2; omega)
  clear hc1
  have hc1 := t
  clear t
  have t := local_O3.chg hw0 hg (fun k hk hk2 => by have := hk.1; have := hk.2; have := hk2.1; have := hk2.2; omega)
  clear hw0
  have hw0 := t
  clear t
  have t := OP.chg hc2 hg (fun k hk hk2 => by have := hk.1; have := hk.2; have := hk2.1; have := hk2.2; omega)
  clear hc2
  have hc2 := t
  clear t
  clear hg
  go_wp2_with fail
  refine (l_heldModule _ _ _ _ _ _ (O3.rd hg0) (by omega) (by omega) llg0).mono ?_
  rintro e w14 ⟨rfl, hb⟩
  have hb0x := below_size hb0 hb
  clear hb0
  have hb0 := hb0x
  clear hb0x
  have s14 : w13.heap.size ≤ w14.heap.size := hb.size
  have t := (hb.cell (p := ⟨w.heap.size, 0, none⟩) (show w.heap.size < _ by omega)).trans m0aP
  clear m0aP
  have m0aP := t
  clear t
  have t := (hb.cell (p := ⟨w.heap.size, 1, none⟩) (show w.heap.size < _ by omega)).trans m1aP
  clear m1aP
  have m1aP := t
  clear t
  have t := (hb.cell (p := ⟨w.heap.size, 2, none⟩) (show w.heap.size < _ by omega)).trans m2aP
  clear m2aP
  have m2aP := t
  clear t
  have t := (hb.cell (p := ⟨w3.heap.size, 0, none⟩) (show w3.heap.size < _ by omega)).trans m0w0
  clear m0w0
  have m0w0 := t
  clear t
  have t := (hb.cell (p := ⟨w3.heap.size, 1, none⟩) (show w3.heap.size < _ by omega)).trans m1w0
  clear m1w0
  have m1w0 := t
  clear t
  have t := (hb.cell (p := ⟨w3.heap.size, 2, none⟩) (show w3.heap.size < _ by omega)).trans m2w0
  clear m2w0
  have m2w0 := t
  clear t
  have t := (hb.cell (p := ⟨w5.heap.size, 0, none⟩) (show w5.heap.size < _ by omega)).trans m0c2
  clear m0c2
  have m0c2 := t
  clear t
  have t := (hb.cell (p := ⟨w5.heap.size, 1, none⟩) (show w5.heap.size < _ by omega)).trans m1c2
  clear m1c2
  have m1c2 := t
  clear t
  have t := (hb.cell (p := ⟨w5.heap.size, 2, none⟩) (show w5.heap.size < _ by omega)).trans m2c2
  clear m2c2
  have m2c2 := t
  clear t
  have t := (hb.cell (p := ⟨w7.heap.size, 0, none⟩) (show w7.heap.size < _ by omega)).trans m0g0
  clear m0g0
  have m0g0 := t
  clear t
  have t := (hb.cell (p := ⟨w7.heap.size, 1, none⟩) (show w7.heap.size < _ by omega)).trans m1g0
  clear m1g0
  have m1g0 := t
  clear t
  have t := (hb.cell (p := ⟨w7.heap.size, 2, none⟩) (show w7.heap.size < _ by omega)).trans m2g0
  clear m2g0
  have m2g0 := t
  clear t
  have t := OP.below hc1 hb
  clear hc1
  have hc1 := t
  clear t
  have t := local_O3.below hw0 hb
  clear hw0
  have hw0 := t
  clear t
  have t := OP.below hc2 hb
  clear hc2
  have hc2 := t
  clear t
  have t := local_O3.below hg0 hb
  clear hg0
  have hg0 := t
  clear t
  clear hb
  go_wp2_with fail
  refine (l_toPresentation _ _ _ aP _ ((HEaP.out.below hbx).below hb0) (by omega)).mono ?_
  rintro e w15 ⟨v1c3, v2c3, v3c3, rfl, hc3, hb⟩
  have hb0x := below_size hb0 hb
  clear hb0
  have hb0 := hb0x
  clear hb0x
  have s15 : w14.heap.size ≤ w15.heap.size := hb.size
  have t := (hb.cell (p := ⟨w.heap.size, 0, none⟩) (show w.heap.size < _ by omega)).trans m0aP
  clear m0aP
  have m0aP := t
  clear t
  have t := (hb.cell (p := ⟨w.heap.size, 1, none⟩) (show w.heap.size < _ by omega)).trans m1aP
  clear m1aP
  have m1aP := t
  clear t
  have t := (hb.cell (p := ⟨w.heap.size, 2, none⟩) (show w.heap.size < _ by omega)).trans m2aP
  clear m2aP
  have m2aP := t
  clear t
  have t := (hb.cell (p := ⟨w3.heap.size, 0, none⟩) (show w3.heap.size < _ by omega)).trans m0w0
  clear m0w0
  have m0w0 := t
  clear t
  have t := (hb.cell (p := ⟨w3.heap.size, 1, none⟩) (show w3.heap.size < _ by omega)).trans m1w0
  clear m1w0
  have m1w0 := t
  clear t
  have t := (hb.cell (p := ⟨w3.heap.size, 2, none⟩) (show w3.heap.size < _ by omega)).trans m2w0
  clear m2w0
  have m2w0 := t
  clear t
  have t := (hb.cell (p := ⟨w5.heap.size, 0, none⟩) (show w5.heap.size < _ by omega)).trans m0c2
  clear m0c2
  have m0c2 := t
  clear t
  have t := (hb.cell (p := ⟨w5.heap.size, 1, none⟩) (show w5.heap.size < _ by omega)).trans m1c2
  clear m1c2
  have m1c2 := t
  clear t
  have t := (hb.cell (p := ⟨w5.heap.size, 2, none⟩) (show w5.heap.size < _ by omega)).trans m2c2
  clear m2c2
  have m2c2 := t
  clear t
  have t := (hb.cell (p := ⟨w7.heap.size, 0, none⟩) (show w7.heap.size < _ by omega)).trans m0g0
  clear m0g0
  have m0g0 := t
  clear t
  have t := (hb.cell (p := ⟨w7.heap.size, 1, none⟩) (show w7.heap.size < _ by omega)).trans m1g0
  clear m1g0
  have m1g0 := t
  clear t
  have t := (hb.cell (p := ⟨w7.heap.size, 2, none⟩) (show w7.heap.size < _ by omega)).trans m2g0
  clear m2g0
  have m2g0 := t
  clear t
  have t := OP.below hc1 hb
  clear hc1
  have hc1 := t
  clear t
  have t := local_O3.below hw0 hb
  clear hw0
  have hw0 := t
  clear t
  have t := OP.below hc2 hb
  clear hc2
  have hc2 := t
  clear t
  have t := local_O3.below hg0 hb
  clear hg0
  have hg0 := t
  clear t
  clear hb
  go_wp2_with fail
  have hcl := @i_TrivialModule
  have hcl' := hcl _ _ _ _ aPrime aDim w15 hc3.rd
  clear hcl
  rw [HMX.out, HMY.out, HMD.out, HMC.out] at hcl'
  have HCL := Lib.hid hcl'
  clear hcl'
  refine HCL.out.mono ?_
  rintro e w16 ⟨vh0, rfl, hh0, hb⟩
  have hb0x := below_size hb0 hb
  clear hb0
  have hb0 := hb0x
  clear hb0x
  have s16 : w15.heap.size ≤ w16.heap.size := hb.size
  have t := (hb.cell (p := ⟨w.heap.size, 0, none⟩) (show w.heap.size < _ by omega)).trans m0aP
  clear m0aP
  have m0aP := t
  clear t
  have t := (hb.cell (p := ⟨w.heap.size, 1, none⟩) (show w.heap.size < _ by omega)).trans m1aP
  clear m1aP
  have m1aP := t
  clear t
  have t := (hb.cell (p := ⟨w.heap.size, 2, none⟩) (show w.heap.size < _ by omega)).trans m2aP
  clear m2aP
  have m2aP := t
  clear t
  have t := (hb.cell (p := ⟨w3.heap.size, 0, none⟩) (show w3.heap.size < _ by omega)).trans m0w0
  clear m0w0
  have m0w0 := t
  clear t
  have t := (hb.cell (p := ⟨w3.heap.size, 1, none⟩) (show w3.heap.size < _ by omega)).trans m1w0
  clear m1w0
  have m1w0 := t
  clear t
  have t := (hb.cell (p := ⟨w3.heap.size, 2, none⟩) (show w3.heap.size < _ by omega)).trans m2w0
  clear m2w0
  have m2w0 := t
  clear t
  have t := (hb.cell (p := ⟨w5.heap.size, 0, none⟩) (show w5.heap.size < _ by omega)).trans m0c2
  clear m0c2
  have m0c2 := t
  clear t
  have t := (hb.cell (p := ⟨w5.heap.size, 1, none⟩) (show w5.heap.size < _ by omega)).trans m1c2
  clear m1c2
  have m1c2 := t
  clear t
  have t := (hb.cell (p := ⟨w5.heap.size, 2, none⟩) (show w5.heap.size < _ by omega)).trans m2c2
  clear m2c2
  have m2c2 := t
  clear t
  have t := (hb.cell (p := ⟨w7.heap.size, 0, none⟩) (show w7.heap.size < _ by omega)).trans m0g0
  clear m0g0
  have m0g0 := t
  clear t
  have t := (hb.cell (p := ⟨w7.heap.size, 1, none⟩) (show w7.heap.size < _ by omega)).trans m1g0
  clear m1g0
  have m1g0 := t
  clear t
  have t := (hb.cell (p := ⟨w7.heap.size, 2, none⟩) (show w7.heap.size < _ by omega)).trans m2g0
  clear m2g0
  have m2g0 := t
  clear t
  have t := OP.below hc1 hb
  clear hc1
  have hc1 := t
  clear t
  have t := local_O3.below hw0 hb
  clear hw0
  have hw0 := t
  clear t
  have t := OP.below hc2 hb
  clear hc2
  have hc2 := t
  clear t
  have t := local_O3.below hg0 hb
  clear hg0
  have hg0 := t
  clear t
  have t := OP.below hc3 hb
  clear hc3
  have hc3 := t
  clear t
  clear hb
  clear HCL
  have llh0 : _ ≤ 1000000000 := hml
  obtain ⟨ah0, qh0, rfl, _, _⟩ := (O3.rd hh0).form
  have yaP : w.heap.size < w16.heap.size := by omega
  have yw0 : w3.heap.size < w16.heap.size := by omega
  have yc2 : w5.heap.size < w16.heap.size := by omega
  have yg0 : w7.heap.size < w16.heap.size := by omega
  go_wp2_with fail
  clear yaP yw0 yc2 yg0
  have hb := below_alloc w16 (Obj.cells #[.int .i64 mx, .int .i64 my, Value.slice ah0 md.length qh0] 42)
  have zh0 : w16.heap.size < (w16.alloc (Obj.cells #[.int .i64 mx, .int .i64 my, Value.slice ah0 md.length qh0] 42)).heap.size := by simp
  have M0h0 : Hid ((w16.alloc (Obj.cells #[.int .i64 mx, .int .i64 my, Value.slice ah0 md.length qh0] 42)).cell? ⟨w16.heap.size, 0, none⟩ = some (.int .i64 mx)) := by show _ = _; simp [go_sem]
  have M1h0 : Hid ((w16.alloc (Obj.cells #[.int .i64 mx, .int .i64 my, Value.slice ah0 md.length qh0] 42)).cell? ⟨w16.heap.size, 1, none⟩ = some (.int .i64 my)) := by show _ = _; simp [go_sem]
  have M2h0 : Hid ((w16.alloc (Obj.cells #[.int .i64 mx, .int .i64 my, Value.slice ah0 md.length qh0] 42)).cell? ⟨w16.heap.size, 2, none⟩ = some (Value.slice ah0 md.length qh0)) := by show _ = _; simp [go_sem]
  generalize (w16.alloc (Obj.cells #[.int .i64 mx, .int .i64 my, Value.slice ah0 md.length qh0] 42)) = w17 at *
  have hb0x := below_size hb0 hb
  clear hb0
  have hb0 := hb0x
  clear hb0x
  have s17 : w16.heap.size ≤ w17.heap.size := hb.size
  have t := (hb.cell (p := ⟨w.heap.size, 0, none⟩) (show w.heap.size < _ by omega)).trans m0aP
  clear m0aP
  have m0aP := t
  clear t
  have t := (hb.cell (p := ⟨w.heap.size, 1, none⟩) (show w.heap.size < _ by omega)).trans m1aP
  clear m1aP
  have m1aP := t
  clear t
  have t := (hb.cell (p := ⟨w.heap.size, 2, none⟩) (show w.heap.size < _ by omega)).trans m2aP
  clear m2aP
  have m2aP := t
  clear t
  have t := (hb.cell (p := ⟨w3.heap.size, 0, none⟩) (show w3.heap.size < _ by omega)).trans m0w0
  clear m0w0
  have m0w0 := t
  clear t
  have t := (hb.cell (p := ⟨w3.heap.size, 1, none⟩) (show w3.heap.size < _ by omega)).trans m1w0
  clear m1w0
  have m1w0 := t
  clear t
  have t := (hb.cell (p := ⟨w3.heap.size, 2, none⟩) (show w3.heap.size < _ by omega)).trans m2w0
  clear m2w0
  have m2w0 := t
  clear t
  have t := (hb.cell (p := ⟨w5.heap.size, 0, none⟩) (show w5.heap.size < _ by omega)).trans m0c2
  clear m0c2
  have m0c2 := t
  clear t
  have t := (hb.cell (p := ⟨w5.heap.size, 1, none⟩) (show w5.heap.size < _ by omega)).trans m1c2
  clear m1c2
  have m1c2 := t
  clear t
  have t := (hb.cell (p := ⟨w5.heap.size, 2, none⟩) (show w5.heap.size < _ by omega)).trans m2c2
  clear m2c2
  have m2c2 := t
  clear t
  have t := (hb.cell (p := ⟨w7.heap.size, 0, none⟩) (show w7.heap.size < _ by omega)).trans m0g0
  clear m0g0
  have m0g0 := t
  clear t
  have t := (hb.cell (p := ⟨w7.heap.size, 1, none⟩) (show w7.heap.size < _ by omega)).trans m1g0
  clear m1g0
  have m1g0 := t
  clear t
  have t := (hb.cell (p := ⟨w7.heap.size, 2, none⟩) (show w7.heap.size < _ by omega)).trans m2g0
  clear m2g0
  have m2g0 := t
  clear t
  have t := OP.below hc1 hb
  clear hc1
  have hc1 := t
  clear t
  have t := local_O3.below hw0 hb
  clear hw0
  have hw0 := t
  clear t
  have t := OP.below hc2 hb
  clear hc2
  have hc2 := t
  clear t
  have t := local_O3.below hg0 hb
  clear hg0
  have hg0 := t
  clear t
  have t := OP.below hc3 hb
  clear hc3
  have hc3 := t
  clear t
  have t := local_O3.below hh0 hb
  clear hh0
  have hh0 := t
  clear t
  clear hb
  have m0h0 := M0h0.out
  have m1h0 := M1h0.out
  have m2h0 := M2h0.out
  refine (l_eqModule _ _ _ _ _ _ (O3.rd hh0) (O3.rd hw0)).mono ?_
  rintro e w18 ⟨rfl, hb⟩
  have hb0x := below_size hb0 hb
  clear hb0
  have hb0 := hb0x
  clear hb0x
  have s18 : w17.heap.size ≤ w18.heap.size := hb.size
  have t := (hb.cell (p := ⟨w.heap.size, 0, none⟩) (show w.heap.size < _ by omega)).trans m0aP
  clear m0aP
  have m0aP := t
  clear t
  have t := (hb.cell (p := ⟨w.heap.size, 1, none⟩) (show w.heap.size < _ by omega)).trans m1aP
  clear m1aP
  have m1aP := t
  clear t
  have t := (hb.cell (p := ⟨w.heap.size, 2, none⟩) (show w.heap.size < _ by omega)).trans m2aP
  clear m2aP
  have m2aP := t
  clear t
  have t := (hb.cell (p := ⟨w3.heap.size, 0, none⟩) (show w3.heap.size < _ by omega)).trans m0w0
  clear m0w0
  have m0w0 := t
  clear t
  have t := (hb.cell (p := ⟨w3.heap.size, 1, none⟩) (show w3.heap.size < _ by omega)).trans m1w0
  clear m1w0
  have m1w0 := t
  clear t
  have t := (hb.cell (p := ⟨w3.heap.size, 2, none⟩) (show w3.heap.size < _ by omega)).trans m2w0
  clear m2w0
  have m2w0 := t
  clear t
  have t := (hb.cell (p := ⟨w5.heap.size, 0, none⟩) (show w5.heap.size < _ by omega)).trans m0c2
  clear m0c2
  have m0c2 := t
  clear t
  have t := (hb.cell (p := ⟨w5.heap.size, 1, none⟩) (show w5.heap.size < _ by omega)).trans m1c2
  clear m1c2
  have m1c2 := t
  clear t
  have t := (hb.cell (p := ⟨w5.heap.size, 2, none⟩) (show w5.heap.size < _ by omega)).trans m2c2
  clear m2c2
  have m2c2 := t
  clear t
  have t := (hb.cell (p := ⟨w7.heap.size, 0, none⟩) (show w7.heap.size < _ by omega)).trans m0g0
  clear m0g0
  have m0g0 := t
  clear t
  have t := (hb.cell (p := ⟨w7.heap.size, 1, none⟩) (show w7.heap.size < _ by omega)).trans m1g0
  clear m1g0
  have m1g0 := t
  clear t
  have t := (hb.cell (p := ⟨w7.heap.size, 2, none⟩) (show w7.heap.size < _ by omega)).trans m2g0
  clear m2g0
  have m2g0 := t
  clear t
  have t := (hb.cell (p := ⟨w16.heap.size, 0, none⟩) (show w16.heap.size < _ by omega)).trans m0h0
  clear m0h0
  have m0h0 := t
  clear t
  have t := (hb.cell (p := ⟨w16.heap.size, 1, none⟩) (show w16.heap.size < _ by omega)).trans m1h0
  clear m1h0
  have m1h0 := t
  clear t
  have t := (hb.cell (p := ⟨w16.heap.size, 2, none⟩) (show w16.heap.size < _ by omega)).trans m2h0
  clear m2h0
  have m2h0 := t
  clear t
  have t := OP.below hc1 hb
  clear hc1
  have hc1 := t
  clear t
  have t := local_O3.below hw0 hb
  clear hw0
  have hw0 := t
  clear t
  have t := OP.below hc2 hb
  clear hc2
  have hc2 := t
  clear t
  have t := local_O3.below hg0 hb
  clear hg0
  have hg0 := t
  clear t
  have t := OP.below hc3 hb
  clear hc3
  have hc3 := t
  clear t
  have t := local_O3.below hh0 hb
  clear hh0
  have hh0 := t
  clear t
  clear hb
  go_wp2_with fail
  refine (l_heldModule _ _ _ _ _ _ (O3.rd hg0) (by omega) (by omega) llg0).mono ?_
  rintro e w19 ⟨rfl, hb⟩
  have hb0x := below_size hb0 hb
  clear hb0
  have hb0 := hb0x
  clear hb0x
  have s19 : w18.heap.size ≤ w19.heap.size := hb.size
  have t := (hb.cell (p := ⟨w.heap.size, 0, none⟩) (show w.heap.size < _ by omega)).trans m0aP
  clear m0aP
  have m0aP := t
  clear t
  have t := (hb.cell (p := ⟨w.heap.size, 1, none⟩) (show w.heap.size < _ by omega)).trans m1aP
  clear m1aP
  have m1aP := t
  clear t
  have t := (hb.cell (p := ⟨w.heap.size, 2, none⟩) (show w.heap.size < _ by omega)).trans m2aP
  clear m2aP
  have m2aP := t
  clear t
  have t := (hb.cell (p := ⟨w3.heap.size, 0, none⟩) (show w3.heap.size < _ by omega)).trans m0w0
  clear m0w0
  have m0w0 := t
  clear t
  have t := (hb.cell (p := ⟨w3.heap.size, 1, none⟩) (show w3.heap.size < _ by omega)).trans m1w0
  clear m1w0
  have m1w0 := t
  clear t
  have t := (hb.cell (p := ⟨w3.heap.size, 2, none⟩) (show w3.heap.size < _ by omega)).trans m2w0
  clear m2w0
  have m2w0 := t
  clear t
  have t := (hb.cell (p := ⟨w5.heap.size, 0, none⟩) (show w5.heap.size < _ by omega)).trans m0c2
  clear m0c2
  have m0c2 := t
  clear t
  have t := (hb.cell (p := ⟨w5.heap.size, 1, none⟩) (show w5.heap.size < _ by omega)).trans m1c2
  clear m1c2
  have m1c2 := t
  clear t
  have t := (hb.cell (p := ⟨w5.heap.size, 2, none⟩) (show w5.heap.size < _ by omega)).trans m2c2
  clear m2c2
  have m2c2 := t
  clear t
  have t := (hb.cell (p := ⟨w7.heap.size, 0, none⟩) (show w7.heap.size < _ by omega)).trans m0g0
  clear m0g0
  have m0g0 := t
  clear t
  have t := (hb.cell (p := ⟨w7.heap.size, 1, none⟩) (show w7.heap.size < _ by omega)).trans m1g0
  clear m1g0
  have m1g0 := t
  clear t
  have t := (hb.cell (p := ⟨w7.heap.size, 2, none⟩) (show w7.heap.size < _ by omega)).trans m2g0
  clear m2g0
  have m2g0 := t
  clear t
  have t := (hb.cell (p := ⟨w16.heap.size, 0, none⟩) (show w16.heap.size < _ by omega)).trans m0h0
  clear m0h0
  have m0h0 := t
  clear t
  have t := (hb.cell (p := ⟨w16.heap.size, 1, none⟩) (show w16.heap.size < _ by omega)).trans m1h0
  clear m1h0
  have m1h0 := t
  clear t
  have t := (hb.cell (p := ⟨w16.heap.size, 2, none⟩) (show w16.heap.size < _ by omega)).trans m2h0
  clear m2h0
  have m2h0 := t
  clear t
  have t := OP.below hc1 hb
  clear hc1
  have hc1 := t
  clear t
  have t := local_O3.below hw0 hb
  clear hw0
  have hw0 := t
  clear t
  have t := OP.below hc2 hb
  clear hc2
  have hc2 := t
  clear t
  have t := local_O3.below hg0 hb
  clear hg0
  have hg0 := t
  clear t
  have t := OP.below hc3 hb
  clear hc3
  have hc3 := t
  clear t
  have t := local_O3.below hh0 hb
  clear hh0
  have hh0 := t
  clear t
  clear hb
  go_wp2_with fail
  go_ret
  exact ⟨rfl, hbx.trans (hb0.mono hbx.size)⟩

theorem own : ownKnob Try.prog.godebug = none := by kernel_rfl
theorem laidOut : laidOutB Try.prog = true := by kernel_rfl

set_option maxRecDepth 100000 in
theorem lifted (os : Os) (started : os.Started) (H : Type) (enc : TypeId × Value → H) :
    ReturnsInHanded {} Try.checked os 5 .any (Rows.fnExactTrivialModuleSpec.pre6 enc Try.prog Try.f5 Rows.fnExactTrivialModuleRow.domain false) (Rows.fnExactTrivialModuleSpec.post enc Try.prog Try.f5 false true false false) := by
  refine returnsInHanded_of_change (C := Try.checked) own started (by kernel_rfl) Try.func5
    (ChangeSpec.witness6 (enc := enc) (C := Try.checked) false ⟨#[], #[.agg #[.slice none 0 0, .slice none 0 0, .slice none 0 0], .int .i64 0, .int .i64 0], []⟩ 8 (by kernel_rfl) (by kernel_rfl) (by kernel_rfl) (by kernel_rfl)) ?_
  intro W base args ds gs before hval0 hW hcnd _
  have hval : ∀ (j : Nat) t v, Try.f5.params[j]? = some t → args[j]? = some v → Value.okWide Try.prog W .any base t v := hval0
  have hW' := hW
  obtain ⟨p, q, hA0, hV, rfl, hfz, hnd⟩ := hW
  have hA : DataW.TrodAll enc Try.prog W 0 (fun _ => true) true Try.f5.params.toList args.toList ds p := hA0
  rw [Try.params5] at hA hval
  obtain ⟨v0, vs0, d0, ds0, p0, q0, hargs, rfl, rfl, h0, r0⟩ := trodAll_cons hA
  obtain ⟨v1, vs1, d1, ds1, p1, q1, rfl, rfl, rfl, h1, r1⟩ := trodAll_cons r0
  obtain ⟨v2, vs2, d2, ds2, p2, q2, rfl, rfl, rfl, h2, r2⟩ := trodAll_cons r1
  obtain ⟨rfl, rfl, rfl⟩ := trodAll_nil r2
  obtain rfl : args = #[v0, v1, v2] := by cases args; simp_all
  obtain ⟨rfl, rfl⟩ := trodVars_none hV
  have k0 := h0
  have lt0 : ∀ x ∈ p0, x.block < W.heap.size := by obtain ⟨m, hm⟩ := k0; exact DataW.trod_lt m _ _ _ hm
  obtain ⟨x10, x20, x30, xs0, rfl, f0⟩ := rdP_of (hval 0 26 v0 rfl rfl) h0
  obtain ⟨a1, rfl, rfl, rfl, f1⟩ := open_int Try.underlying2 (hval 1 2 v1 rfl rfl) h1
  obtain ⟨a2, rfl, rfl, rfl, f2⟩ := open_int Try.underlying2 (hval 2 2 v2 rfl rfl) h2
  clear hA0 hval0
  refine (core _ _ _ xs0 a1 a2 W f0 (wf_bd f1) (wf_bd f2)).mono fun e W' ⟨he, bel⟩ => ?_
  subst he
  exact ⟨_, rfl, _, _, _, [], _, [], hW', trodAll_mk1 (shut_bool Try.underlying4 _), (trodAll_cons_mk (Below.trod laidOut (by kernel_rfl) (of_decide_eq_true (by kernel_rfl)) k0 bel lt0) (trodAll_cons_mk (shut_int Try.underlying2 f1) (trodAll_cons_mk (shut_int Try.underlying2 f2) trodAll_mk0))), rfl, bel.frame _, fun h => by cases h⟩

theorem and_i {a b : Bool} (ha : a = true) (hb : b = true) : (a && b) = true := by rw [ha, hb]; rfl
set_option maxHeartbeats 8000000 in
theorem closed : joinedFacts Try.pinned.checked.prog 5 Try.f5 Rows.fnExactTrivialModuleSpec Rows.fnExactTrivialModuleRow = true := by
  unfold joinedFacts
  repeat' with_reducible apply and_i
  all_goals as_aux_lemma => kernel_rfl

theorem over : Rows.fnExactTrivialModuleRow.holds Try.pinned (OpenSpec.ofChange Rows.fnExactTrivialModuleSpec) :=
  OpenClaim.holds_of_wide 5 Try.f5 rfl rfl rfl rfl rfl rfl rfl ⟨rfl, rfl, rfl, rfl, rfl⟩ rfl rfl rfl rfl rfl (by kernel_rfl) Try.func5 closed
    (of_decide_eq_true (by kernel_rfl)) (by unfold Func.isWrapper; first | (rw [if_pos (by decide +kernel)]; kernel_rfl) | (rw [if_neg (by decide +kernel)]; exact ⟨rfl, rfl⟩))
    (fun os started H enc _ => lifted os started H enc)

/-- The given statement. -/
theorem proved : Rows.FnExactTrivialModuleSaid := over
#print axioms proved
end Go.Proofs.Ytjnnjnhmecidmaa.fnExactTrivialModule
