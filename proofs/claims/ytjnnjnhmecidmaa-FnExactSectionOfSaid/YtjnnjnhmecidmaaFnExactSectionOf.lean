/-
  The law FnExactSectionOf: for every input the call returns true, and each argument reads behind the call as it read before. No condition.
-/
import Derived.Test.YtjnnjnhmecidmaaOpen
import Derived.Test.YtjnnjnhmecidmaaSet
namespace Go.Proofs.Ytjnnjnhmecidmaa.fnExactSectionOf
set_option linter.unusedVariables false
set_option linter.unusedSimpArgs false
set_option maxRecDepth 100000
open Go.ChangeShapes Go.WideShapes Go.ChangeAt Go.RowKit
open Go.ChangeMaps (open_string shut_string)
set_option linter.unusedVariables false

set_option maxHeartbeats 8000000 in
set_option maxRecDepth 100000 in
theorem core (v1aE v2aE v3aE : Value) (aE : Pres) (aI : Int) (w : World) (haE : RdP w v1aE v2aE v3aE aE) (baI : -9223372036854775808 ≤ aI ∧ aI ≤ 9223372036854775807) :
    Calls Try.prog 7 #[.agg #[v1aE, v2aE, v3aE], .int .i64 aI] w (RetV w (.bool true)) := by
  have HEaE := Lib.hid haE
  clear haE
  by_cases gaE : ((psize aE : Nat) : Int) ≤ 1048576
  case neg =>
    have SNaE := Lib.hid (szI_out gaE)
    have hbx : Below w.heap.size w (w.alloc (Obj.cells #[v1aE, v2aE, v3aE] 26)) := below_alloc w _
    have zaE : w.heap.size < ((w.alloc (Obj.cells #[v1aE, v2aE, v3aE] 26))).heap.size := by simp <;> omega
    have M0aE : Hid (((w.alloc (Obj.cells #[v1aE, v2aE, v3aE] 26))).cell? ⟨w.heap.size, 0, none⟩ = some v1aE) := by show _ = _; simp [go_sem]
    have M1aE : Hid (((w.alloc (Obj.cells #[v1aE, v2aE, v3aE] 26))).cell? ⟨w.heap.size, 1, none⟩ = some v2aE) := by show _ = _; simp [go_sem]
    have M2aE : Hid (((w.alloc (Obj.cells #[v1aE, v2aE, v3aE] 26))).cell? ⟨w.heap.size, 2, none⟩ = some v3aE) := by show _ = _; simp [go_sem]
    go_enter Try.func7, Try.ntmps7
    go_wp2_with fail
    generalize (w.alloc (Obj.cells #[v1aE, v2aE, v3aE] 26)) = w0 at *
    have m0aE := M0aE.out
    have m1aE := M1aE.out
    have m2aE := M2aE.out
    have hb0 := Below.refl w0.heap.size w0
    go_wp2_with fail
    refine (l_szPresentation _ _ _ aE _ _ ((HEaE.out.below hbx).below hb0) (by omega) (by omega)).mono ?_
    rintro e w1 ⟨rfl, hb⟩
    have hb0x := below_size hb0 hb
    clear hb0
    have hb0 := hb0x
    clear hb0x
    have s1 : w0.heap.size ≤ w1.heap.size := hb.size
    have t := (hb.cell (p := ⟨w.heap.size, 0, none⟩) (show w.heap.size < _ by omega)).trans m0aE
    clear m0aE
    have m0aE := t
    clear t
    have t := (hb.cell (p := ⟨w.heap.size, 1, none⟩) (show w.heap.size < _ by omega)).trans m1aE
    clear m1aE
    have m1aE := t
    clear t
    have t := (hb.cell (p := ⟨w.heap.size, 2, none⟩) (show w.heap.size < _ by omega)).trans m2aE
    clear m2aE
    have m2aE := t
    clear t
    clear hb
    rw [SNaE.out]
    go_wp2_with fail
    go_ret
    exact ⟨rfl, hbx.trans (hb0.mono hbx.size)⟩
  have SZaE := Lib.hid (szI_in gaE)
  have laE : psize aE ≤ 1048576 := by omega
  have hbx : Below w.heap.size w (w.alloc (Obj.cells #[v1aE, v2aE, v3aE] 26)) := below_alloc w _
  have zaE : w.heap.size < ((w.alloc (Obj.cells #[v1aE, v2aE, v3aE] 26))).heap.size := by simp <;> omega
  have M0aE : Hid (((w.alloc (Obj.cells #[v1aE, v2aE, v3aE] 26))).cell? ⟨w.heap.size, 0, none⟩ = some v1aE) := by show _ = _; simp [go_sem]
  have M1aE : Hid (((w.alloc (Obj.cells #[v1aE, v2aE, v3aE] 26))).cell? ⟨w.heap.size, 1, none⟩ = some v2aE) := by show _ = _; simp [go_sem]
  have M2aE : Hid (((w.alloc (Obj.cells #[v1aE, v2aE, v3aE] 26))).cell? ⟨w.heap.size, 2, none⟩ = some v3aE) := by show _ = _; simp [go_sem]
  go_enter Try.func7, Try.ntmps7
  go_wp2_with fail
  generalize (w.alloc (Obj.cells #[v1aE, v2aE, v3aE] 26)) = w0 at *
  have m0aE := M0aE.out
  have m1aE := M1aE.out
  have m2aE := M2aE.out
  have hb0 := Below.refl w0.heap.size w0
  go_wp2_with fail
  refine (l_szPresentation _ _ _ aE _ _ ((HEaE.out.below hbx).below hb0) (by omega) (by omega)).mono ?_
  rintro e w1 ⟨rfl, hb⟩
  have hb0x := below_size hb0 hb
  clear hb0
  have hb0 := hb0x
  clear hb0x
  have s1 : w0.heap.size ≤ w1.heap.size := hb.size
  have t := (hb.cell (p := ⟨w.heap.size, 0, none⟩) (show w.heap.size < _ by omega)).trans m0aE
  clear m0aE
  have m0aE := t
  clear t
  have t := (hb.cell (p := ⟨w.heap.size, 1, none⟩) (show w.heap.size < _ by omega)).trans m1aE
  clear m1aE
  have m1aE := t
  clear t
  have t := (hb.cell (p := ⟨w.heap.size, 2, none⟩) (show w.heap.size < _ by omega)).trans m2aE
  clear m2aE
  have m2aE := t
  clear t
  clear hb
  rw [SZaE.out]
  go_wp2_with fail
  refine (l_toPresentation _ _ _ aE _ ((HEaE.out.below hbx).below hb0) (by omega)).mono ?_
  rintro e w2 ⟨v1c1, v2c1, v3c1, rfl, hc1, hb⟩
  have hb0x := below_size hb0 hb
  clear hb0
  have hb0 := hb0x
  clear hb0x
  have s2 : w1.heap.size ≤ w2.heap.size := hb.size
  have t := (hb.cell (p := ⟨w.heap.size, 0, none⟩) (show w.heap.size < _ by omega)).trans m0aE
  clear m0aE
  have m0aE := t
  clear t
  have t := (hb.cell (p := ⟨w.heap.size, 1, none⟩) (show w.heap.size < _ by omega)).trans m1aE
  clear m1aE
  have m1aE := t
  clear t
  have t := (hb.cell (p := ⟨w.heap.size, 2, none⟩) (show w.heap.size < _ by omega)).trans m2aE
  clear m2aE
  have m2aE := t
  clear t
  clear hb
  go_wp2_with fail
  have hml1 := len_seP aE aI
  have hml2 := len_seD aE aI
  have hml3 := len_seT aE aI
  obtain ⟨sp, hsp⟩ : ∃ z, seP aE aI = z := ⟨_, rfl⟩
  obtain ⟨mx, hmx⟩ : ∃ z, seX aE aI = z := ⟨_, rfl⟩
  obtain ⟨my, hmy⟩ : ∃ z, seY aE aI = z := ⟨_, rfl⟩
  obtain ⟨md, hmd⟩ : ∃ z, seD aE aI = z := ⟨_, rfl⟩
  obtain ⟨st, hst⟩ : ∃ z, seT aE aI = z := ⟨_, rfl⟩
  obtain ⟨sc, hsc⟩ : ∃ z, seK aE aI = z := ⟨_, rfl⟩
  rw [hsp] at hml1
  rw [hmd] at hml2
  rw [hst] at hml3
  have HSP := Lib.hid hsp
  have HMX := Lib.hid hmx
  have HMY := Lib.hid hmy
  have HMD := Lib.hid hmd
  have HST := Lib.hid hst
  have HSC := Lib.hid hsc
  clear hsp hmx hmy hmd hst hsc
  have hcl := @s_SectionOf
  have hcl' := hcl _ _ _ _ aI w2 hc1.rd
  clear hcl
  rw [HSP.out, HMX.out, HMY.out, HMD.out, HST.out, HSC.out] at hcl'
  have HCL := Lib.hid hcl'
  clear hcl'
  refine HCL.out.mono ?_
  rintro e w3 ⟨v1w0, v2w0, v3w0, vw1, vw2, rfl, Sw0, Sw1, Sw2, hw0, hw1, hw2, dw0w1, dw0w2, dw2w1, aw0, aw1, aw2, hb⟩
  have hb0x := below_size hb0 hb
  clear hb0
  have hb0 := hb0x
  clear hb0x
  have s3 : w2.heap.size ≤ w3.heap.size := hb.size
  have t := (hb.cell (p := ⟨w.heap.size, 0, none⟩) (show w.heap.size < _ by omega)).trans m0aE
  clear m0aE
  have m0aE := t
  clear t
  have t := (hb.cell (p := ⟨w.heap.size, 1, none⟩) (show w.heap.size < _ by omega)).trans m1aE
  clear m1aE
  have m1aE := t
  clear t
  have t := (hb.cell (p := ⟨w.heap.size, 2, none⟩) (show w.heap.size < _ by omega)).trans m2aE
  clear m2aE
  have m2aE := t
  clear t
  have t := OP.below hc1 hb
  clear hc1
  have hc1 := t
  clear t
  clear hb
  clear HCL
  obtain ⟨a1w0, n1w0, q1w0, a2w0, n2w0, q2w0, a3w0, n3w0, q3w0, rfl, rfl, rfl⟩ := hw0.formsE
  obtain ⟨amw1, qmw1, rfl, _, _⟩ := (O3.rd hw1).form
  have fw2 := hw2.rd
  obtain ⟨atw2, qtw2, rfl, _, _⟩ := fw2.form
  clear fw2
  have yaE : w.heap.size < w3.heap.size := by omega
  go_wp2_with fail
  clear yaE
  have hb := below_allocs2 w3 (Obj.cells #[Value.slice a1w0 n1w0 q1w0, Value.slice a2w0 n2w0 q2w0, Value.slice a3w0 n3w0 q3w0] 28) (Obj.cells #[.int .i64 mx, .int .i64 my, Value.slice amw1 md.length qmw1] 42)
  have zw0 : w3.heap.size < ((w3.alloc (Obj.cells #[Value.slice a1w0 n1w0 q1w0, Value.slice a2w0 n2w0 q2w0, Value.slice a3w0 n3w0 q3w0] 28)).alloc (Obj.cells #[.int .i64 mx, .int .i64 my, Value.slice amw1 md.length qmw1] 42)).heap.size := by simp <;> omega
  have M0w0 : Hid (((w3.alloc (Obj.cells #[Value.slice a1w0 n1w0 q1w0, Value.slice a2w0 n2w0 q2w0, Value.slice a3w0 n3w0 q3w0] 28)).alloc (Obj.cells #[.int .i64 mx, .int .i64 my, Value.slice amw1 md.length qmw1] 42)).cell? ⟨w3.heap.size, 0, none⟩ = some (Value.slice a1w0 n1w0 q1w0)) := by show _ = _; simp [go_sem]
  have M1w0 : Hid (((w3.alloc (Obj.cells #[Value.slice a1w0 n1w0 q1w0, Value.slice a2w0 n2w0 q2w0, Value.slice a3w0 n3w0 q3w0] 28)).alloc (Obj.cells #[.int .i64 mx, .int .i64 my, Value.slice amw1 md.length qmw1] 42)).cell? ⟨w3.heap.size, 1, none⟩ = some (Value.slice a2w0 n2w0 q2w0)) := by show _ = _; simp [go_sem]
  have M2w0 : Hid (((w3.alloc (Obj.cells #[Value.slice a1w0 n1w0 q1w0, Value.slice a2w0 n2w0 q2w0, Value.slice a3w0 n3w0 q3w0] 28)).alloc (Obj.cells #[.int .i64 mx, .int .i64 my, Value.slice amw1 md.length qmw1] 42)).cell? ⟨w3.heap.size, 2, none⟩ = some (Value.slice a3w0 n3w0 q3w0)) := by show _ = _; simp [go_sem]
  have zw1 : w3.heap.size + 1 < ((w3.alloc (Obj.cells #[Value.slice a1w0 n1w0 q1w0, Value.slice a2w0 n2w0 q2w0, Value.slice a3w0 n3w0 q3w0] 28)).alloc (Obj.cells #[.int .i64 mx, .int .i64 my, Value.slice amw1 md.length qmw1] 42)).heap.size := by simp <;> omega
  have M0w1 : Hid (((w3.alloc (Obj.cells #[Value.slice a1w0 n1w0 q1w0, Value.slice a2w0 n2w0 q2w0, Value.slice a3w0 n3w0 q3w0] 28)).alloc (Obj.cells #[.int .i64 mx, .int .i64 my, Value.slice amw1 md.length qmw1] 42)).cell? ⟨w3.heap.size + 1, 0, none⟩ = some (.int .i64 mx)) := by show _ = _; simp [go_sem]
  have M1w1 : Hid (((w3.alloc (Obj.cells #[Value.slice a1w0 n1w0 q1w0, Value.slice a2w0 n2w0 q2w0, Value.slice a3w0 n3w0 q3w0] 28)).alloc (Obj.cells #[.int .i64 mx, .int .i64 my, Value.slice amw1 md.length qmw1] 42)).cell? ⟨w3.heap.size + 1, 1, none⟩ = some (.int .i64 my)) := by show _ = _; simp [go_sem]
  have M2w1 : Hid (((w3.alloc (Obj.cells #[Value.slice a1w0 n1w0 q1w0, Value.slice a2w0 n2w0 q2w0, Value.slice a3w0 n3w0 q3w0] 28)).alloc (Obj.cells #[.int .i64 mx, .int .i64 my, Value.slice amw1 md.length qmw1] 42)).cell? ⟨w3.heap.size + 1, 2, none⟩ = some (Value.slice amw1 md.length qmw1)) := by show _ = _; simp [go_sem]
  generalize ((w3.alloc (Obj.cells #[Value.slice a1w0 n1w0 q1w0, Value.slice a2w0 n2w0 q2w0, Value.slice a3w0 n3w0 q3w0] 28)).alloc (Obj.cells #[.int .i64 mx, .int .i64 my, Value.slice amw1 md.length qmw1] 42)) = w4 at *
  have hb0x := below_size hb0 hb
  clear hb0
  have hb0 := hb0x
  clear hb0x
  have s4 : w3.heap.size ≤ w4.heap.size := hb.size
  have t := (hb.cell (p := ⟨w.heap.size, 0, none⟩) (show w.heap.size < _ by omega)).trans m0aE
  clear m0aE
  have m0aE := t
  clear t
  have t := (hb.cell (p := ⟨w.heap.size, 1, none⟩) (show w.heap.size < _ by omega)).trans m1aE
  clear m1aE
  have m1aE := t
  clear t
  have t := (hb.cell (p := ⟨w.heap.size, 2, none⟩) (show w.heap.size < _ by omega)).trans m2aE
  clear m2aE
  have m2aE := t
  clear t
  have t := OP.below hc1 hb
  clear hc1
  have hc1 := t
  clear t
  have t := OP.below hw0 hb
  clear hw0
  have hw0 := t
  clear t
  have t := local_O3.below hw1 hb
  clear hw1
  have hw1 := t
  clear t
  have t := local_O2.below hw2 hb
  clear hw2
  have hw2 := t
  clear t
  clear hb
  have m0w0 := M0w0.out
  have m1w0 := M1w0.out
  have m2w0 := M2w0.out
  have m0w1 := M0w1.out
  have m1w1 := M1w1.out
  have m2w1 := M2w1.out
  refine (l_toPresentation _ _ _ aE _ ((HEaE.out.below hbx).below hb0) (by omega)).mono ?_
  rintro e w5 ⟨v1c2, v2c2, v3c2, rfl, hc2, hb⟩
  have hb0x := below_size hb0 hb
  clear hb0
  have hb0 := hb0x
  clear hb0x
  have s5 : w4.heap.size ≤ w5.heap.size := hb.size
  have t := (hb.cell (p := ⟨w.heap.size, 0, none⟩) (show w.heap.size < _ by omega)).trans m0aE
  clear m0aE
  have m0aE := t
  clear t
  have t := (hb.cell (p := ⟨w.heap.size, 1, none⟩) (show w.heap.size < _ by omega)).trans m1aE
  clear m1aE
  have m1aE := t
  clear t
  have t := (hb.cell (p := ⟨w.heap.size, 2, none⟩) (show w.heap.size < _ by omega)).trans m2aE
  clear m2aE
  have m2aE := t
  clear t
  have t := (hb.cell (p := ⟨w3.heap.size, 0, none⟩) (show w3.heap.size < _ by omega)).trans m0w0
  clear m0w0
  have m0w0 := t
  clear t
  have t := (hb.cell (p := ⟨w3.heap.size, 1, none⟩) (show w3.heap.size < _ by omega)).trans m1w0
  clear m1w0
  have m1w0 := t
  clear t
  have t := (hb.cell (p := ⟨w3.heap.size, 2, none⟩) (show w3.heap.size < _ by omega)).trans m2w0
  clear m2w0
  have m2w0 := t
  clear t
  have t := (hb.cell (p := ⟨w3.heap.size + 1, 0, none⟩) (show w3.heap.size + 1 < _ by omega)).trans m0w1
  clear m0w1
  have m0w1 := t
  clear t
  have t := (hb.cell (p := ⟨w3.heap.size + 1, 1, none⟩) (show w3.heap.size + 1 < _ by omega)).trans m1w1
  clear m1w1
  have m1w1 := t
  clear t
  have t := (hb.cell (p := ⟨w3.heap.size + 1, 2, none⟩) (show w3.heap.size + 1 < _ by omega)).trans m2w1
  clear m2w1
  have m2w1 := t
  clear t
  have t := OP.below hc1 hb
  clear hc1
  have hc1 := t
  clear t
  have t := OP.below hw0 hb
  clear hw0
  have hw0 := t
  clear t
  have t := local_O3.below hw1 hb
  clear hw1
  have hw1 := t
  clear t
  have t := local_O2.below hw2 hb
  clear hw2
  have hw2 := t
  clear t
  clear hb
  obtain ⟨a1c2, n1c2, q1c2, a2c2, n2c2, q2c2, a3c2, n3c2, q3c2, rfl, rfl, rfl⟩ := hc2.formsE
  have llc2 : psize aE ≤ 1000000000 := by omega
  have yaE : w.heap.size < w5.heap.size := by omega
  have yw0 : w3.heap.size < w5.heap.size := by omega
  have yw1 : w3.heap.size + 1 < w5.heap.size := by omega
  go_wp2_with fail
  clear yaE yw0 yw1
  have hb := below_alloc w5 (Obj.cells #[Value.slice a1c2 n1c2 q1c2, Value.slice a2c2 n2c2 q2c2, Value.slice a3c2 n3c2 q3c2] 28)
  have zc2 : w5.heap.size < (w5.alloc (Obj.cells #[Value.slice a1c2 n1c2 q1c2, Value.slice a2c2 n2c2 q2c2, Value.slice a3c2 n3c2 q3c2] 28)).heap.size := by simp
  have M0c2 : Hid ((w5.alloc (Obj.cells #[Value.slice a1c2 n1c2 q1c2, Value.slice a2c2 n2c2 q2c2, Value.slice a3c2 n3c2 q3c2] 28)).cell? ⟨w5.heap.size, 0, none⟩ = some (Value.slice a1c2 n1c2 q1c2)) := by show _ = _; simp [go_sem]
  have M1c2 : Hid ((w5.alloc (Obj.cells #[Value.slice a1c2 n1c2 q1c2, Value.slice a2c2 n2c2 q2c2, Value.slice a3c2 n3c2 q3c2] 28)).cell? ⟨w5.heap.size, 1, none⟩ = some (Value.slice a2c2 n2c2 q2c2)) := by show _ = _; simp [go_sem]
  have M2c2 : Hid ((w5.alloc (Obj.cells #[Value.slice a1c2 n1c2 q1c2, Value.slice a2c2 n2c2 q2c2, Value.slice a3c2 n3c2 q3c2] 28)).cell? ⟨w5.heap.size, 2, none⟩ = some (Value.slice a3c2 n3c2 q3c2)) := by show _ = _; simp [go_sem]
  generalize (w5.alloc (Obj.cells #[Value.slice a1c2 n1c2 q1c2, Value.slice a2c2 n2c2 q2c2, Value.slice a3c2 n3c2 q3c2] 28)) = w6 at *
  have hb0x := below_size hb0 hb
  clear hb0
  have hb0 := hb0x
  clear hb0x
  have s6 : w5.heap.size ≤ w6.heap.size := hb.size
  have t := (hb.cell (p := ⟨w.heap.size, 0, none⟩) (show w.heap.size < _ by omega)).trans m0aE
  clear m0aE
  have m0aE := t
  clear t
  have t := (hb.cell (p := ⟨w.heap.size, 1, none⟩) (show w.heap.size < _ by omega)).trans m1aE
  clear m1aE
  have m1aE := t
  clear t
  have t := (hb.cell (p := ⟨w.heap.size, 2, none⟩) (show w.heap.size < _ by omega)).trans m2aE
  clear m2aE
  have m2aE := t
  clear t
  have t := (hb.cell (p := ⟨w3.heap.size, 0, none⟩) (show w3.heap.size < _ by omega)).trans m0w0
  clear m0w0
  have m0w0 := t
  clear t
  have t := (hb.cell (p := ⟨w3.heap.size, 1, none⟩) (show w3.heap.size < _ by omega)).trans m1w0
  clear m1w0
  have m1w0 := t
  clear t
  have t := (hb.cell (p := ⟨w3.heap.size, 2, none⟩) (show w3.heap.size < _ by omega)).trans m2w0
  clear m2w0
  have m2w0 := t
  clear t
  have t := (hb.cell (p := ⟨w3.heap.size + 1, 0, none⟩) (show w3.heap.size + 1 < _ by omega)).trans m0w1
  clear m0w1
  have m0w1 := t
  clear t
  have t := (hb.cell (p := ⟨w3.heap.size + 1, 1, none⟩) (show w3.heap.size + 1 < _ by omega)).trans m1w1
  clear m1w1
  have m1w1 := t
  clear t
  have t := (hb.cell (p := ⟨w3.heap.size + 1, 2, none⟩) (show w3.heap.size + 1 < _ by omega)).trans m2w1
  clear m2w1
  have m2w1 := t
  clear t
  have t := OP.below hc1 hb
  clear hc1
  have hc1 := t
  clear t
  have t := OP.below hw0 hb
  clear hw0
  have hw0 := t
  clear t
  have t := local_O3.below hw1 hb
  clear hw1
  have hw1 := t
  clear t
  have t := local_O2.below hw2 hb
  clear hw2
  have hw2 := t
  clear t
  have t := OP.below hc2 hb
  clear hc2
  have hc2 := t
  clear t
  clear hb
  have m0c2 := M0c2.out
  have m1c2 := M1c2.out
  have m2c2 := M2c2.out
  have hcl := @i_SectionOf
  have hcl' := hcl _ _ _ _ aI w6 hc2.rd
  clear hcl
  rw [HSP.out, HMX.out, HMY.out, HMD.out, HST.out, HSC.out] at hcl'
  have HCL := Lib.hid hcl'
  clear hcl'
  refine HCL.out.mono ?_
  rintro e w7 ⟨v1g0, v2g0, v3g0, vg1, vg2, rfl, Sg0, Sg1, Sg2, hg0, hg1, hg2, dg0g1, dg0g2, dg2g1, ag0, ag1, ag2, hb⟩
  have hb0x := below_size hb0 hb
  clear hb0
  have hb0 := hb0x
  clear hb0x
  have s7 : w6.heap.size ≤ w7.heap.size := hb.size
  have t := (hb.cell (p := ⟨w.heap.size, 0, none⟩) (show w.heap.size < _ by omega)).trans m0aE
  clear m0aE
  have m0aE := t
  clear t
  have t := (hb.cell (p := ⟨w.heap.size, 1, none⟩) (show w.heap.size < _ by omega)).trans m1aE
  clear m1aE
  have m1aE := t
  clear t
  have t := (hb.cell (p := ⟨w.heap.size, 2, none⟩) (show w.heap.size < _ by omega)).trans m2aE
  clear m2aE
  have m2aE := t
  clear t
  have t := (hb.cell (p := ⟨w3.heap.size, 0, none⟩) (show w3.heap.size < _ by omega)).trans m0w0
  clear m0w0
  have m0w0 := t
  clear t
  have t := (hb.cell (p := ⟨w3.heap.size, 1, none⟩) (show w3.heap.size < _ by omega)).trans m1w0
  clear m1w0
  have m1w0 := t
  clear t
  have t := (hb.cell (p := ⟨w3.heap.size, 2, none⟩) (show w3.heap.size < _ by omega)).trans m2w0
  clear m2w0
  have m2w0 := t
  clear t
  have t := (hb.cell (p := ⟨w3.heap.size + 1, 0, none⟩) (show w3.heap.size + 1 < _ by omega)).trans m0w1
  clear m0w1
  have m0w1 := t
  clear t
  have t := (hb.cell (p := ⟨w3.heap.size + 1, 1, none⟩) (show w3.heap.size + 1 < _ by omega)).trans m1w1
  clear m1w1
  have m1w1 := t
  clear t
  have t := (hb.cell (p := ⟨w3.heap.size + 1, 2, none⟩) (show w3.heap.size + 1 < _ by omega)).trans m2w1
  clear m2w1
  have m2w1 := t
  clear t
  have t := (hb.cell (p := ⟨w5.heap.size, 0, none⟩) (show w5.heap.size < _ by omega)).trans m0c2
  clear m0c2
  have m0c2 := t
  clear t
  have t := (hb.cell (p := ⟨w5.heap.size, 1, none⟩) (show w5.heap.size < _ by omega)).trans m1c2
  clear m1c2
  have m1c2 := t
  clear t
  have t := (hb.cell (p := ⟨w5.heap.size, 2, none⟩) (show w5.heap.size < _ by omega)).trans m2c2
  clear m2c2
  have m2c2 := t
  clear t
  have t := OP.below hc1 hb
  clear hc1
  have hc1 := t
  clear t
  have t := OP.below hw0 hb
  clear hw0
  have hw0 := t
  clear t
  have t := local_O3.below hw1 hb
  clear hw1
  have hw1 := t
  clear t
  have t := local_O2.below hw2 hb
  clear hw2
  have hw2 := t
  clear t
  have t := OP.below hc2 hb
  clear hc2
  have hc2 := t
  clear t
  clear hb
  clear HCL
  have llg0 : _ ≤ 1000000000 := hml1
  have llg1 : _ ≤ 1000000000 := hml2
  have llg2 : _ ≤ 1000000000 := hml3
  have lmg1 : tot3 md ≤ 1000000000 := by have := llg1; unfold msize at this; omega
  have lcg2 : (cat st).length ≤ 1000000000 := by have := llg2; unfold size2 at this; omega
  obtain ⟨a1g0, n1g0, q1g0, a2g0, n2g0, q2g0, a3g0, n3g0, q3g0, rfl, rfl, rfl⟩ := hg0.formsE
  obtain ⟨amg1, qmg1, rfl, _, _⟩ := (O3.rd hg1).form
  have fg2 := hg2.rd
  obtain ⟨atg2, qtg2, rfl, _, _⟩ := fg2.form
  clear fg2
  have yaE : w.heap.size < w7.heap.size := by omega
  have yw0 : w3.heap.size < w7.heap.size := by omega
  have yw1 : w3.heap.size + 1 < w7.heap.size := by omega
  have yc2 : w5.heap.size < w7.heap.size := by omega
  go_wp2_with fail
  clear yaE yw0 yw1 yc2
  have hb := below_allocs2 w7 (Obj.cells #[Value.slice a1g0 n1g0 q1g0, Value.slice a2g0 n2g0 q2g0, Value.slice a3g0 n3g0 q3g0] 28) (Obj.cells #[.int .i64 mx, .int .i64 my, Value.slice amg1 md.length qmg1] 42)
  have zg0 : w7.heap.size < ((w7.alloc (Obj.cells #[Value.slice a1g0 n1g0 q1g0, Value.slice a2g0 n2g0 q2g0, Value.slice a3g0 n3g0 q3g0] 28)).alloc (Obj.cells #[.int .i64 mx, .int .i64 my, Value.slice amg1 md.length qmg1] 42)).heap.size := by simp <;> omega
  have M0g0 : Hid (((w7.alloc (Obj.cells #[Value.slice a1g0 n1g0 q1g0, Value.slice a2g0 n2g0 q2g0, Value.slice a3g0 n3g0 q3g0] 28)).alloc (Obj.cells #[.int .i64 mx, .int .i64 my, Value.slice amg1 md.length qmg1] 42)).cell? ⟨w7.heap.size, 0, none⟩ = some (Value.slice a1g0 n1g0 q1g0)) := by show _ = _; simp [go_sem]
  have M1g0 : Hid (((w7.alloc (Obj.cells #[Value.slice a1g0 n1g0 q1g0, Value.slice a2g0 n2g0 q2g0, Value.slice a3g0 n3g0 q3g0] 28)).alloc (Obj.cells #[.int .i64 mx, .int .i64 my, Value.slice amg1 md.length qmg1] 42)).cell? ⟨w7.heap.size, 1, none⟩ = some (Value.slice a2g0 n2g0 q2g0)) := by show _ = _; simp [go_sem]
  have M2g0 : Hid (((w7.alloc (Obj.cells #[Value.slice a1g0 n1g0 q1g0, Value.slice a2g0 n2g0 q2g0, Value.slice a3g0 n3g0 q3g0] 28)).alloc (Obj.cells #[.int .i64 mx, .int .i64 my, Value.slice amg1 md.length qmg1] 42)).cell? ⟨w7.heap.size, 2, none⟩ = some (Value.slice a3g0 n3g0 q3g0)) := by show _ = _; simp [go_sem]
  have zg1 : w7.heap.size + 1 < ((w7.alloc (Obj.cells #[Value.slice a1g0 n1g0 q1g0, Value.slice a2g0 n2g0 q2g0, Value.slice a3g0 n3g0 q3g0] 28)).alloc (Obj.cells #[.int .i64 mx, .int .i64 my, Value.slice amg1 md.length qmg1] 42)).heap.size := by simp <;> omega
  have M0g1 : Hid (((w7.alloc (Obj.cells #[Value.slice a1g0 n1g0 q1g0, Value.slice a2g0 n2g0 q2g0, Value.slice a3g0 n3g0 q3g0] 28)).alloc (Obj.cells #[.int .i64 mx, .int .i64 my, Value.slice amg1 md.length qmg1] 42)).cell? ⟨w7.heap.size + 1, 0, none⟩ = some (.int .i64 mx)) := by show _ = _; simp [go_sem]
  have M1g1 : Hid (((w7.alloc (Obj.cells #[Value.slice a1g0 n1g0 q1g0, Value.slice a2g0 n2g0 q2g0, Value.slice a3g0 n3g0 q3g0] 28)).alloc (Obj.cells #[.int .i64 mx, .int .i64 my, Value.slice amg1 md.length qmg1] 42)).cell? ⟨w7.heap.size + 1, 1, none⟩ = some (.int .i64 my)) := by show _ = _; simp [go_sem]
  have M2g1 : Hid (((w7.alloc (Obj.cells #[Value.slice a1g0 n1g0 q1g0, Value.slice a2g0 n2g0 q2g0, Value.slice a3g0 n3g0 q3g0] 28)).alloc (Obj.cells #[.int .i64 mx, .int .i64 my, Value.slice amg1 md.length qmg1] 42)).cell? ⟨w7.heap.size + 1, 2, none⟩ = some (Value.slice amg1 md.length qmg1)) := by show _ = _; simp [go_sem]
  generalize ((w7.alloc (Obj.cells #[Value.slice a1g0 n1g0 q1g0, Value.slice a2g0 n2g0 q2g0, Value.slice a3g0 n3g0 q3g0] 28)).alloc (Obj.cells #[.int .i64 mx, .int .i64 my, Value.slice amg1 md.length qmg1] 42)) = w8 at *
  have hb0x := below_size hb0 hb
  clear hb0
  have hb0 := hb0x
  clear hb0x
  have s8 : w7.heap.size ≤ w8.heap.size := hb.size
  have t := (hb.cell (p := ⟨w.heap.size, 0, none⟩) (show w.heap.size < _ by omega)).trans m0aE
  clear m0aE
  have m0aE := t
  clear t
  have t := (hb.cell (p := ⟨w.heap.size, 1, none⟩) (show w.heap.size < _ by omega)).trans m1aE
  clear m1aE
  have m1aE := t
  clear t
  have t := (hb.cell (p := ⟨w.heap.size, 2, none⟩) (show w.heap.size < _ by omega)).trans m2aE
  clear m2aE
  have m2aE := t
  clear t
  have t := (hb.cell (p := ⟨w3.heap.size, 0, none⟩) (show w3.heap.size < _ by omega)).trans m0w0
  clear m0w0
  have m0w0 := t
  clear t
  have t := (hb.cell (p := ⟨w3.heap.size, 1, none⟩) (show w3.heap.size < _ by omega)).trans m1w0
  clear m1w0
  have m1w0 := t
  clear t
  have t := (hb.cell (p := ⟨w3.heap.size, 2, none⟩) (show w3.heap.size < _ by omega)).trans m2w0
  clear m2w0
  have m2w0 := t
  clear t
  have t := (hb.cell (p := ⟨w3.heap.size + 1, 0, none⟩) (show w3.heap.size + 1 < _ by omega)).trans m0w1
  clear m0w1
  have m0w1 := t
  clear t
  have t := (hb.cell (p := ⟨w3.heap.size + 1, 1, none⟩) (show w3.heap.size + 1 < _ by omega)).trans m1w1
  clear m1w1
  have m1w1 := t
  clear t
  have t := (hb.cell (p := ⟨w3.heap.size + 1, 2, none⟩) (show w3.heap.size + 1 < _ by omega)).trans m2w1
  clear m2w1
  have m2w1 := t
  clear t
  have t := (hb.cell (p := ⟨w5.heap.size, 0, none⟩) (show w5.heap.size < _ by omega)).trans m0c2
  clear m0c2
  have m0c2 := t
  clear t
  have t := (hb.cell (p := ⟨w5.heap.size, 1, none⟩) (show w5.heap.size < _ by omega)).trans m1c2
  clear m1c2
  have m1c2 := t
  clear t
  have t := (hb.cell (p := ⟨w5.heap.size, 2, none⟩) (show w5.heap.size < _ by omega)).trans m2c2
  clear m2c2
  have m2c2 := t
  clear t
  have t := OP.below hc1 hb
  clear hc1
  have hc1 := t
  clear t
  have t := OP.below hw0 hb
  clear hw0
  have hw0 := t
  clear t
  have t := local_O3.below hw1 hb
  clear hw1
  have hw1 := t
  clear t
  have t := local_O2.below hw2 hb
  clear hw2
  have hw2 := t
  clear t
  have t := OP.below hc2 hb
  clear hc2
  have hc2 := t
  clear t
  have t := OP.below hg0 hb
  clear hg0
  have hg0 := t
  clear t
  have t := local_O3.below hg1 hb
  clear hg1
  have hg1 := t
  clear t
  have t := local_O2.below hg2 hb
  clear hg2
  have hg2 := t
  clear t
  clear hb
  have m0g0 := M0g0.out
  have m1g0 := M1g0.out
  have m2g0 := M2g0.out
  have m0g1 := M0g1.out
  have m1g1 := M1g1.out
  have m2g1 := M2g1.out
  refine (l_eqPresentation _ _ _ _ _ _ _ _ hg0.rd hw0.rd).mono ?_
  rintro e w9 ⟨rfl, hb⟩
  have hb0x := below_size hb0 hb
  clear hb0
  have hb0 := hb0x
  clear hb0x
  have s9 : w8.heap.size ≤ w9.heap.size := hb.size
  have t := (hb.cell (p := ⟨w.heap.size, 0, none⟩) (show w.heap.size < _ by omega)).trans m0aE
  clear m0aE
  have m0aE := t
  clear t
  have t := (hb.cell (p := ⟨w.heap.size, 1, none⟩) (show w.heap.size < _ by omega)).trans m1aE
  clear m1aE
  have m1aE := t
  clear t
  have t := (hb.cell (p := ⟨w.heap.size, 2, none⟩) (show w.heap.size < _ by omega)).trans m2aE
  clear m2aE
  have m2aE := t
  clear t
  have t := (hb.cell (p := ⟨w3.heap.size, 0, none⟩) (show w3.heap.size < _ by omega)).trans m0w0
  clear m0w0
  have m0w0 := t
  clear t
  have t := (hb.cell (p := ⟨w3.heap.size, 1, none⟩) (show w3.heap.size < _ by omega)).trans m1w0
  clear m1w0
  have m1w0 := t
  clear t
  have t := (hb.cell (p := ⟨w3.heap.size, 2, none⟩) (show w3.heap.size < _ by omega)).trans m2w0
  clear m2w0
  have m2w0 := t
  clear t
  have t := (hb.cell (p := ⟨w3.heap.size + 1, 0, none⟩) (show w3.heap.size + 1 < _ by omega)).trans m0w1
  clear m0w1
  have m0w1 := t
  clear t
  have t := (hb.cell (p := ⟨w3.heap.size + 1, 1, none⟩) (show w3.heap.size + 1 < _ by omega)).trans m1w1
  clear m1w1
  have m1w1 := t
  clear t
  have t := (hb.cell (p := ⟨w3.heap.size + 1, 2, none⟩) (show w3.heap.size + 1 < _ by omega)).trans m2w1
  clear m2w1
  have m2w1 := t
  clear t
  have t := (hb.cell (p := ⟨w5.heap.size, 0, none⟩) (show w5.heap.size < _ by omega)).trans m0c2
  clear m0c2
  have m0c2 := t
  clear t
  have t := (hb.cell (p := ⟨w5.heap.size, 1, none⟩) (show w5.heap.size < _ by omega)).trans m1c2
  clear m1c2
  have m1c2 := t
  clear t
  have t := (hb.cell (p := ⟨w5.heap.size, 2, none⟩) (show w5.heap.size < _ by omega)).trans m2c2
  clear m2c2
  have m2c2 := t
  clear t
  have t := (hb.cell (p := ⟨w7.heap.size, 0, none⟩) (show w7.heap.size < _ by omega)).trans m0g0
  clear m0g0
  have m0g0 := t
  clear t
  have t := (hb.cell (p := ⟨w7.heap.size, 1, none⟩) (show w7.heap.size < _ by omega)).trans m1g0
  clear m1g0
  have m1g0 := t
  clear t
  have t := (hb.cell (p := ⟨w7.heap.size, 2, none⟩) (show w7.heap.size < _ by omega)).trans m2g0
  clear m2g0
  have m2g0 := t
  clear t
  have t := (hb.cell (p := ⟨w7.heap.size + 1, 0, none⟩) (show w7.heap.size + 1 < _ by omega)).trans m0g1
  clear m0g1
  have m0g1 := t
  clear t
  have t := (hb.cell (p := ⟨w7.heap.size + 1, 1, none⟩) (show w7.heap.size + 1 < _ by omega)).trans m1g1
  clear m1g1
  have m1g1 := t
  clear t
  have t := (hb.cell (p := ⟨w7.heap.size + 1, 2, none⟩) (show w7.heap.size + 1 < _ by omega)).trans m2g1
  clear m2g1
  have m2g1 := t
  clear t
  have t := OP.below hc1 hb
  clear hc1
  have hc1 := t
  clear t
  have t := OP.below hw0 hb
  clear hw0
  have hw0 := t
  clear t
  have t := local_O3.below hw1 hb
  clear hw1
  have hw1 := t
  clear t
  have t := local_O2.below hw2 hb
  clear hw2
  have hw2 := t
  clear t
  have t := OP.below hc2 hb
  clear hc2
  have hc2 := t
  clear t
  have t := OP.below hg0 hb
  clear hg0
  have hg0 := t
  clear t
  have t := local_O3.below hg1 hb
  clear hg1
  have hg1 := t
  clear t
  have t := local_O2.below hg2 hb
  clear hg2
  have hg2 := t
  clear t
  clear hb
  go_wp2_with fail
  refine (l_eqModule _ _ _ _ _ _ (O3.rd hg1) (O3.rd hw1)).mono ?_
  rintro e w10 ⟨rfl, hb⟩
  have hb0x := below_size hb0 hb
  clear hb0
  have hb0 := hb0x
  clear hb0x
  have s10 : w9.heap.size ≤ w10.heap.size := hb.size
  have t := (hb.cell (p := ⟨w.heap.size, 0, none⟩) (show w.heap.size < _ by omega)).trans m0aE
  clear m0aE
  have m0aE := t
  clear t
  have t := (hb.cell (p := ⟨w.heap.size, 1, none⟩) (show w.heap.size < _ by omega)).trans m1aE
  clear m1aE
  have m1aE := t
  clear t
  have t := (hb.cell (p := ⟨w.heap.size, 2, none⟩) (show w.heap.size < _ by omega)).trans m2aE
  clear m2aE
  have m2aE := t
  clear t
  have t := (hb.cell (p := ⟨w3.heap.size, 0, none⟩) (show w3.heap.size < _ by omega)).trans m0w0
  clear m0w0
  have m0w0 := t
  clear t
  have t := (hb.cell (p := ⟨w3.heap.size, 1, none⟩) (show w3.heap.size < _ by omega)).trans m1w0
  clear m1w0
  have m1w0 := t
  clear t
  have t := (hb.cell (p := ⟨w3.heap.size, 2, none⟩) (show w3.heap.size < _ by omega)).trans m2w0
  clear m2w0
  have m2w0 := t
  clear t
  have t := (hb.cell (p := ⟨w3.heap.size + 1, 0, none⟩) (show w3.heap.size + 1 < _ by omega)).trans m0w1
  clear m0w1
  have m0w1 := t
  clear t
  have t := (hb.cell (p := ⟨w3.heap.size + 1, 1, none⟩) (show w3.heap.size + 1 < _ by omega)).trans m1w1
  clear m1w1
  have m1w1 := t
  clear t
  have t := (hb.cell (p := ⟨w3.heap.size + 1, 2, none⟩) (show w3.heap.size + 1 < _ by omega)).trans m2w1
  clear m2w1
  have m2w1 := t
  clear t
  have t := (hb.cell (p := ⟨w5.heap.size, 0, none⟩) (show w5.heap.size < _ by omega)).trans m0c2
  clear m0c2
  have m0c2 := t
  clear t
  have t := (hb.cell (p := ⟨w5.heap.size, 1, none⟩) (show w5.heap.size < _ by omega)).trans m1c2
  clear m1c2
  have m1c2 := t
  clear t
  have t := (hb.cell (p := ⟨w5.heap.size, 2, none⟩) (show w5.heap.size < _ by omega)).trans m2c2
  clear m2c2
  have m2c2 := t
  clear t
  have t := (hb.cell (p := ⟨w7.heap.size, 0, none⟩) (show w7.heap.size < _ by omega)).trans m0g0
  clear m0g0
  have m0g0 := t
  clear t
  have t := (hb.cell (p := ⟨w7.heap.size, 1, none⟩) (show w7.heap.size < _ by omega)).trans m1g0
  clear m1g0
  have m1g0 := t
  clear t
  have t := (hb.cell (p := ⟨w7.heap.size, 2, none⟩) (show w7.heap.size < _ by omega)).trans m2g0
  clear m2g0
  have m2g0 := t
  clear t
  have t := (hb.cell (p := ⟨w7.heap.size + 1, 0, none⟩) (show w7.heap.size + 1 < _ by omega)).trans m0g1
  clear m0g1
  have m0g1 := t
  clear t
  have t := (hb.cell (p := ⟨w7.heap.size + 1, 1, none⟩) (show w7.heap.size + 1 < _ by omega)).trans m1g1
  clear m1g1
  have m1g1 := t
  clear t
  have t := (hb.cell (p := ⟨w7.heap.size + 1, 2, none⟩) (show w7.heap.size + 1 < _ by omega)).trans m2g1
  clear m2g1
  have m2g1 := t
  clear t
  have t := OP.below hc1 hb
  clear hc1
  have hc1 := t
  clear t
  have t := OP.below hw0 hb
  clear hw0
  have hw0 := t
  clear t
  have t := local_O3.below hw1 hb
  clear hw1
  have hw1 := t
  clear t
  have t := local_O2.below hw2 hb
  clear hw2
  have hw2 := t
  clear t
  have t := OP.below hc2 hb
  clear hc2
  have hc2 := t
  clear t
  have t := OP.below hg0 hb
  clear hg0
  have hg0 := t
  clear t
  have t := local_O3.below hg1 hb
  clear hg1
  have hg1 := t
  clear t
  have t := local_O2.below hg2 hb
  clear hg2
  have hg2 := t
  clear t
  clear hb
  go_wp2_with fail
  refine (l_eqInt64SS_same _ _ _ _ hg2.rd hw2.rd).mono ?_
  rintro e w11 ⟨rfl, hb⟩
  have hb0x := below_size hb0 hb
  clear hb0
  have hb0 := hb0x
  clear hb0x
  have s11 : w10.heap.size ≤ w11.heap.size := hb.size
  have t := (hb.cell (p := ⟨w.heap.size, 0, none⟩) (show w.heap.size < _ by omega)).trans m0aE
  clear m0aE
  have m0aE := t
  clear t
  have t := (hb.cell (p := ⟨w.heap.size, 1, none⟩) (show w.heap.size < _ by omega)).trans m1aE
  clear m1aE
  have m1aE := t
  clear t
  have t := (hb.cell (p := ⟨w.heap.size, 2, none⟩) (show w.heap.size < _ by omega)).trans m2aE
  clear m2aE
  have m2aE := t
  clear t
  have t := (hb.cell (p := ⟨w3.heap.size, 0, none⟩) (show w3.heap.size < _ by omega)).trans m0w0
  clear m0w0
  have m0w0 := t
  clear t
  have t := (hb.cell (p := ⟨w3.heap.size, 1, none⟩) (show w3.heap.size < _ by omega)).trans m1w0
  clear m1w0
  have m1w0 := t
  clear t
  have t := (hb.cell (p := ⟨w3.heap.size, 2, none⟩) (show w3.heap.size < _ by omega)).trans m2w0
  clear m2w0
  have m2w0 := t
  clear t
  have t := (hb.cell (p := ⟨w3.heap.size + 1, 0, none⟩) (show w3.heap.size + 1 < _ by omega)).trans m0w1
  clear m0w1
  have m0w1 := t
  clear t
  have t := (hb.cell (p := ⟨w3.heap.size + 1, 1, none⟩) (show w3.heap.size + 1 < _ by omega)).trans m1w1
  clear m1w1
  have m1w1 := t
  clear t
  have t := (hb.cell (p := ⟨w3.heap.size + 1, 2, none⟩) (show w3.heap.size + 1 < _ by omega)).trans m2w1
  clear m2w1
  have m2w1 := t
  clear t
  have t := (hb.cell (p := ⟨w5.heap.size, 0, none⟩) (show w5.heap.size < _ by omega)).trans m0c2
  clear m0c2
  have m0c2 := t
  clear t
  have t := (hb.cell (p := ⟨w5.heap.size, 1, none⟩) (show w5.heap.size < _ by omega)).trans m1c2
  clear m1c2
  have m1c2 := t
  clear t
  have t := (hb.cell (p := ⟨w5.heap.size, 2, none⟩) (show w5.heap.size < _ by omega)).trans m2c2
  clear m2c2
  have m2c2 := t
  clear t
  have t := (hb.cell (p := ⟨w7.heap.size, 0, none⟩) (show w7.heap.size < _ by omega)).trans m0g0
  clear m0g0
  have m0g0 := t
  clear t
  have t := (hb.cell (p := ⟨w7.heap.size, 1, none⟩) (show w7.heap.size < _ by omega)).trans m1g0
  clear m1g0
  have m1g0 := t
  clear t
  have t := (hb.cell (p := ⟨w7.heap.size, 2, none⟩) (show w7.heap.size < _ by omega)).trans m2g0
  clear m2g0
  have m2g0 := t
  clear t
  have t := (hb.cell (p := ⟨w7.heap.size + 1, 0, none⟩) (show w7.heap.size + 1 < _ by omega)).trans m0g1
  clear m0g1
  have m0g1 := t
  clear t
  have t := (hb.cell (p := ⟨w7.heap.size + 1, 1, none⟩) (show w7.heap.size + 1 < _ by omega)).trans m1g1
  clear m1g1
  have m1g1 := t
  clear t
  have t := (hb.cell (p := ⟨w7.heap.size + 1, 2, none⟩) (show w7.heap.size + 1 < _ by omega)).trans m2g1
  clear m2g1
  have m2g1 := t
  clear t
  have t := OP.below hc1 hb
  clear hc1
  have hc1 := t
  clear t
  have t := OP.below hw0 hb
  clear hw0
  have hw0 := t
  clear t
  have t := local_O3.below hw1 hb
  clear hw1
  have hw1 := t
  clear t
  have t := local_O2.below hw2 hb
  clear hw2
  have hw2 := t
  clear t
  have t := OP.below hc2 hb
  clear hc2
  have hc2 := t
  clear t
  have t := OP.below hg0 hb
  clear hg0
  have hg0 := t
  clear t
  have t := local_O3.below hg1 hb
  clear hg1
  have hg1 := t
  clear t
  have t := local_O2.below hg2 hb
  clear hg2
  have hg2 := t
  clear t
  clear hb
  go_wp2_with fail
  have HR := Lib.hid ((HEaE.out.below hbx).below hb0)
  have HX := Lib.hid hc2.rd
  have lt0 : w5.heap.size < w11.heap.size := by omega
  have lt3 : w.heap.size < w11.heap.size := by omega
  have KEEP : Hid (∀ wx, Below w11.heap.size w11 wx → Below w11.heap.size w11 wx ∧ wx.cell? ⟨w5.heap.size, 0, none⟩ = some (Value.slice a1c2 n1c2 q1c2) ∧ wx.cell? ⟨w5.heap.size, 1, none⟩ = some (Value.slice a2c2 n2c2 q2c2) ∧ wx.cell? ⟨w5.heap.size, 2, none⟩ = some (Value.slice a3c2 n3c2 q3c2) ∧ wx.cell? ⟨w.heap.size, 0, none⟩ = some (v1aE) ∧ wx.cell? ⟨w.heap.size, 1, none⟩ = some (v2aE) ∧ wx.cell? ⟨w.heap.size, 2, none⟩ = some (v3aE)) := fun wx hb => ⟨hb, ((hb).cell (p := ⟨w5.heap.size, 0, none⟩) (by omega)).trans m0c2, ((hb).cell (p := ⟨w5.heap.size, 1, none⟩) (by omega)).trans m1c2, ((hb).cell (p := ⟨w5.heap.size, 2, none⟩) (by omega)).trans m2c2, ((hb).cell (p := ⟨w.heap.size, 0, none⟩) (by omega)).trans m0aE, ((hb).cell (p := ⟨w.heap.size, 1, none⟩) (by omega)).trans m1aE, ((hb).cell (p := ⟨w.heap.size, 2, none⟩) (by omega)).trans m2aE⟩
  go_region_held3 (fun wx => Below w11.heap.size w11 wx ∧ wx.cell? ⟨w5.heap.size, 0, none⟩ = some (Value.slice a1c2 n1c2 q1c2) ∧ wx.cell? ⟨w5.heap.size, 1, none⟩ = some (Value.slice a2c2 n2c2 q2c2) ∧ wx.cell? ⟨w5.heap.size, 2, none⟩ = some (Value.slice a3c2 n3c2 q3c2) ∧ wx.cell? ⟨w.heap.size, 0, none⟩ = some (v1aE) ∧ wx.cell? ⟨w.heap.size, 1, none⟩ = some (v2aE) ∧ wx.cell? ⟨w.heap.size, 2, none⟩ = some (v3aE))
    (first | exact KEEP.out _ (Below.refl _ _).drew | exact KEEP.out _ (below_size (And.left (by assumption)) (by assumption)))
    (first
      | ((go_at_call 16); (refine (l_toPresentation _ _ _ aE _ (HR.out.below (And.left (by assumption))) (by omega)).mono ?_); (rintro e wy ⟨yv1, yv2, yv3, rfl, hy, hb⟩))
      | ((go_at_call 18); (refine (l_eqPresentation _ _ _ _ _ _ aE _ (HX.out.below (And.left (by assumption))) hy.rd).mono ?_); (rintro e w12 ⟨rfl, hb2⟩)))
  have hb : Below w11.heap.size w11 w12 := And.left (by assumption)
  clear KEEP HR HX
  have hb0x := below_size hb0 hb
  clear hb0
  have hb0 := hb0x
  clear hb0x
  have s12 : w11.heap.size ≤ w12.heap.size := hb.size
  have t := (hb.cell (p := ⟨w.heap.size, 0, none⟩) (show w.heap.size < _ by omega)).trans m0aE
  clear m0aE
  have m0aE := t
  clear t
  have t := (hb.cell (p := ⟨w.heap.size, 1, none⟩) (show w.heap.size < _ by omega)).trans m1aE
  clear m1aE
  have m1aE := t
  clear t
  have t := (hb.cell (p := ⟨w.heap.size, 2, none⟩) (show w.heap.size < _ by omega)).trans m2aE
  clear m2aE
  have m2aE := t
  clear t
  have t := (hb.cell (p := ⟨w3.heap.size, 0, none⟩) (show w3.heap.size < _ by omega)).trans m0w0
  clear m0w0
  have m0w0 := t
  clear t
  have t := (hb.cell (p := ⟨w3.heap.size, 1, none⟩) (show w3.heap.size < _ by omega)).trans m1w0
  clear m1w0
  have m1w0 := t
  clear t
  have t := (hb.cell (p := ⟨w3.heap.size, 2, none⟩) (show w3.heap.size < _ by omega)).trans m2w0
  clear m2w0
  have m2w0 := t
  clear t
  have t := (hb.cell (p := ⟨w3.heap.size + 1, 0, none⟩) (show w3.heap.size + 1 < _ by omega)).trans m0w1
  clear m0w1
  have m0w1 := t
  clear t
  have t := (hb.cell (p := ⟨w3.heap.size + 1, 1, none⟩) (show w3.heap.size + 1 < _ by omega)).trans m1w1
  clear m1w1
  have m1w1 := t
  clear t
  have t := (hb.cell (p := ⟨w3.heap.size + 1, 2, none⟩) (show w3.heap.size + 1 < _ by omega)).trans m2w1
  clear m2w1
  have m2w1 := t
  clear t
  have t := (hb.cell (p := ⟨w5.heap.size, 0, none⟩) (show w5.heap.size < _ by omega)).trans m0c2
  clear m0c2
  have m0c2 := t
  clear t
  have t := (hb.cell (p := ⟨w5.heap.size, 1, none⟩) (show w5.heap.size < _ by omega)).trans m1c2
  clear m1c2
  have m1c2 := t
  clear t
  have t := (hb.cell (p := ⟨w5.heap.size, 2, none⟩) (show w5.heap.size < _ by omega)).trans m2c2
  clear m2c2
  have m2c2 := t
  clear t
  have t := (hb.cell (p := ⟨w7.heap.size, 0, none⟩) (show w7.heap.size < _ by omega)).trans m0g0
  clear m0g0
  have m0g0 := t
  clear t
  have t := (hb.cell (p := ⟨w7.heap.size, 1, none⟩) (show w7.heap.size < _ by omega)).trans m1g0
  clear m1g0
  have m1g0 := t
  clear t
  have t := (hb.cell (p := ⟨w7.heap.size, 2, none⟩) (show w7.heap.size < _ by omega)).trans m2g0
  clear m2g0
  have m2g0 := t
  clear t
  have t := (hb.cell (p := ⟨w7.heap.size + 1, 0, none⟩) (show w7.heap.size + 1 < _ by omega)).trans m0g1
  clear m0g1
  have m0g1 := t
  clear t
  have t := (hb.cell (p := ⟨w7.heap.size + 1, 1, none⟩) (show w7.heap.size + 1 < _ by omega)).trans m1g1
  clear m1g1
  have m1g1 := t
  clear t
  have t := (hb.cell (p := ⟨w7.heap.size + 1, 2, none⟩) (show w7.heap.size + 1 < _ by omega)).trans m2g1
  clear m2g1
  have m2g1 := t
  clear t
  have t := OP.below hc1 hb
  clear hc1
  have hc1 := t
  clear t
  have t := OP.below hw0 hb
  clear hw0
  have hw0 := t
  clear t
  have t := local_O3.below hw1 hb
  clear hw1
  have hw1 := t
  clear t
  have t := local_O2.below hw2 hb
  clear hw2
  have hw2 := t
  clear t
  have t := OP.below hc2 hb
  clear hc2
  have hc2 := t
  clear t
  have t := OP.below hg0 hb
  clear hg0
  have hg0 := t
  clear t
  have t := local_O3.below hg1 hb
  clear hg1
  have hg1 := t
  clear t
  have t := local_O2.below hg2 hb
  clear hg2
  have hg2 := t
  clear t
  clear hb
  go_wp2_with fail
  have pcc2 := (psize_le laE).2.2.2.2.2.2
  refine (l_markPresentation _ _ _ _ _ _ _ hc2 (by omega) (by omega) llc2).mono ?_
  rintro e w13 ⟨rfl, hnc2, hg⟩
  clear hc2
  have hc2 := hnc2
  clear hnc2
  have s13 : w12.heap.size ≤ w13.heap.size := hg.size
  have t := hb0.trans (hg.below (B := w0.heap.size) (fun k hk => by have := hk.1; omega) (by omega))
  clear hb0
  have hb0 := t
  clear t
  have t := ((hg.at (b := w.heap.size) (by omega) (fun hk => by have := hk.1; have := hk.2; omega)).1 0).trans m0aE
  clear m0aE
  have m0aE := t
  clear t
  have t := ((hg.at (b := w.heap.size) (by omega) (fun hk => by have := hk.1; have := hk.2; omega)).1 1).trans m1aE
  clear m1aE
  have m1aE := t
  clear t
  have t := ((hg.at (b := w.heap.size) (by omega) (fun hk => by have := hk.1; have := hk.2; omega)).1 2).trans m2aE
  clear m2aE
  have m2aE := t
  clear t
  have t := ((hg.at (b := w3.heap.size) (by omega) (fun hk => by have := hk.1; have := hk.2; omega)).1 0).trans m0w0
  clear m0w0
  have m0w0 := t
  clear t
  have t := ((hg.at (b := w3.heap.size) (by omega) (fun hk => by have := hk.1; have := hk.2; omega)).1 1).trans m1w0
  clear m1w0
  have m1w0 := t
  clear t
  have t := ((hg.at (b := w3.heap.size) (by omega) (fun hk => by have := hk.1; have := hk.2; omega)).1 2).trans m2w0
  clear m2w0
  have m2w0 := t
  clear t
  have t := ((hg.at (b := w3.heap.size + 1) (by omega) (fun hk => by have := hk.1; have := hk.2; omega)).1 0).trans m0w1
  clear m0w1
  have m0w1 := t
  clear t
  have t := ((hg.at (b := w3.heap.size + 1) (by omega) (fun hk => by have := hk.1; have := hk.2; omega)).1 1).trans m1w1
  clear m1w1
  have m1w1 := t
  clear t
  have t := ((hg.at (b := w3.heap.size + 1) (by omega) (fun hk => by have := hk.1; have := hk.2; omega)).1 2).trans m2w1
  clear m2w1
  have m2w1 := t
  clear t
  have t := ((hg.at (b := w5.heap.size) (by omega) (fun hk => by have := hk.1; have := hk.2; omega)).1 0).trans m0c2
  clear m0c2
  have m0c2 := t
  clear t
  have t := ((hg.at (b := w5.heap.size) (by omega) (fun hk => by have := hk.1; have := hk.2; omega)).1 1).trans m1c2
  clear m1c2
  have m1c2 := t
  clear t
  have t := ((hg.at (b := w5.heap.size) (by omega) (fun hk => by have := hk.1; have := hk.2; omega)).1 2).trans m2c2
  clear m2c2
  have m2c2 := t
  clear t
  have t := ((hg.at (b := w7.heap.size) (by omega) (fun hk => by have := hk.1; have := hk.2; omega)).1 0).trans m0g0
  clear m0g0
  have m0g0 := t
  clear t
  have t := ((hg.at (b := w7.heap.size) (by omega) (fun hk => by have := hk.1; have := hk.2; omega)).1 1).trans m1g0
  clear m1g0
  have m1g0 := t
  clear t
  have t := ((hg.at (b := w7.heap.size) (by omega) (fun hk => by have := hk.1; have := hk.2; omega)).1 2).trans m2g0
  clear m2g0
  have m2g0 := t
  clear t
  have t := ((hg.at (b := w7.heap.size + 1) (by omega) (fun hk => by have := hk.1; have := hk.2; omega)).1 0).trans m0g1
  clear m0g1
  have m0g1 := t
  clear t
  have t := ((hg.at (b := w7.heap.size + 1) (by omega) (fun hk => by have := hk.1; have := hk.2; omega)).1 1).trans m1g1
  clear m1g1
  have m1g1 := t
  clear t
  have t := ((hg.at (b := w7.heap.size + 1) (by omega) (fun hk => by have := hk.1; have := hk.2; omega)).1 2).trans m2g1
  clear m2g1
  have m2g1 := t
  clear t
  have t := OP.chg hc1 hg (fun k hk hk2 => by have := hk.1; have := hk.2; have := hk2.1; have := hk2.2; omega)
  clear hc1
  have hc1 := t
  clear t
  have t := OP.chg hw0 hg (fun k hk hk2 => by have := (aw0 k hk).1; have := (aw0 k hk).2; have := hk2.1; have := hk2.2; omega)
  clear hw0
  have hw0 := t
  clear t
  have t := local_O3.chg hw1 hg (fun k hk hk2 => by have := (aw1 k hk).1; have := (aw1 k hk).2; have := hk2.1; have := hk2.2; omega)
  clear hw1
  have hw1 := t
  clear t
  have t := local_O2.chg hw2 hg (fun k hk hk2 => by have := (aw2 k hk).1; have := (aw2 k hk).2; have := hk2.1; have := hk2.2; omega)
  clear hw2
  have hw2 := t
  clear t
  have t := OP.chg hg0 hg (fun k hk hk2 => by have := (ag0 k hk).1; have := (ag0 k hk).2; have := hk2.1; have := hk2.2; omega)
  clear hg0
  have hg0 := t
  clear t
  have t := local_O3.chg hg1 hg (fun k hk hk2 => by have := (ag1 k hk).1; have := (ag1 k hk).2; have := hk2.1; have := hk2.2; omega)
  clear hg1
  have hg1 := t
  clear t
  have t := local_O2.chg hg2 hg (fun k hk hk2 => by have := (ag2 k hk).1; have := (ag2 k hk).2; have := hk2.1; have := hk2.2; omega)
  clear hg2
  have hg2 := t
  clear t
  clear hg
  go_wp2_with fail
  refine (l_eqPresentation _ _ _ _ _ _ _ _ hg0.rd hw0.rd).mono ?_
  rintro e w14 ⟨rfl, hb⟩
  have hb0x := below_size hb0 hb
  clear hb0
  have hb0 := hb0x
  clear hb0x
  have s14 : w13.heap.size ≤ w14.heap.size := hb.size
  have t := (hb.cell (p := ⟨w.heap.size, 0, none⟩) (show w.heap.size < _ by omega)).trans m0aE
  clear m0aE
  have m0aE := t
  clear t
  have t := (hb.cell (p := ⟨w.heap.size, 1, none⟩) (show w.heap.size < _ by omega)).trans m1aE
  clear m1aE
  have m1aE := t
  clear t
  have t := (hb.cell (p := ⟨w.heap.size, 2, none⟩) (show w.heap.size < _ by omega)).trans m2aE
  clear m2aE
  have m2aE := t
  clear t
  have t := (hb.cell (p := ⟨w3.heap.size, 0, none⟩) (show w3.heap.size < _ by omega)).trans m0w0
  clear m0w0
  have m0w0 := t
  clear t
  have t := (hb.cell (p := ⟨w3.heap.size, 1, none⟩) (show w3.heap.size < _ by omega)).trans m1w0
  clear m1w0
  have m1w0 := t
  clear t
  have t := (hb.cell (p := ⟨w3.heap.size, 2, none⟩) (show w3.heap.size < _ by omega)).trans m2w0
  clear m2w0
  have m2w0 := t
  clear t
  have t := (hb.cell (p := ⟨w3.heap.size + 1, 0, none⟩) (show w3.heap.size + 1 < _ by omega)).trans m0w1
  clear m0w1
  have m0w1 := t
  clear t
  have t := (hb.cell (p := ⟨w3.heap.size + 1, 1, none⟩) (show w3.heap.size + 1 < _ by omega)).trans m1w1
  clear m1w1
  have m1w1 := t
  clear t
  have t := (hb.cell (p := ⟨w3.heap.size + 1, 2, none⟩) (show w3.heap.size + 1 < _ by omega)).trans m2w1
  clear m2w1
  have m2w1 := t
  clear t
  have t := (hb.cell (p := ⟨w5.heap.size, 0, none⟩) (show w5.heap.size < _ by omega)).trans m0c2
  clear m0c2
  have m0c2 := t
  clear t
  have t := (hb.cell (p := ⟨w5.heap.size, 1, none⟩) (show w5.heap.size < _ by omega)).trans m1c2
  clear m1c2
  have m1c2 := t
  clear t
  have t := (hb.cell (p := ⟨w5.heap.size, 2, none⟩) (show w5.heap.size < _ by omega)).trans m2c2
  clear m2c2
  have m2c2 := t
  clear t
  have t := (hb.cell (p := ⟨w7.heap.size, 0, none⟩) (show w7.heap.size < _ by omega)).trans m0g0
  clear m0g0
  have m0g0 := t
  clear t
  have t := (hb.cell (p := ⟨w7.heap.size, 1, none⟩) (show w7.heap.size < _ by omega)).trans m1g0
  clear m1g0
  have m1g0 := t
  clear t
  have t := (hb.cell (p := ⟨w7.heap.size, 2, none⟩) (show w7.heap.size < _ by omega)).trans m2g0
  clear m2g0
  have m2g0 := t
  clear t
  have t := (hb.cell (p := ⟨w7.heap.size + 1, 0, none⟩) (show w7.heap.size + 1 < _ by omega)).trans m0g1
  clear m0g1
  have m0g1 := t
  clear t
  have t := (hb.cell (p := ⟨w7.heap.size + 1, 1, none⟩) (show w7.heap.size + 1 < _ by omega)).trans m1g1
  clear m1g1
  have m1g1 := t
  clear t
  have t := (hb.cell (p := ⟨w7.heap.size + 1, 2, none⟩) (show w7.heap.size + 1 < _ by omega)).trans m2g1
  clear m2g1
  have m2g1 := t
  clear t
  have t := OP.below hc1 hb
  clear hc1
  have hc1 := t
  clear t
  have t := OP.below hw0 hb
  clear hw0
  have hw0 := t
  clear t
  have t := local_O3.below hw1 hb
  clear hw1
  have hw1 := t
  clear t
  have t := local_O2.below hw2 hb
  clear hw2
  have hw2 := t
  clear t
  have t := OP.below hc2 hb
  clear hc2
  have hc2 := t
  clear t
  have t := OP.below hg0 hb
  clear hg0
  have hg0 := t
  clear t
  have t := local_O3.below hg1 hb
  clear hg1
  have hg1 := t
  clear t
  have t := local_O2.below hg2 hb
  clear hg2
  have hg2 := t
  clear t
  clear hb
  go_wp2_with fail
  refine (l_eqModule _ _ _ _ _ _ (O3.rd hg1) (O3.rd hw1)).mono ?_
  rintro e w15 ⟨rfl, hb⟩
  have hb0x := below_size hb0 hb
  clear hb0
  have hb0 := hb0x
  clear hb0x
  have s15 : w14.heap.size ≤ w15.heap.size := hb.size
  have t := (hb.cell (p := ⟨w.heap.size, 0, none⟩) (show w.heap.size < _ by omega)).trans m0aE
  clear m0aE
  have m0aE := t
  clear t
  have t := (hb.cell (p := ⟨w.heap.size, 1, none⟩) (show w.heap.size < _ by omega)).trans m1aE
  clear m1aE
  have m1aE := t
  clear t
  have t := (hb.cell (p := ⟨w.heap.size, 2, none⟩) (show w.heap.size < _ by omega)).trans m2aE
  clear m2aE
  have m2aE := t
  clear t
  have t := (hb.cell (p := ⟨w3.heap.size, 0, none⟩) (show w3.heap.size < _ by omega)).trans m0w0
  clear m0w0
  have m0w0 := t
  clear t
  have t := (hb.cell (p := ⟨w3.heap.size, 1, none⟩) (show w3.heap.size < _ by omega)).trans m1w0
  clear m1w0
  have m1w0 := t
  clear t
  have t := (hb.cell (p := ⟨w3.heap.size, 2, none⟩) (show w3.heap.size < _ by omega)).trans m2w0
  clear m2w0
  have m2w0 := t
  clear t
  have t := (hb.cell (p := ⟨w3.heap.size + 1, 0, none⟩) (show w3.heap.size + 1 < _ by omega)).trans m0w1
  clear m0w1
  have m0w1 := t
  clear t
  have t := (hb.cell (p := ⟨w3.heap.size + 1, 1, none⟩) (show w3.heap.size + 1 < _ by omega)).trans m1w1
  clear m1w1
  have m1w1 := t
  clear t
  have t := (hb.cell (p := ⟨w3.heap.size + 1, 2, none⟩) (show w3.heap.size + 1 < _ by omega)).trans m2w1
  clear m2w1
  have m2w1 := t
  clear t
  have t := (hb.cell (p := ⟨w5.heap.size, 0, none⟩) (show w5.heap.size < _ by omega)).trans m0c2
  clear m0c2
  have m0c2 := t
  clear t
  have t := (hb.cell (p := ⟨w5.heap.size, 1, none⟩) (show w5.heap.size < _ by omega)).trans m1c2
  clear m1c2
  have m1c2 := t
  clear t
  have t := (hb.cell (p := ⟨w5.heap.size, 2, none⟩) (show w5.heap.size < _ by omega)).trans m2c2
  clear m2c2
  have m2c2 := t
  clear t
  have t := (hb.cell (p := ⟨w7.heap.size, 0, none⟩) (show w7.heap.size < _ by omega)).trans m0g0
  clear m0g0
  have m0g0 := t
  clear t
  have t := (hb.cell (p := ⟨w7.heap.size, 1, none⟩) (show w7.heap.size < _ by omega)).trans m1g0
  clear m1g0
  have m1g0 := t
  clear t
  have t := (hb.cell (p := ⟨w7.heap.size, 2, none⟩) (show w7.heap.size < _ by omega)).trans m2g0
  clear m2g0
  have m2g0 := t
  clear t
  have t := (hb.cell (p := ⟨w7.heap.size + 1, 0, none⟩) (show w7.heap.size + 1 < _ by omega)).trans m0g1
  clear m0g1
  have m0g1 := t
  clear t
  have t := (hb.cell (p := ⟨w7.heap.size + 1, 1, none⟩) (show w7.heap.size + 1 < _ by omega)).trans m1g1
  clear m1g1
  have m1g1 := t
  clear t
  have t := (hb.cell (p := ⟨w7.heap.size + 1, 2, none⟩) (show w7.heap.size + 1 < _ by omega)).trans m2g1
  clear m2g1
  have m2g1 := t
  clear t
  have t := OP.below hc1 hb
  clear hc1
  have hc1 := t
  clear t
  have t := OP.below hw0 hb
  clear hw0
  have hw0 := t
  clear t
  have t := local_O3.below hw1 hb
  clear hw1
  have hw1 := t
  clear t
  have t := local_O2.below hw2 hb
  clear hw2
  have hw2 := t
  clear t
  have t := OP.below hc2 hb
  clear hc2
  have hc2 := t
  clear t
  have t := OP.below hg0 hb
  clear hg0
  have hg0 := t
  clear t
  have t := local_O3.below hg1 hb
  clear hg1
  have hg1 := t
  clear t
  have t := local_O2.below hg2 hb
  clear hg2
  have hg2 := t
  clear t
  clear hb
  go_wp2_with fail
  refine (l_eqInt64SS_same _ _ _ _ hg2.rd hw2.rd).mono ?_
  rintro e w16 ⟨rfl, hb⟩
  have hb0x := below_size hb0 hb
  clear hb0
  have hb0 := hb0x
  clear hb0x
  have s16 : w15.heap.size ≤ w16.heap.size := hb.size
  have t := (hb.cell (p := ⟨w.heap.size, 0, none⟩) (show w.heap.size < _ by omega)).trans m0aE
  clear m0aE
  have m0aE := t
  clear t
  have t := (hb.cell (p := ⟨w.heap.size, 1, none⟩) (show w.heap.size < _ by omega)).trans m1aE
  clear m1aE
  have m1aE := t
  clear t
  have t := (hb.cell (p := ⟨w.heap.size, 2, none⟩) (show w.heap.size < _ by omega)).trans m2aE
  clear m2aE
  have m2aE := t
  clear t
  have t := (hb.cell (p := ⟨w3.heap.size, 0, none⟩) (show w3.heap.size < _ by omega)).trans m0w0
  clear m0w0
  have m0w0 := t
  clear t
  have t := (hb.cell (p := ⟨w3.heap.size, 1, none⟩) (show w3.heap.size < _ by omega)).trans m1w0
  clear m1w0
  have m1w0 := t
  clear t
  have t := (hb.cell (p := ⟨w3.heap.size, 2, none⟩) (show w3.heap.size < _ by omega)).trans m2w0
  clear m2w0
  have m2w0 := t
  clear t
  have t := (hb.cell (p := ⟨w3.heap.size + 1, 0, none⟩) (show w3.heap.size + 1 < _ by omega)).trans m0w1
  clear m0w1
  have m0w1 := t
  clear t
  have t := (hb.cell (p := ⟨w3.heap.size + 1, 1, none⟩) (show w3.heap.size + 1 < _ by omega)).trans m1w1
  clear m1w1
  have m1w1 := t
  clear t
  have t := (hb.cell (p := ⟨w3.heap.size + 1, 2, none⟩) (show w3.heap.size + 1 < _ by omega)).trans m2w1
  clear m2w1
  have m2w1 := t
  clear t
  have t := (hb.cell (p := ⟨w5.heap.size, 0, none⟩) (show w5.heap.size < _ by omega)).trans m0c2
  clear m0c2
  have m0c2 := t
  clear t
  have t := (hb.cell (p := ⟨w5.heap.size, 1, none⟩) (show w5.heap.size < _ by omega)).trans m1c2
  clear m1c2
  have m1c2 := t
  clear t
  have t := (hb.cell (p := ⟨w5.heap.size, 2, none⟩) (show w5.heap.size < _ by omega)).trans m2c2
  clear m2c2
  have m2c2 := t
  clear t
  have t := (hb.cell (p := ⟨w7.heap.size, 0, none⟩) (show w7.heap.size < _ by omega)).trans m0g0
  clear m0g0
  have m0g0 := t
  clear t
  have t := (hb.cell (p := ⟨w7.heap.size, 1, none⟩) (show w7.heap.size < _ by omega)).trans m1g0
  clear m1g0
  have m1g0 := t
  clear t
  have t := (hb.cell (p := ⟨w7.heap.size, 2, none⟩) (show w7.heap.size < _ by omega)).trans m2g0
  clear m2g0
  have m2g0 := t
  clear t
  have t := (hb.cell (p := ⟨w7.heap.size + 1, 0, none⟩) (show w7.heap.size + 1 < _ by omega)).trans m0g1
  clear m0g1
  have m0g1 := t
  clear t
  have t := (hb.cell (p := ⟨w7.heap.size + 1, 1, none⟩) (show w7.heap.size + 1 < _ by omega)).trans m1g1
  clear m1g1
  have m1g1 := t
  clear t
  have t := (hb.cell (p := ⟨w7.heap.size + 1, 2, none⟩) (show w7.heap.size + 1 < _ by omega)).trans m2g1
  clear m2g1
  have m2g1 := t
  clear t
  have t := OP.below hc1 hb
  clear hc1
  have hc1 := t
  clear t
  have t := OP.below hw0 hb
  clear hw0
  have hw0 := t
  clear t
  have t := local_O3.below hw1 hb
  clear hw1
  have hw1 := t
  clear t
  have t := local_O2.below hw2 hb
  clear hw2
  have hw2 := t
  clear t
  have t := OP.below hc2 hb
  clear hc2
  have hc2 := t
  clear t
  have t := OP.below hg0 hb
  clear hg0
  have hg0 := t
  clear t
  have t := local_O3.below hg1 hb
  clear hg1
  have hg1 := t
  clear t
  have t := local_O2.below hg2 hb
  clear hg2
  have hg2 := t
  clear t
  clear hb
  go_wp2_with fail
  have pcg0 := (psize_le llg0).2.2.2.2.2.2
  refine (l_markPresentation _ _ _ _ _ _ _ hg0 (by omega) (by omega) llg0).mono ?_
  rintro e w17 ⟨rfl, hng0, hg⟩
  clear hg0
  have hg0 := hng0
  clear hng0
  have s17 : w16.heap.size ≤ w17.heap.size := hg.size
  have t := hb0.trans (hg.below (B := w0.heap.size) (fun k hk => by have := (ag0 k hk).1; omega) (by omega))
  clear hb0
  have hb0 := t
  clear t
  have t := ((hg.at (b := w.heap.size) (by omega) (fun hk => by have := (ag0 _ hk).1; have := (ag0 _ hk).2; omega)).1 0).trans m0aE
  clear m0aE
  have m0aE := t
  clear t
  have t := ((hg.at (b := w.heap.size) (by omega) (fun hk => by have := (ag0 _ hk).1; have := (ag0 _ hk).2; omega)).1 1).trans m1aE
  clear m1aE
  have m1aE := t
  clear t
  have t := ((hg.at (b := w.heap.size) (by omega) (fun hk => by have := (ag0 _ hk).1; have := (ag0 _ hk).2; omega)).1 2).trans m2aE
  clear m2aE
  have m2aE := t
  clear t
  have t := ((hg.at (b := w3.heap.size) (by omega) (fun hk => by have := (ag0 _ hk).1; have := (ag0 _ hk).2; omega)).1 0).trans m0w0
  clear m0w0
  have m0w0 := t
  clear t
  have t := ((hg.at (b := w3.heap.size) (by omega) (fun hk => by have := (ag0 _ hk).1; have := (ag0 _ hk).2; omega)).1 1).trans m1w0
  clear m1w0
  have m1w0 := t
  clear t
  have t := ((hg.at (b := w3.heap.size) (by omega) (fun hk => by have := (ag0 _ hk).1; have := (ag0 _ hk).2; omega)).1 2).trans m2w0
  clear m2w0
  have m2w0 := t
  clear t
  have t := ((hg.at (b := w3.heap.size + 1) (by omega) (fun hk => by have := (ag0 _ hk).1; have := (ag0 _ hk).2; omega)).1 0).trans m0w1
  clear m0w1
  have m0w1 := t
  clear t
  have t := ((hg.at (b := w3.heap.size + 1) (by omega) (fun hk => by have := (ag0 _ hk).1; have := (ag0 _ hk).2; omega)).1 1).trans m1w1
  clear m1w1
  have m1w1 := t
  clear t
  have t := ((hg.at (b := w3.heap.size + 1) (by omega) (fun hk => by have := (ag0 _ hk).1; have := (ag0 _ hk).2; omega)).1 2).trans m2w1
  clear m2w1
  have m2w1 := t
  clear t
  have t := ((hg.at (b := w5.heap.size) (by omega) (fun hk => by have := (ag0 _ hk).1; have := (ag0 _ hk).2; omega)).1 0).trans m0c2
  clear m0c2
  have m0c2 := t
  clear t
  have t := ((hg.at (b := w5.heap.size) (by omega) (fun hk => by have := (ag0 _ hk).1; have := (ag0 _ hk).2; omega)).1 1).trans m1c2
  clear m1c2
  have m1c2 := t
  clear t
  have t := ((hg.at (b := w5.heap.size) (by omega) (fun hk => by have := (ag0 _ hk).1; have := (ag0 _ hk).2; omega)).1 2).trans m2c2
  clear m2c2
  have m2c2 := t
  clear t
  have t := ((hg.at (b := w7.heap.size) (by omega) (fun hk => by have := (ag0 _ hk).1; have := (ag0 _ hk).2; omega)).1 0).trans m0g0
  clear m0g0
  have m0g0 := t
  clear t
  have t := ((hg.at (b := w7.heap.size) (by omega) (fun hk => by have := (ag0 _ hk).1; have := (ag0 _ hk).2; omega)).1 1).trans m1g0
  clear m1g0
  have m1g0 := t
  clear t
  have t := ((hg.at (b := w7.heap.size) (by omega) (fun hk => by have := (ag0 _ hk).1; have := (ag0 _ hk).2; omega)).1 2).trans m2g0
  clear m2g0
  have m2g0 := t
  clear t
  have t := ((hg.at (b := w7.heap.size + 1) (by omega) (fun hk => by have := (ag0 _ hk).1; have := (ag0 _ hk).2; omega)).1 0).trans m0g1
  clear m0g1
  have m0g1 := t
  clear t
  have t := ((hg.at (b := w7.heap.size + 1) (by omega) (fun hk => by have := (ag0 _ hk).1; have := (ag0 _ hk).2; omega)).1 1).trans m1g1
  clear m1g1
  have m1g1 := t
  clear t
  have t := ((hg.at (b := w7.heap.size + 1) (by omega) (fun hk => by have := (ag0 _ hk).1; have := (ag0 _ hk).2; omega)).1 2).trans m2g1
  clear m2g1
  have m2g1 := t
  clear t
  have t := OP.chg hc1 hg (fun k hk hk2 => by have := hk.1; have := hk.2; have := (ag0 k hk2).1; have := (ag0 k hk2).2; omega)
  clear hc1
  have hc1 := t
  clear t
  have t := OP.chg hw0 hg (fun k hk hk2 => by have := (aw0 k hk).1; have := (aw0 k hk).2; have := (ag0 k hk2).1; have := (ag0 k hk2).2; omega)
  clear hw0
  have hw0 := t
  clear t
  have t := local_O3.chg hw1 hg (fun k hk hk2 => by have := (aw1 k hk).1; have := (aw1 k hk).2; have := (ag0 k hk2).1; have := (ag0 k hk2).2; omega)
  clear hw1
  have hw1 := t
  clear t
  have t := local_O2.chg hw2 hg (fun k hk hk2 => by have := (aw2 k hk).1; have := (aw2 k hk).2; have := (ag0 k hk2).1; have := (ag0 k hk2).2; omega)
  clear hw2
  have hw2 := t
  clear t
  have t := OP.chg hc2 hg (fun k hk hk2 => by have := hk.1; have := hk.2; have := (ag0 k hk2).1; have := (ag0 k hk2).2; omega)
  clear hc2
  have hc2 := t
  clear t
  have t := local_O3.chg hg1 hg (fun k h h2 => dg0g1 k h2 h)
  clear hg1
  have hg1 := t
  clear t
  have t := local_O2.chg hg2 hg (fun k h h2 => dg0g2 k h2 h)
  clear hg2
  have hg2 := t
  clear t
  clear hg
  go_wp2_with fail
  refine (l_markModule _ _ _ _ _ _ _ hg1 (by omega) (by omega) llg1).mono ?_
  rintro e w18 ⟨rfl, hng1, hg⟩
  clear hg1
  have hg1 := hng1
  clear hng1
  have s18 : w17.heap.size ≤ w18.heap.size := hg.size
  have t := hb0.trans (hg.below (B := w0.heap.size) (fun k hk => by have := (ag1 k hk).1; omega) (by omega))
  clear hb0
  have hb0 := t
  clear t
  have t := ((hg.at (b := w.heap.size) (by omega) (fun hk => by have := (ag1 _ hk).1; have := (ag1 _ hk).2; omega)).1 0).trans m0aE
  clear m0aE
  have m0aE := t
  clear t
  have t := ((hg.at (b := w.heap.size) (by omega) (fun hk => by have := (ag1 _ hk).1; have := (ag1 _ hk).2; omega)).1 1).trans m1aE
  clear m1aE
  have m1aE := t
  clear t
  have t := ((hg.at (b := w.heap.size) (by omega) (fun hk => by have := (ag1 _ hk).1; have := (ag1 _ hk).2; omega)).1 2).trans m2aE
  clear m2aE
  have m2aE := t
  clear t
  have t := ((hg.at (b := w3.heap.size) (by omega) (fun hk => by have := (ag1 _ hk).1; have := (ag1 _ hk).2; omega)).1 0).trans m0w0
  clear m0w0
  have m0w0 := t
  clear t
  have t := ((hg.at (b := w3.heap.size) (by omega) (fun hk => by have := (ag1 _ hk).1; have := (ag1 _ hk).2; omega)).1 1).trans m1w0
  clear m1w0
  have m1w0 := t
  clear t
  have t := ((hg.at (b := w3.heap.size) (by omega) (fun hk => by have := (ag1 _ hk).1; have := (ag1 _ hk).2; omega)).1 2).trans m2w0
  clear m2w0
  have m2w0 := t
  clear t
  have t := ((hg.at (b := w3.heap.size + 1) (by omega) (fun hk => by have := (ag1 _ hk).1; have := (ag1 _ hk).2; omega)).1 0).trans m0w1
  clear m0w1
  have m0w1 := t
  clear t
  have t := ((hg.at (b := w3.heap.size + 1) (by omega) (fun hk => by have := (ag1 _ hk).1; have := (ag1 _ hk).2; omega)).1 1).trans m1w1
  clear m1w1
  have m1w1 := t
  clear t
  have t := ((hg.at (b := w3.heap.size + 1) (by omega) (fun hk => by have := (ag1 _ hk).1; have := (ag1 _ hk).2; omega)).1 2).trans m2w1
  clear m2w1
  have m2w1 := t
  clear t
  have t := ((hg.at (b := w5.heap.size) (by omega) (fun hk => by have := (ag1 _ hk).1; have := (ag1 _ hk).2; omega)).1 0).trans m0c2
  clear m0c2
  have m0c2 := t
  clear t
  have t := ((hg.at (b := w5.heap.size) (by omega) (fun hk => by have := (ag1 _ hk).1; have := (ag1 _ hk).2; omega)).1 1).trans m1c2
  clear m1c2
  have m1c2 := t
  clear t
  have t := ((hg.at (b := w5.heap.size) (by omega) (fun hk => by have := (ag1 _ hk).1; have := (ag1 _ hk).2; omega)).1 2).trans m2c2
  clear m2c2
  have m2c2 := t
  clear t
  have t := ((hg.at (b := w7.heap.size) (by omega) (fun hk => by have := (ag1 _ hk).1; have := (ag1 _ hk).2; omega)).1 0).trans m0g0
  clear m0g0
  have m0g0 := t
  clear t
  have t := ((hg.at (b := w7.heap.size) (by omega) (fun hk => by have := (ag1 _ hk).1; have := (ag1 _ hk).2; omega)).1 1).trans m1g0
  clear m1g0
  have m1g0 := t
  clear t
  have t := ((hg.at (b := w7.heap.size) (by omega) (fun hk => by have := (ag1 _ hk).1; have := (ag1 _ hk).2; omega)).1 2).trans m2g0
  clear m2g0
  have m2g0 := t
  clear t
  have t := ((hg.at (b := w7.heap.size + 1) (by omega) (fun hk => by have := (ag1 _ hk).1; have := (ag1 _ hk).2; omega)).1 0).trans m0g1
  clear m0g1
  have m0g1 := t
  clear t
  have t := ((hg.at (b := w7.heap.size + 1) (by omega) (fun hk => by have := (ag1 _ hk).1; have := (ag1 _ hk).2; omega)).1 1).trans m1g1
  clear m1g1
  have m1g1 := t
  clear t
  have t := ((hg.at (b := w7.heap.size + 1) (by omega) (fun hk => by have := (ag1 _ hk).1; have := (ag1 _ hk).2; omega)).1 2).trans m2g1
  clear m2g1
  have m2g1 := t
  clear t
  have t := OP.chg hc1 hg (fun k hk hk2 => by have := hk.1; have := hk.2; have := (ag1 k hk2).1; have := (ag1 k hk2).2; omega)
  clear hc1
  have hc1 := t
  clear t
  have t := OP.chg hw0 hg (fun k hk hk2 => by have := (aw0 k hk).1; have := (aw0 k hk).2; have := (ag1 k hk2).1; have := (ag1 k hk2).2; omega)
  clear hw0
  have hw0 := t
  clear t
  have t := local_O3.chg hw1 hg (fun k hk hk2 => by have := (aw1 k hk).1; have := (aw1 k hk).2; have := (ag1 k hk2).1; have := (ag1 k hk2).2; omega)
  clear hw1
  have hw1 := t
  clear t
  have t := local_O2.chg hw2 hg (fun k hk hk2 => by have := (aw2 k hk).1; have := (aw2 k hk).2; have := (ag1 k hk2).1; have := (ag1 k hk2).2; omega)
  clear hw2
  have hw2 := t
  clear t
  have t := OP.chg hc2 hg (fun k hk hk2 => by have := hk.1; have := hk.2; have := (ag1 k hk2).1; have := (ag1 k hk2).2; omega)
  clear hc2
  have hc2 := t
  clear t
  have t := OP.chg hg0 hg dg0g1
  clear hg0
  have hg0 := t
  clear t
  have t := local_O2.chg hg2 hg dg2g1
  clear hg2
  have hg2 := t
  clear t
  clear hg
  go_wp2_with fail
  refine (l_markInt64SS _ _ _ _ _ hg2 (by omega) (by omega) (by unfold size2 at llg2; omega) (by unfold size2 at llg2; omega)).mono ?_
  rintro e w19 ⟨rfl, hng2, hg, hsz⟩
  clear hsz
  clear hg2
  have hg2 := hng2
  clear hng2
  have s19 : w18.heap.size ≤ w19.heap.size := hg.size
  have t := hb0.trans (hg.below (B := w0.heap.size) (fun k hk => by have := (ag2 k hk).1; omega) (by omega))
  clear hb0
  have hb0 := t
  clear t
  have t := ((hg.at (b := w.heap.size) (by omega) (fun hk => by have := (ag2 _ hk).1; have := (ag2 _ hk).2; omega)).1 0).trans m0aE
  clear m0aE
  have m0aE := t
  clear t
  have t := ((hg.at (b := w.heap.size) (by omega) (fun hk => by have := (ag2 _ hk).1; have := (ag2 _ hk).2; omega)).1 1).trans m1aE
  clear m1aE
  have m1aE := t
  clear t
  have t := ((hg.at (b := w.heap.size) (by omega) (fun hk => by have := (ag2 _ hk).1; have := (ag2 _ hk).2; omega)).1 2).trans m2aE
  clear m2aE
  have m2aE := t
  clear t
  have t := ((hg.at (b := w3.heap.size) (by omega) (fun hk => by have := (ag2 _ hk).1; have := (ag2 _ hk).2; omega)).1 0).trans m0w0
  clear m0w0
  have m0w0 := t
  clear t
  have t := ((hg.at (b := w3.heap.size) (by omega) (fun hk => by have := (ag2 _ hk).1; have := (ag2 _ hk).2; omega)).1 1).trans m1w0
  clear m1w0
  have m1w0 := t
  clear t
  have t := ((hg.at (b := w3.heap.size) (by omega) (fun hk => by have := (ag2 _ hk).1; have := (ag2 _ hk).2; omega)).1 2).trans m2w0
  clear m2w0
  have m2w0 := t
  clear t
  have t := ((hg.at (b := w3.heap.size + 1) (by omega) (fun hk => by have := (ag2 _ hk).1; have := (ag2 _ hk).2; omega)).1 0).trans m0w1
  clear m0w1
  have m0w1 := t
  clear t
  have t := ((hg.at (b := w3.heap.size + 1) (by omega) (fun hk => by have := (ag2 _ hk).1; have := (ag2 _ hk).2; omega)).1 1).trans m1w1
  clear m1w1
  have m1w1 := t
  clear t
  have t := ((hg.at (b := w3.heap.size + 1) (by omega) (fun hk => by have := (ag2 _ hk).1; have := (ag2 _ hk).2; omega)).1 2).trans m2w1
  clear m2w1
  have m2w1 := t
  clear t
  have t := ((hg.at (b := w5.heap.size) (by omega) (fun hk => by have := (ag2 _ hk).1; have := (ag2 _ hk).2; omega)).1 0).trans m0c2
  clear m0c2
  have m0c2 := t
  clear t
  have t := ((hg.at (b := w5.heap.size) (by omega) (fun hk => by have := (ag2 _ hk).1; have := (ag2 _ hk).2; omega)).1 1).trans m1c2
  clear m1c2
  have m1c2 := t
  clear t
  have t := ((hg.at (b := w5.heap.size) (by omega) (fun hk => by have := (ag2 _ hk).1; have := (ag2 _ hk).2; omega)).1 2).trans m2c2
  clear m2c2
  have m2c2 := t
  clear t
  have t := ((hg.at (b := w7.heap.size) (by omega) (fun hk => by have := (ag2 _ hk).1; have := (ag2 _ hk).2; omega)).1 0).trans m0g0
  clear m0g0
  have m0g0 := t
  clear t
  have t := ((hg.at (b := w7.heap.size) (by omega) (fun hk => by have := (ag2 _ hk).1; have := (ag2 _ hk).2; omega)).1 1).trans m1g0
  clear m1g0
  have m1g0 := t
  clear t
  have t := ((hg.at (b := w7.heap.size) (by omega) (fun hk => by have := (ag2 _ hk).1; have := (ag2 _ hk).2; omega)).1 2).trans m2g0
  clear m2g0
  have m2g0 := t
  clear t
  have t := ((hg.at (b := w7.heap.size + 1) (by omega) (fun hk => by have := (ag2 _ hk).1; have := (ag2 _ hk).2; omega)).1 0).trans m0g1
  clear m0g1
  have m0g1 := t
  clear t
  have t := ((hg.at (b := w7.heap.size + 1) (by omega) (fun hk => by have := (ag2 _ hk).1; have := (ag2 _ hk).2; omega)).1 1).trans m1g1
  clear m1g1
  have m1g1 := t
  clear t
  have t := ((hg.at (b := w7.heap.size + 1) (by omega) (fun hk => by have := (ag2 _ hk).1; have := (ag2 _ hk).2; omega)).1 2).trans m2g1
  clear m2g1
  have m2g1 := t
  clear t
  have t := OP.chg hc1 hg (fun k hk hk2 => by have := hk.1; have := hk.2; have := (ag2 k hk2).1; have := (ag2 k hk2).2; omega)
  clear hc1
  have hc1 := t
  clear t
  have t := OP.chg hw0 hg (fun k hk hk2 => by have := (aw0 k hk).1; have := (aw0 k hk).2; have := (ag2 k hk2).1; have := (ag2 k hk2).2; omega)
  clear hw0
  have hw0 := t
  clear t
  have t := local_O3.chg hw1 hg (fun k hk hk2 => by have := (aw1 k hk).1; have := (aw1 k hk).2; have := (ag2 k hk2).1; have := (ag2 k hk2).2; omega)
  clear hw1
  have hw1 := t
  clear t
  have t := local_O2.chg hw2 hg (fun k hk hk2 => by have := (aw2 k hk).1; have := (aw2 k hk).2; have := (ag2 k hk2).1; have := (ag2 k hk2).2; omega)
  clear hw2
  have hw2 := t
  clear t
  have t := OP.chg hc2 hg (fun k hk hk2 => by have := hk.1; have := hk.2; have := (ag2 k hk2).1; have := (ag2 k hk2).2; omega)
  clear hc2
  have hc2 := t
  clear t
  have t := OP.chg hg0 hg dg0g2
  clear hg0
  have hg0 := t
  clear t
  have t := local_O3.chg hg1 hg (fun k h h2 => dg2g1 k h2 h)
  clear hg1
  have hg1 := t
  clear t
  clear hg
  go_wp2_with fail
  refine (l_heldPresentation _ _ _ _ _ _ hg0.rd (by omega) (by omega) llg0).mono ?_
  rintro e w20 ⟨rfl, hb⟩
  have hb0x := below_size hb0 hb
  clear hb0
  have hb0 := hb0x
  clear hb0x
  have s20 : w19.heap.size ≤ w20.heap.size := hb.size
  have t := (hb.cell (p := ⟨w.heap.size, 0, none⟩) (show w.heap.size < _ by omega)).trans m0aE
  clear m0aE
  have m0aE := t
  clear t
  have t := (hb.cell (p := ⟨w.heap.size, 1, none⟩) (show w.heap.size < _ by omega)).trans m1aE
  clear m1aE
  have m1aE := t
  clear t
  have t := (hb.cell (p := ⟨w.heap.size, 2, none⟩) (show w.heap.size < _ by omega)).trans m2aE
  clear m2aE
  have m2aE := t
  clear t
  have t := (hb.cell (p := ⟨w3.heap.size, 0, none⟩) (show w3.heap.size < _ by omega)).trans m0w0
  clear m0w0
  have m0w0 := t
  clear t
  have t := (hb.cell (p := ⟨w3.heap.size, 1, none⟩) (show w3.heap.size < _ by omega)).trans m1w0
  clear m1w0
  have m1w0 := t
  clear t
  have t := (hb.cell (p := ⟨w3.heap.size, 2, none⟩) (show w3.heap.size < _ by omega)).trans m2w0
  clear m2w0
  have m2w0 := t
  clear t
  have t := (hb.cell (p := ⟨w3.heap.size + 1, 0, none⟩) (show w3.heap.size + 1 < _ by omega)).trans m0w1
  clear m0w1
  have m0w1 := t
  clear t
  have t := (hb.cell (p := ⟨w3.heap.size + 1, 1, none⟩) (show w3.heap.size + 1 < _ by omega)).trans m1w1
  clear m1w1
  have m1w1 := t
  clear t
  have t := (hb.cell (p := ⟨w3.heap.size + 1, 2, none⟩) (show w3.heap.size + 1 < _ by omega)).trans m2w1
  clear m2w1
  have m2w1 := t
  clear t
  have t := (hb.cell (p := ⟨w5.heap.size, 0, none⟩) (show w5.heap.size < _ by omega)).trans m0c2
  clear m0c2
  have m0c2 := t
  clear t
  have t := (hb.cell (p := ⟨w5.heap.size, 1, none⟩) (show w5.heap.size < _ by omega)).trans m1c2
  clear m1c2
  have m1c2 := t
  clear t
  have t := (hb.cell (p := ⟨w5.heap.size, 2, none⟩) (show w5.heap.size < _ by omega)).trans m2c2
  clear m2c2
  have m2c2 := t
  clear t
  have t := (hb.cell (p := ⟨w7.heap.size, 0, none⟩) (show w7.heap.size < _ by omega)).trans m0g0
  clear m0g0
  have m0g0 := t
  clear t
  have t := (hb.cell (p := ⟨w7.heap.size, 1, none⟩) (show w7.heap.size < _ by omega)).trans m1g0
  clear m1g0
  have m1g0 := t
  clear t
  have t := (hb.cell (p := ⟨w7.heap.size, 2, none⟩) (show w7.heap.size < _ by omega)).trans m2g0
  clear m2g0
  have m2g0 := t
  clear t
  have t := (hb.cell (p := ⟨w7.heap.size + 1, 0, none⟩) (show w7.heap.size + 1 < _ by omega)).trans m0g1
  clear m0g1
  have m0g1 := t
  clear t
  have t := (hb.cell (p := ⟨w7.heap.size + 1, 1, none⟩) (show w7.heap.size + 1 < _ by omega)).trans m1g1
  clear m1g1
  have m1g1 := t
  clear t
  have t := (hb.cell (p := ⟨w7.heap.size + 1, 2, none⟩) (show w7.heap.size + 1 < _ by omega)).trans m2g1
  clear m2g1
  have m2g1 := t
  clear t
  have t := OP.below hc1 hb
  clear hc1
  have hc1 := t
  clear t
  have t := OP.below hw0 hb
  clear hw0
  have hw0 := t
  clear t
  have t := local_O3.below hw1 hb
  clear hw1
  have hw1 := t
  clear t
  have t := local_O2.below hw2 hb
  clear hw2
  have hw2 := t
  clear t
  have t := OP.below hc2 hb
  clear hc2
  have hc2 := t
  clear t
  have t := OP.below hg0 hb
  clear hg0
  have hg0 := t
  clear t
  have t := local_O3.below hg1 hb
  clear hg1
  have hg1 := t
  clear t
  have t := local_O2.below hg2 hb
  clear hg2
  have hg2 := t
  clear t
  clear hb
  go_wp2_with fail
  refine (l_heldModule _ _ _ _ _ _ (O3.rd hg1) (by omega) (by omega) llg1).mono ?_
  rintro e w21 ⟨rfl, hb⟩
  have hb0x := below_size hb0 hb
  clear hb0
  have hb0 := hb0x
  clear hb0x
  have s21 : w20.heap.size ≤ w21.heap.size := hb.size
  have t := (hb.cell (p := ⟨w.heap.size, 0, none⟩) (show w.heap.size < _ by omega)).trans m0aE
  clear m0aE
  have m0aE := t
  clear t
  have t := (hb.cell (p := ⟨w.heap.size, 1, none⟩) (show w.heap.size < _ by omega)).trans m1aE
  clear m1aE
  have m1aE := t
  clear t
  have t := (hb.cell (p := ⟨w.heap.size, 2, none⟩) (show w.heap.size < _ by omega)).trans m2aE
  clear m2aE
  have m2aE := t
  clear t
  have t := (hb.cell (p := ⟨w3.heap.size, 0, none⟩) (show w3.heap.size < _ by omega)).trans m0w0
  clear m0w0
  have m0w0 := t
  clear t
  have t := (hb.cell (p := ⟨w3.heap.size, 1, none⟩) (show w3.heap.size < _ by omega)).trans m1w0
  clear m1w0
  have m1w0 := t
  clear t
  have t := (hb.cell (p := ⟨w3.heap.size, 2, none⟩) (show w3.heap.size < _ by omega)).trans m2w0
  clear m2w0
  have m2w0 := t
  clear t
  have t := (hb.cell (p := ⟨w3.heap.size + 1, 0, none⟩) (show w3.heap.size + 1 < _ by omega)).trans m0w1
  clear m0w1
  have m0w1 := t
  clear t
  have t := (hb.cell (p := ⟨w3.heap.size + 1, 1, none⟩) (show w3.heap.size + 1 < _ by omega)).trans m1w1
  clear m1w1
  have m1w1 := t
  clear t
  have t := (hb.cell (p := ⟨w3.heap.size + 1, 2, none⟩) (show w3.heap.size + 1 < _ by omega)).trans m2w1
  clear m2w1
  have m2w1 := t
  clear t
  have t := (hb.cell (p := ⟨w5.heap.size, 0, none⟩) (show w5.heap.size < _ by omega)).trans m0c2
  clear m0c2
  have m0c2 := t
  clear t
  have t := (hb.cell (p := ⟨w5.heap.size, 1, none⟩) (show w5.heap.size < _ by omega)).trans m1c2
  clear m1c2
  have m1c2 := t
  clear t
  have t := (hb.cell (p := ⟨w5.heap.size, 2, none⟩) (show w5.heap.size < _ by omega)).trans m2c2
  clear m2c2
  have m2c2 := t
  clear t
  have t := (hb.cell (p := ⟨w7.heap.size, 0, none⟩) (show w7.heap.size < _ by omega)).trans m0g0
  clear m0g0
  have m0g0 := t
  clear t
  have t := (hb.cell (p := ⟨w7.heap.size, 1, none⟩) (show w7.heap.size < _ by omega)).trans m1g0
  clear m1g0
  have m1g0 := t
  clear t
  have t := (hb.cell (p := ⟨w7.heap.size, 2, none⟩) (show w7.heap.size < _ by omega)).trans m2g0
  clear m2g0
  have m2g0 := t
  clear t
  have t := (hb.cell (p := ⟨w7.heap.size + 1, 0, none⟩) (show w7.heap.size + 1 < _ by omega)).trans m0g1
  clear m0g1
  have m0g1 := t
  clear t
  have t := (hb.cell (p := ⟨w7.heap.size + 1, 1, none⟩) (show w7.heap.size + 1 < _ by omega)).trans m1g1
  clear m1g1
  have m1g1 := t
  clear t
  have t := (hb.cell (p := ⟨w7.heap.size + 1, 2, none⟩) (show w7.heap.size + 1 < _ by omega)).trans m2g1
  clear m2g1
  have m2g1 := t
  clear t
  have t := OP.below hc1 hb
  clear hc1
  have hc1 := t
  clear t
  have t := OP.below hw0 hb
  clear hw0
  have hw0 := t
  clear t
  have t := local_O3.below hw1 hb
  clear hw1
  have hw1 := t
  clear t
  have t := local_O2.below hw2 hb
  clear hw2
  have hw2 := t
  clear t
  have t := OP.below hc2 hb
  clear hc2
  have hc2 := t
  clear t
  have t := OP.below hg0 hb
  clear hg0
  have hg0 := t
  clear t
  have t := local_O3.below hg1 hb
  clear hg1
  have hg1 := t
  clear t
  have t := local_O2.below hg2 hb
  clear hg2
  have hg2 := t
  clear t
  clear hb
  go_wp2_with fail
  refine (l_heldInt64SS _ _ _ _ hg2.rd (by omega) (by omega) (by unfold size2 at llg2; omega)).mono ?_
  rintro e w' ⟨rfl, rfl⟩
  go_wp2_with fail
  refine (l_toPresentation _ _ _ aE _ ((HEaE.out.below hbx).below hb0) (by omega)).mono ?_
  rintro e w22 ⟨v1c3, v2c3, v3c3, rfl, hc3, hb⟩
  have hb0x := below_size hb0 hb
  clear hb0
  have hb0 := hb0x
  clear hb0x
  have s22 : w21.heap.size ≤ w22.heap.size := hb.size
  have t := (hb.cell (p := ⟨w.heap.size, 0, none⟩) (show w.heap.size < _ by omega)).trans m0aE
  clear m0aE
  have m0aE := t
  clear t
  have t := (hb.cell (p := ⟨w.heap.size, 1, none⟩) (show w.heap.size < _ by omega)).trans m1aE
  clear m1aE
  have m1aE := t
  clear t
  have t := (hb.cell (p := ⟨w.heap.size, 2, none⟩) (show w.heap.size < _ by omega)).trans m2aE
  clear m2aE
  have m2aE := t
  clear t
  have t := (hb.cell (p := ⟨w3.heap.size, 0, none⟩) (show w3.heap.size < _ by omega)).trans m0w0
  clear m0w0
  have m0w0 := t
  clear t
  have t := (hb.cell (p := ⟨w3.heap.size, 1, none⟩) (show w3.heap.size < _ by omega)).trans m1w0
  clear m1w0
  have m1w0 := t
  clear t
  have t := (hb.cell (p := ⟨w3.heap.size, 2, none⟩) (show w3.heap.size < _ by omega)).trans m2w0
  clear m2w0
  have m2w0 := t
  clear t
  have t := (hb.cell (p := ⟨w3.heap.size + 1, 0, none⟩) (show w3.heap.size + 1 < _ by omega)).trans m0w1
  clear m0w1
  have m0w1 := t
  clear t
  have t := (hb.cell (p := ⟨w3.heap.size + 1, 1, none⟩) (show w3.heap.size + 1 < _ by omega)).trans m1w1
  clear m1w1
  have m1w1 := t
  clear t
  have t := (hb.cell (p := ⟨w3.heap.size + 1, 2, none⟩) (show w3.heap.size + 1 < _ by omega)).trans m2w1
  clear m2w1
  have m2w1 := t
  clear t
  have t := (hb.cell (p := ⟨w5.heap.size, 0, none⟩) (show w5.heap.size < _ by omega)).trans m0c2
  clear m0c2
  have m0c2 := t
  clear t
  have t := (hb.cell (p := ⟨w5.heap.size, 1, none⟩) (show w5.heap.size < _ by omega)).trans m1c2
  clear m1c2
  have m1c2 := t
  clear t
  have t := (hb.cell (p := ⟨w5.heap.size, 2, none⟩) (show w5.heap.size < _ by omega)).trans m2c2
  clear m2c2
  have m2c2 := t
  clear t
  have t := (hb.cell (p := ⟨w7.heap.size, 0, none⟩) (show w7.heap.size < _ by omega)).trans m0g0
  clear m0g0
  have m0g0 := t
  clear t
  have t := (hb.cell (p := ⟨w7.heap.size, 1, none⟩) (show w7.heap.size < _ by omega)).trans m1g0
  clear m1g0
  have m1g0 := t
  clear t
  have t := (hb.cell (p := ⟨w7.heap.size, 2, none⟩) (show w7.heap.size < _ by omega)).trans m2g0
  clear m2g0
  have m2g0 := t
  clear t
  have t := (hb.cell (p := ⟨w7.heap.size + 1, 0, none⟩) (show w7.heap.size + 1 < _ by omega)).trans m0g1
  clear m0g1
  have m0g1 := t
  clear t
  have t := (hb.cell (p := ⟨w7.heap.size + 1, 1, none⟩) (show w7.heap.size + 1 < _ by omega)).trans m1g1
  clear m1g1
  have m1g1 := t
  clear t
  have t := (hb.cell (p := ⟨w7.heap.size + 1, 2, none⟩) (show w7.heap.size + 1 < _ by omega)).trans m2g1
  clear m2g1
  have m2g1 := t
  clear t
  have t := OP.below hc1 hb
  clear hc1
  have hc1 := t
  clear t
  have t := OP.below hw0 hb
  clear hw0
  have hw0 := t
  clear t
  have t := local_O3.below hw1 hb
  clear hw1
  have hw1 := t
  clear t
  have t := local_O2.below hw2 hb
  clear hw2
  have hw2 := t
  clear t
  have t := OP.below hc2 hb
  clear hc2
  have hc2 := t
  clear t
  have t := OP.below hg0 hb
  clear hg0
  have hg0 := t
  clear t
  have t := local_O3.below hg1 hb
  clear hg1
  have hg1 := t
  clear t
  have t := local_O2.below hg2 hb
  clear hg2
  have hg2 := t
  clear t
  clear hb
  go_wp2_with fail
  have hcl := @i_SectionOf
  have hcl' := hcl _ _ _ _ aI w22 hc3.rd
  clear hcl
  rw [HSP.out, HMX.out, HMY.out, HMD.out, HST.out, HSC.out] at hcl'
  have HCL := Lib.hid hcl'
  clear hcl'
  refine HCL.out.mono ?_
  rintro e w23 ⟨v1h0, v2h0, v3h0, vh1, vh2, rfl, Sh0, Sh1, Sh2, hh0, hh1, hh2, dh0h1, dh0h2, dh2h1, ah0, ah1, ah2, hb⟩
  have hb0x := below_size hb0 hb
  clear hb0
  have hb0 := hb0x
  clear hb0x
  have s23 : w22.heap.size ≤ w23.heap.size := hb.size
  have t := (hb.cell (p := ⟨w.heap.size, 0, none⟩) (show w.heap.size < _ by omega)).trans m0aE
  clear m0aE
  have m0aE := t
  clear t
  have t := (hb.cell (p := ⟨w.heap.size, 1, none⟩) (show w.heap.size < _ by omega)).trans m1aE
  clear m1aE
  have m1aE := t
  clear t
  have t := (hb.cell (p := ⟨w.heap.size, 2, none⟩) (show w.heap.size < _ by omega)).trans m2aE
  clear m2aE
  have m2aE := t
  clear t
  have t := (hb.cell (p := ⟨w3.heap.size, 0, none⟩) (show w3.heap.size < _ by omega)).trans m0w0
  clear m0w0
  have m0w0 := t
  clear t
  have t := (hb.cell (p := ⟨w3.heap.size, 1, none⟩) (show w3.heap.size < _ by omega)).trans m1w0
  clear m1w0
  have m1w0 := t
  clear t
  have t := (hb.cell (p := ⟨w3.heap.size, 2, none⟩) (show w3.heap.size < _ by omega)).trans m2w0
  clear m2w0
  have m2w0 := t
  clear t
  have t := (hb.cell (p := ⟨w3.heap.size + 1, 0, none⟩) (show w3.heap.size + 1 < _ by omega)).trans m0w1
  clear m0w1
  have m0w1 := t
  clear t
  have t := (hb.cell (p := ⟨w3.heap.size + 1, 1, none⟩) (show w3.heap.size + 1 < _ by omega)).trans m1w1
  clear m1w1
  have m1w1 := t
  clear t
  have t := (hb.cell (p := ⟨w3.heap.size + 1, 2, none⟩) (show w3.heap.size + 1 < _ by omega)).trans m2w1
  clear m2w1
  have m2w1 := t
  clear t
  have t := (hb.cell (p := ⟨w5.heap.size, 0, none⟩) (show w5.heap.size < _ by omega)).trans m0c2
  clear m0c2
  have m0c2 := t
  clear t
  have t := (hb.cell (p := ⟨w5.heap.size, 1, none⟩) (show w5.heap.size < _ by omega)).trans m1c2
  clear m1c2
  have m1c2 := t
  clear t
  have t := (hb.cell (p := ⟨w5.heap.size, 2, none⟩) (show w5.heap.size < _ by omega)).trans m2c2
  clear m2c2
  have m2c2 := t
  clear t
  have t := (hb.cell (p := ⟨w7.heap.size, 0, none⟩) (show w7.heap.size < _ by omega)).trans m0g0
  clear m0g0
  have m0g0 := t
  clear t
  have t := (hb.cell (p := ⟨w7.heap.size, 1, none⟩) (show w7.heap.size < _ by omega)).trans m1g0
  clear m1g0
  have m1g0 := t
  clear t
  have t := (hb.cell (p := ⟨w7.heap.size, 2, none⟩) (show w7.heap.size < _ by omega)).trans m2g0
  clear m2g0
  have m2g0 := t
  clear t
  have t := (hb.cell (p := ⟨w7.heap.size + 1, 0, none⟩) (show w7.heap.size + 1 < _ by omega)).trans m0g1
  clear m0g1
  have m0g1 := t
  clear t
  have t := (hb.cell (p := ⟨w7.heap.size + 1, 1, none⟩) (show w7.heap.size + 1 < _ by omega)).trans m1g1
  clear m1g1
  have m1g1 := t
  clear t
  have t := (hb.cell (p := ⟨w7.heap.size + 1, 2, none⟩) (show w7.heap.size + 1 < _ by omega)).trans m2g1
  clear m2g1
  have m2g1 := t
  clear t
  have t := OP.below hc1 hb
  clear hc1
  have hc1 := t
  clear t
  have t := OP.below hw0 hb
  clear hw0
  have hw0 := t
  clear t
  have t := local_O3.below hw1 hb
  clear hw1
  have hw1 := t
  clear t
  have t := local_O2.below hw2 hb
  clear hw2
  have hw2 := t
  clear t
  have t := OP.below hc2 hb
  clear hc2
  have hc2 := t
  clear t
  have t := OP.below hg0 hb
  clear hg0
  have hg0 := t
  clear t
  have t := local_O3.below hg1 hb
  clear hg1
  have hg1 := t
  clear t
  have t := local_O2.below hg2 hb
  clear hg2
  have hg2 := t
  clear t
  have t := OP.below hc3 hb
  clear hc3
  have hc3 := t
  clear t
  clear hb
  clear HCL
  have llh0 : _ ≤ 1000000000 := hml1
  have llh1 : _ ≤ 1000000000 := hml2
  have llh2 : _ ≤ 1000000000 := hml3
  have lmh1 : tot3 md ≤ 1000000000 := by have := llh1; unfold msize at this; omega
  have lch2 : (cat st).length ≤ 1000000000 := by have := llh2; unfold size2 at this; omega
  obtain ⟨a1h0, n1h0, q1h0, a2h0, n2h0, q2h0, a3h0, n3h0, q3h0, rfl, rfl, rfl⟩ := hh0.formsE
  obtain ⟨amh1, qmh1, rfl, _, _⟩ := (O3.rd hh1).form
  have fh2 := hh2.rd
  obtain ⟨ath2, qth2, rfl, _, _⟩ := fh2.form
  clear fh2
  have yaE : w.heap.size < w23.heap.size := by omega
  have yw0 : w3.heap.size < w23.heap.size := by omega
  have yw1 : w3.heap.size + 1 < w23.heap.size := by omega
  have yc2 : w5.heap.size < w23.heap.size := by omega
  have yg0 : w7.heap.size < w23.heap.size := by omega
  have yg1 : w7.heap.size + 1 < w23.heap.size := by omega
  go_wp2_with fail
  clear yaE yw0 yw1 yc2 yg0 yg1
  have hb := below_allocs2 w23 (Obj.cells #[Value.slice a1h0 n1h0 q1h0, Value.slice a2h0 n2h0 q2h0, Value.slice a3h0 n3h0 q3h0] 28) (Obj.cells #[.int .i64 mx, .int .i64 my, Value.slice amh1 md.length qmh1] 42)
  have zh0 : w23.heap.size < ((w23.alloc (Obj.cells #[Value.slice a1h0 n1h0 q1h0, Value.slice a2h0 n2h0 q2h0, Value.slice a3h0 n3h0 q3h0] 28)).alloc (Obj.cells #[.int .i64 mx, .int .i64 my, Value.slice amh1 md.length qmh1] 42)).heap.size := by simp <;> omega
  have M0h0 : Hid (((w23.alloc (Obj.cells #[Value.slice a1h0 n1h0 q1h0, Value.slice a2h0 n2h0 q2h0, Value.slice a3h0 n3h0 q3h0] 28)).alloc (Obj.cells #[.int .i64 mx, .int .i64 my, Value.slice amh1 md.length qmh1] 42)).cell? ⟨w23.heap.size, 0, none⟩ = some (Value.slice a1h0 n1h0 q1h0)) := by show _ = _; simp [go_sem]
  have M1h0 : Hid (((w23.alloc (Obj.cells #[Value.slice a1h0 n1h0 q1h0, Value.slice a2h0 n2h0 q2h0, Value.slice a3h0 n3h0 q3h0] 28)).alloc (Obj.cells #[.int .i64 mx, .int .i64 my, Value.slice amh1 md.length qmh1] 42)).cell? ⟨w23.heap.size, 1, none⟩ = some (Value.slice a2h0 n2h0 q2h0)) := by show _ = _; simp [go_sem]
  have M2h0 : Hid (((w23.alloc (Obj.cells #[Value.slice a1h0 n1h0 q1h0, Value.slice a2h0 n2h0 q2h0, Value.slice a3h0 n3h0 q3h0] 28)).alloc (Obj.cells #[.int .i64 mx, .int .i64 my, Value.slice amh1 md.length qmh1] 42)).cell? ⟨w23.heap.size, 2, none⟩ = some (Value.slice a3h0 n3h0 q3h0)) := by show _ = _; simp [go_sem]
  have zh1 : w23.heap.size + 1 < ((w23.alloc (Obj.cells #[Value.slice a1h0 n1h0 q1h0, Value.slice a2h0 n2h0 q2h0, Value.slice a3h0 n3h0 q3h0] 28)).alloc (Obj.cells #[.int .i64 mx, .int .i64 my, Value.slice amh1 md.length qmh1] 42)).heap.size := by simp <;> omega
  have M0h1 : Hid (((w23.alloc (Obj.cells #[Value.slice a1h0 n1h0 q1h0, Value.slice a2h0 n2h0 q2h0, Value.slice a3h0 n3h0 q3h0] 28)).alloc (Obj.cells #[.int .i64 mx, .int .i64 my, Value.slice amh1 md.length qmh1] 42)).cell? ⟨w23.heap.size + 1, 0, none⟩ = some (.int .i64 mx)) := by show _ = _; simp [go_sem]
  have M1h1 : Hid (((w23.alloc (Obj.cells #[Value.slice a1h0 n1h0 q1h0, Value.slice a2h0 n2h0 q2h0, Value.slice a3h0 n3h0 q3h0] 28)).alloc (Obj.cells #[.int .i64 mx, .int .i64 my, Value.slice amh1 md.length qmh1] 42)).cell? ⟨w23.heap.size + 1, 1, none⟩ = some (.int .i64 my)) := by show _ = _; simp [go_sem]
  have M2h1 : Hid (((w23.alloc (Obj.cells #[Value.slice a1h0 n1h0 q1h0, Value.slice a2h0 n2h0 q2h0, Value.slice a3h0 n3h0 q3h0] 28)).alloc (Obj.cells #[.int .i64 mx, .int .i64 my, Value.slice amh1 md.length qmh1] 42)).cell? ⟨w23.heap.size + 1, 2, none⟩ = some (Value.slice amh1 md.length qmh1)) := by show _ = _; simp [go_sem]
  generalize ((w23.alloc (Obj.cells #[Value.slice a1h0 n1h0 q1h0, Value.slice a2h0 n2h0 q2h0, Value.slice a3h0 n3h0 q3h0] 28)).alloc (Obj.cells #[.int .i64 mx, .int .i64 my, Value.slice amh1 md.length qmh1] 42)) = w24 at *
  have hb0x := below_size hb0 hb
  clear hb0
  have hb0 := hb0x
  clear hb0x
  have s24 : w23.heap.size ≤ w24.heap.size := hb.size
  have t := (hb.cell (p := ⟨w.heap.size, 0, none⟩) (show w.heap.size < _ by omega)).trans m0aE
  clear m0aE
  have m0aE := t
  clear t
  have t := (hb.cell (p := ⟨w.heap.size, 1, none⟩) (show w.heap.size < _ by omega)).trans m1aE
  clear m1aE
  have m1aE := t
  clear t
  have t := (hb.cell (p := ⟨w.heap.size, 2, none⟩) (show w.heap.size < _ by omega)).trans m2aE
  clear m2aE
  have m2aE := t
  clear t
  have t := (hb.cell (p := ⟨w3.heap.size, 0, none⟩) (show w3.heap.size < _ by omega)).trans m0w0
  clear m0w0
  have m0w0 := t
  clear t
  have t := (hb.cell (p := ⟨w3.heap.size, 1, none⟩) (show w3.heap.size < _ by omega)).trans m1w0
  clear m1w0
  have m1w0 := t
  clear t
  have t := (hb.cell (p := ⟨w3.heap.size, 2, none⟩) (show w3.heap.size < _ by omega)).trans m2w0
  clear m2w0
  have m2w0 := t
  clear t
  have t := (hb.cell (p := ⟨w3.heap.size + 1, 0, none⟩) (show w3.heap.size + 1 < _ by omega)).trans m0w1
  clear m0w1
  have m0w1 := t
  clear t
  have t := (hb.cell (p := ⟨w3.heap.size + 1, 1, none⟩) (show w3.heap.size + 1 < _ by omega)).trans m1w1
  clear m1w1
  have m1w1 := t
  clear t
  have t := (hb.cell (p := ⟨w3.heap.size + 1, 2, none⟩) (show w3.heap.size + 1 < _ by omega)).trans m2w1
  clear m2w1
  have m2w1 := t
  clear t
  have t := (hb.cell (p := ⟨w5.heap.size, 0, none⟩) (show w5.heap.size < _ by omega)).trans m0c2
  clear m0c2
  have m0c2 := t
  clear t
  have t := (hb.cell (p := ⟨w5.heap.size, 1, none⟩) (show w5.heap.size < _ by omega)).trans m1c2
  clear m1c2
  have m1c2 := t
  clear t
  have t := (hb.cell (p := ⟨w5.heap.size, 2, none⟩) (show w5.heap.size < _ by omega)).trans m2c2
  clear m2c2
  have m2c2 := t
  clear t
  have t := (hb.cell (p := ⟨w7.heap.size, 0, none⟩) (show w7.heap.size < _ by omega)).trans m0g0
  clear m0g0
  have m0g0 := t
  clear t
  have t := (hb.cell (p := ⟨w7.heap.size, 1, none⟩) (show w7.heap.size < _ by omega)).trans m1g0
  clear m1g0
  have m1g0 := t
  clear t
  have t := (hb.cell (p := ⟨w7.heap.size, 2, none⟩) (show w7.heap.size < _ by omega)).trans m2g0
  clear m2g0
  have m2g0 := t
  clear t
  have t := (hb.cell (p := ⟨w7.heap.size + 1, 0, none⟩) (show w7.heap.size + 1 < _ by omega)).trans m0g1
  clear m0g1
  have m0g1 := t
  clear t
  have t := (hb.cell (p := ⟨w7.heap.size + 1, 1, none⟩) (show w7.heap.size + 1 < _ by omega)).trans m1g1
  clear m1g1
  have m1g1 := t
  clear t
  have t := (hb.cell (p := ⟨w7.heap.size + 1, 2, none⟩) (show w7.heap.size + 1 < _ by omega)).trans m2g1
  clear m2g1
  have m2g1 := t
  clear t
  have t := OP.below hc1 hb
  clear hc1
  have hc1 := t
  clear t
  have t := OP.below hw0 hb
  clear hw0
  have hw0 := t
  clear t
  have t := local_O3.below hw1 hb
  clear hw1
  have hw1 := t
  clear t
  have t := local_O2.below hw2 hb
  clear hw2
  have hw2 := t
  clear t
  have t := OP.below hc2 hb
  clear hc2
  have hc2 := t
  clear t
  have t := OP.below hg0 hb
  clear hg0
  have hg0 := t
  clear t
  have t := local_O3.below hg1 hb
  clear hg1
  have hg1 := t
  clear t
  have t := local_O2.below hg2 hb
  clear hg2
  have hg2 := t
  clear t
  have t := OP.below hc3 hb
  clear hc3
  have hc3 := t
  clear t
  have t := OP.below hh0 hb
  clear hh0
  have hh0 := t
  clear t
  have t := local_O3.below hh1 hb
  clear hh1
  have hh1 := t
  clear t
  have t := local_O2.below hh2 hb
  clear hh2
  have hh2 := t
  clear t
  clear hb
  have m0h0 := M0h0.out
  have m1h0 := M1h0.out
  have m2h0 := M2h0.out
  have m0h1 := M0h1.out
  have m1h1 := M1h1.out
  have m2h1 := M2h1.out
  refine (l_eqPresentation _ _ _ _ _ _ _ _ hh0.rd hw0.rd).mono ?_
  rintro e w25 ⟨rfl, hb⟩
  have hb0x := below_size hb0 hb
  clear hb0
  have hb0 := hb0x
  clear hb0x
  have s25 : w24.heap.size ≤ w25.heap.size := hb.size
  have t := (hb.cell (p := ⟨w.heap.size, 0, none⟩) (show w.heap.size < _ by omega)).trans m0aE
  clear m0aE
  have m0aE := t
  clear t
  have t := (hb.cell (p := ⟨w.heap.size, 1, none⟩) (show w.heap.size < _ by omega)).trans m1aE
  clear m1aE
  have m1aE := t
  clear t
  have t := (hb.cell (p := ⟨w.heap.size, 2, none⟩) (show w.heap.size < _ by omega)).trans m2aE
  clear m2aE
  have m2aE := t
  clear t
  have t := (hb.cell (p := ⟨w3.heap.size, 0, none⟩) (show w3.heap.size < _ by omega)).trans m0w0
  clear m0w0
  have m0w0 := t
  clear t
  have t := (hb.cell (p := ⟨w3.heap.size, 1, none⟩) (show w3.heap.size < _ by omega)).trans m1w0
  clear m1w0
  have m1w0 := t
  clear t
  have t := (hb.cell (p := ⟨w3.heap.size, 2, none⟩) (show w3.heap.size < _ by omega)).trans m2w0
  clear m2w0
  have m2w0 := t
  clear t
  have t := (hb.cell (p := ⟨w3.heap.size + 1, 0, none⟩) (show w3.heap.size + 1 < _ by omega)).trans m0w1
  clear m0w1
  have m0w1 := t
  clear t
  have t := (hb.cell (p := ⟨w3.heap.size + 1, 1, none⟩) (show w3.heap.size + 1 < _ by omega)).trans m1w1
  clear m1w1
  have m1w1 := t
  clear t
  have t := (hb.cell (p := ⟨w3.heap.size + 1, 2, none⟩) (show w3.heap.size + 1 < _ by omega)).trans m2w1
  clear m2w1
  have m2w1 := t
  clear t
  have t := (hb.cell (p := ⟨w5.heap.size, 0, none⟩) (show w5.heap.size < _ by omega)).trans m0c2
  clear m0c2
  have m0c2 := t
  clear t
  have t := (hb.cell (p := ⟨w5.heap.size, 1, none⟩) (show w5.heap.size < _ by omega)).trans m1c2
  clear m1c2
  have m1c2 := t
  clear t
  have t := (hb.cell (p := ⟨w5.heap.size, 2, none⟩) (show w5.heap.size < _ by omega)).trans m2c2
  clear m2c2
  have m2c2 := t
  clear t
  have t := (hb.cell (p := ⟨w7.heap.size, 0, none⟩) (show w7.heap.size < _ by omega)).trans m0g0
  clear m0g0
  have m0g0 := t
  clear t
  have t := (hb.cell (p := ⟨w7.heap.size, 1, none⟩) (show w7.heap.size < _ by omega)).trans m1g0
  clear m1g0
  have m1g0 := t
  clear t
  have t := (hb.cell (p := ⟨w7.heap.size, 2, none⟩) (show w7.heap.size < _ by omega)).trans m2g0
  clear m2g0
  have m2g0 := t
  clear t
  have t := (hb.cell (p := ⟨w7.heap.size + 1, 0, none⟩) (show w7.heap.size + 1 < _ by omega)).trans m0g1
  clear m0g1
  have m0g1 := t
  clear t
  have t := (hb.cell (p := ⟨w7.heap.size + 1, 1, none⟩) (show w7.heap.size + 1 < _ by omega)).trans m1g1
  clear m1g1
  have m1g1 := t
  clear t
  have t := (hb.cell (p := ⟨w7.heap.size + 1, 2, none⟩) (show w7.heap.size + 1 < _ by omega)).trans m2g1
  clear m2g1
  have m2g1 := t
  clear t
  have t := (hb.cell (p := ⟨w23.heap.size, 0, none⟩) (show w23.heap.size < _ by omega)).trans m0h0
  clear m0h0
  have m0h0 := t
  clear t
  have t := (hb.cell (p := ⟨w23.heap.size, 1, none⟩) (show w23.heap.size < _ by omega)).trans m1h0
  clear m1h0
  have m1h0 := t
  clear t
  have t := (hb.cell (p := ⟨w23.heap.size, 2, none⟩) (show w23.heap.size < _ by omega)).trans m2h0
  clear m2h0
  have m2h0 := t
  clear t
  have t := (hb.cell (p := ⟨w23.heap.size + 1, 0, none⟩) (show w23.heap.size + 1 < _ by omega)).trans m0h1
  clear m0h1
  have m0h1 := t
  clear t
  have t := (hb.cell (p := ⟨w23.heap.size + 1, 1, none⟩) (show w23.heap.size + 1 < _ by omega)).trans m1h1
  clear m1h1
  have m1h1 := t
  clear t
  have t := (hb.cell (p := ⟨w23.heap.size + 1, 2, none⟩) (show w23.heap.size + 1 < _ by omega)).trans m2h1
  clear m2h1
  have m2h1 := t
  clear t
  have t := OP.below hc1 hb
  clear hc1
  have hc1 := t
  clear t
  have t := OP.below hw0 hb
  clear hw0
  have hw0 := t
  clear t
  have t := local_O3.below hw1 hb
  clear hw1
  have hw1 := t
  clear t
  have t := local_O2.below hw2 hb
  clear hw2
  have hw2 := t
  clear t
  have t := OP.below hc2 hb
  clear hc2
  have hc2 := t
  clear t
  have t := OP.below hg0 hb
  clear hg0
  have hg0 := t
  clear t
  have t := local_O3.below hg1 hb
  clear hg1
  have hg1 := t
  clear t
  have t := local_O2.below hg2 hb
  clear hg2
  have hg2 := t
  clear t
  have t := OP.below hc3 hb
  clear hc3
  have hc3 := t
  clear t
  have t := OP.below hh0 hb
  clear hh0
  have hh0 := t
  clear t
  have t := local_O3.below hh1 hb
  clear hh1
  have hh1 := t
  clear t
  have t := local_O2.below hh2 hb
  clear hh2
  have hh2 := t
  clear t
  clear hb
  go_wp2_with fail
  refine (l_eqModule _ _ _ _ _ _ (O3.rd hh1) (O3.rd hw1)).mono ?_
  rintro e w26 ⟨rfl, hb⟩
  have hb0x := below_size hb0 hb
  clear hb0
  have hb0 := hb0x
  clear hb0x
  have s26 : w25.heap.size ≤ w26.heap.size := hb.size
  have t := (hb.cell (p := ⟨w.heap.size, 0, none⟩) (show w.heap.size < _ by omega)).trans m0aE
  clear m0aE
  have m0aE := t
  clear t
  have t := (hb.cell (p := ⟨w.heap.size, 1, none⟩) (show w.heap.size < _ by omega)).trans m1aE
  clear m1aE
  have m1aE := t
  clear t
  have t := (hb.cell (p := ⟨w.heap.size, 2, none⟩) (show w.heap.size < _ by omega)).trans m2aE
  clear m2aE
  have m2aE := t
  clear t
  have t := (hb.cell (p := ⟨w3.heap.size, 0, none⟩) (show w3.heap.size < _ by omega)).trans m0w0
  clear m0w0
  have m0w0 := t
  clear t
  have t := (hb.cell (p := ⟨w3.heap.size, 1, none⟩) (show w3.heap.size < _ by omega)).trans m1w0
  clear m1w0
  have m1w0 := t
  clear t
  have t := (hb.cell (p := ⟨w3.heap.size, 2, none⟩) (show w3.heap.size < _ by omega)).trans m2w0
  clear m2w0
  have m2w0 := t
  clear t
  have t := (hb.cell (p := ⟨w3.heap.size + 1, 0, none⟩) (show w3.heap.size + 1 < _ by omega)).trans m0w1
  clear m0w1
  have m0w1 := t
  clear t
  have t := (hb.cell (p := ⟨w3.heap.size + 1, 1, none⟩) (show w3.heap.size + 1 < _ by omega)).trans m1w1
  clear m1w1
  have m1w1 := t
  clear t
  have t := (hb.cell (p := ⟨w3.heap.size + 1, 2, none⟩) (show w3.heap.size + 1 < _ by omega)).trans m2w1
  clear m2w1
  have m2w1 := t
  clear t
  have t := (hb.cell (p := ⟨w5.heap.size, 0, none⟩) (show w5.heap.size < _ by omega)).trans m0c2
  clear m0c2
  have m0c2 := t
  clear t
  have t := (hb.cell (p := ⟨w5.heap.size, 1, none⟩) (show w5.heap.size < _ by omega)).trans m1c2
  clear m1c2
  have m1c2 := t
  clear t
  have t := (hb.cell (p := ⟨w5.heap.size, 2, none⟩) (show w5.heap.size < _ by omega)).trans m2c2
  clear m2c2
  have m2c2 := t
  clear t
  have t := (hb.cell (p := ⟨w7.heap.size, 0, none⟩) (show w7.heap.size < _ by omega)).trans m0g0
  clear m0g0
  have m0g0 := t
  clear t
  have t := (hb.cell (p := ⟨w7.heap.size, 1, none⟩) (show w7.heap.size < _ by omega)).trans m1g0
  clear m1g0
  have m1g0 := t
  clear t
  have t := (hb.cell (p := ⟨w7.heap.size, 2, none⟩) (show w7.heap.size < _ by omega)).trans m2g0
  clear m2g0
  have m2g0 := t
  clear t
  have t := (hb.cell (p := ⟨w7.heap.size + 1, 0, none⟩) (show w7.heap.size + 1 < _ by omega)).trans m0g1
  clear m0g1
  have m0g1 := t
  clear t
  have t := (hb.cell (p := ⟨w7.heap.size + 1, 1, none⟩) (show w7.heap.size + 1 < _ by omega)).trans m1g1
  clear m1g1
  have m1g1 := t
  clear t
  have t := (hb.cell (p := ⟨w7.heap.size + 1, 2, none⟩) (show w7.heap.size + 1 < _ by omega)).trans m2g1
  clear m2g1
  have m2g1 := t
  clear t
  have t := (hb.cell (p := ⟨w23.heap.size, 0, none⟩) (show w23.heap.size < _ by omega)).trans m0h0
  clear m0h0
  have m0h0 := t
  clear t
  have t := (hb.cell (p := ⟨w23.heap.size, 1, none⟩) (show w23.heap.size < _ by omega)).trans m1h0
  clear m1h0
  have m1h0 := t
  clear t
  have t := (hb.cell (p := ⟨w23.heap.size, 2, none⟩) (show w23.heap.size < _ by omega)).trans m2h0
  clear m2h0
  have m2h0 := t
  clear t
  have t := (hb.cell (p := ⟨w23.heap.size + 1, 0, none⟩) (show w23.heap.size + 1 < _ by omega)).trans m0h1
  clear m0h1
  have m0h1 := t
  clear t
  have t := (hb.cell (p := ⟨w23.heap.size + 1, 1, none⟩) (show w23.heap.size + 1 < _ by omega)).trans m1h1
  clear m1h1
  have m1h1 := t
  clear t
  have t := (hb.cell (p := ⟨w23.heap.size + 1, 2, none⟩) (show w23.heap.size + 1 < _ by omega)).trans m2h1
  clear m2h1
  have m2h1 := t
  clear t
  have t := OP.below hc1 hb
  clear hc1
  have hc1 := t
  clear t
  have t := OP.below hw0 hb
  clear hw0
  have hw0 := t
  clear t
  have t := local_O3.below hw1 hb
  clear hw1
  have hw1 := t
  clear t
  have t := local_O2.below hw2 hb
  clear hw2
  have hw2 := t
  clear t
  have t := OP.below hc2 hb
  clear hc2
  have hc2 := t
  clear t
  have t := OP.below hg0 hb
  clear hg0
  have hg0 := t
  clear t
  have t := local_O3.below hg1 hb
  clear hg1
  have hg1 := t
  clear t
  have t := local_O2.below hg2 hb
  clear hg2
  have hg2 := t
  clear t
  have t := OP.below hc3 hb
  clear hc3
  have hc3 := t
  clear t
  have t := OP.below hh0 hb
  clear hh0
  have hh0 := t
  clear t
  have t := local_O3.below hh1 hb
  clear hh1
  have hh1 := t
  clear t
  have t := local_O2.below hh2 hb
  clear hh2
  have hh2 := t
  clear t
  clear hb
  go_wp2_with fail
  refine (l_eqInt64SS_same _ _ _ _ hh2.rd hw2.rd).mono ?_
  rintro e w27 ⟨rfl, hb⟩
  have hb0x := below_size hb0 hb
  clear hb0
  have hb0 := hb0x
  clear hb0x
  have s27 : w26.heap.size ≤ w27.heap.size := hb.size
  have t := (hb.cell (p := ⟨w.heap.size, 0, none⟩) (show w.heap.size < _ by omega)).trans m0aE
  clear m0aE
  have m0aE := t
  clear t
  have t := (hb.cell (p := ⟨w.heap.size, 1, none⟩) (show w.heap.size < _ by omega)).trans m1aE
  clear m1aE
  have m1aE := t
  clear t
  have t := (hb.cell (p := ⟨w.heap.size, 2, none⟩) (show w.heap.size < _ by omega)).trans m2aE
  clear m2aE
  have m2aE := t
  clear t
  have t := (hb.cell (p := ⟨w3.heap.size, 0, none⟩) (show w3.heap.size < _ by omega)).trans m0w0
  clear m0w0
  have m0w0 := t
  clear t
  have t := (hb.cell (p := ⟨w3.heap.size, 1, none⟩) (show w3.heap.size < _ by omega)).trans m1w0
  clear m1w0
  have m1w0 := t
  clear t
  have t := (hb.cell (p := ⟨w3.heap.size, 2, none⟩) (show w3.heap.size < _ by omega)).trans m2w0
  clear m2w0
  have m2w0 := t
  clear t
  have t := (hb.cell (p := ⟨w3.heap.size + 1, 0, none⟩) (show w3.heap.size + 1 < _ by omega)).trans m0w1
  clear m0w1
  have m0w1 := t
  clear t
  have t := (hb.cell (p := ⟨w3.heap.size + 1, 1, none⟩) (show w3.heap.size + 1 < _ by omega)).trans m1w1
  clear m1w1
  have m1w1 := t
  clear t
  have t := (hb.cell (p := ⟨w3.heap.size + 1, 2, none⟩) (show w3.heap.size + 1 < _ by omega)).trans m2w1
  clear m2w1
  have m2w1 := t
  clear t
  have t := (hb.cell (p := ⟨w5.heap.size, 0, none⟩) (show w5.heap.size < _ by omega)).trans m0c2
  clear m0c2
  have m0c2 := t
  clear t
  have t := (hb.cell (p := ⟨w5.heap.size, 1, none⟩) (show w5.heap.size < _ by omega)).trans m1c2
  clear m1c2
  have m1c2 := t
  clear t
  have t := (hb.cell (p := ⟨w5.heap.size, 2, none⟩) (show w5.heap.size < _ by omega)).trans m2c2
  clear m2c2
  have m2c2 := t
  clear t
  have t := (hb.cell (p := ⟨w7.heap.size, 0, none⟩) (show w7.heap.size < _ by omega)).trans m0g0
  clear m0g0
  have m0g0 := t
  clear t
  have t := (hb.cell (p := ⟨w7.heap.size, 1, none⟩) (show w7.heap.size < _ by omega)).trans m1g0
  clear m1g0
  have m1g0 := t
  clear t
  have t := (hb.cell (p := ⟨w7.heap.size, 2, none⟩) (show w7.heap.size < _ by omega)).trans m2g0
  clear m2g0
  have m2g0 := t
  clear t
  have t := (hb.cell (p := ⟨w7.heap.size + 1, 0, none⟩) (show w7.heap.size + 1 < _ by omega)).trans m0g1
  clear m0g1
  have m0g1 := t
  clear t
  have t := (hb.cell (p := ⟨w7.heap.size + 1, 1, none⟩) (show w7.heap.size + 1 < _ by omega)).trans m1g1
  clear m1g1
  have m1g1 := t
  clear t
  have t := (hb.cell (p := ⟨w7.heap.size + 1, 2, none⟩) (show w7.heap.size + 1 < _ by omega)).trans m2g1
  clear m2g1
  have m2g1 := t
  clear t
  have t := (hb.cell (p := ⟨w23.heap.size, 0, none⟩) (show w23.heap.size < _ by omega)).trans m0h0
  clear m0h0
  have m0h0 := t
  clear t
  have t := (hb.cell (p := ⟨w23.heap.size, 1, none⟩) (show w23.heap.size < _ by omega)).trans m1h0
  clear m1h0
  have m1h0 := t
  clear t
  have t := (hb.cell (p := ⟨w23.heap.size, 2, none⟩) (show w23.heap.size < _ by omega)).trans m2h0
  clear m2h0
  have m2h0 := t
  clear t
  have t := (hb.cell (p := ⟨w23.heap.size + 1, 0, none⟩) (show w23.heap.size + 1 < _ by omega)).trans m0h1
  clear m0h1
  have m0h1 := t
  clear t
  have t := (hb.cell (p := ⟨w23.heap.size + 1, 1, none⟩) (show w23.heap.size + 1 < _ by omega)).trans m1h1
  clear m1h1
  have m1h1 := t
  clear t
  have t := (hb.cell (p := ⟨w23.heap.size + 1, 2, none⟩) (show w23.heap.size + 1 < _ by omega)).trans m2h1
  clear m2h1
  have m2h1 := t
  clear t
  have t := OP.below hc1 hb
  clear hc1
  have hc1 := t
  clear t
  have t := OP.below hw0 hb
  clear hw0
  have hw0 := t
  clear t
  have t := local_O3.below hw1 hb
  clear hw1
  have hw1 := t
  clear t
  have t := local_O2.below hw2 hb
  clear hw2
  have hw2 := t
  clear t
  have t := OP.below hc2 hb
  clear hc2
  have hc2 := t
  clear t
  have t := OP.below hg0 hb
  clear hg0
  have hg0 := t
  clear t
  have t := local_O3.below hg1 hb
  clear hg1
  have hg1 := t
  clear t
  have t := local_O2.below hg2 hb
  clear hg2
  have hg2 := t
  clear t
  have t := OP.below hc3 hb
  clear hc3
  have hc3 := t
  clear t
  have t := OP.below hh0 hb
  clear hh0
  have hh0 := t
  clear t
  have t := local_O3.below hh1 hb
  clear hh1
  have hh1 := t
  clear t
  have t := local_O2.below hh2 hb
  clear hh2
  have hh2 := t
  clear t
  clear hb
  go_wp2_with fail
  refine (l_heldPresentation _ _ _ _ _ _ hg0.rd (by omega) (by omega) llg0).mono ?_
  rintro e w28 ⟨rfl, hb⟩
  have hb0x := below_size hb0 hb
  clear hb0
  have hb0 := hb0x
  clear hb0x
  have s28 : w27.heap.size ≤ w28.heap.size := hb.size
  have t := (hb.cell (p := ⟨w.heap.size, 0, none⟩) (show w.heap.size < _ by omega)).trans m0aE
  clear m0aE
  have m0aE := t
  clear t
  have t := (hb.cell (p := ⟨w.heap.size, 1, none⟩) (show w.heap.size < _ by omega)).trans m1aE
  clear m1aE
  have m1aE := t
  clear t
  have t := (hb.cell (p := ⟨w.heap.size, 2, none⟩) (show w.heap.size < _ by omega)).trans m2aE
  clear m2aE
  have m2aE := t
  clear t
  have t := (hb.cell (p := ⟨w3.heap.size, 0, none⟩) (show w3.heap.size < _ by omega)).trans m0w0
  clear m0w0
  have m0w0 := t
  clear t
  have t := (hb.cell (p := ⟨w3.heap.size, 1, none⟩) (show w3.heap.size < _ by omega)).trans m1w0
  clear m1w0
  have m1w0 := t
  clear t
  have t := (hb.cell (p := ⟨w3.heap.size, 2, none⟩) (show w3.heap.size < _ by omega)).trans m2w0
  clear m2w0
  have m2w0 := t
  clear t
  have t := (hb.cell (p := ⟨w3.heap.size + 1, 0, none⟩) (show w3.heap.size + 1 < _ by omega)).trans m0w1
  clear m0w1
  have m0w1 := t
  clear t
  have t := (hb.cell (p := ⟨w3.heap.size + 1, 1, none⟩) (show w3.heap.size + 1 < _ by omega)).trans m1w1
  clear m1w1
  have m1w1 := t
  clear t
  have t := (hb.cell (p := ⟨w3.heap.size + 1, 2, none⟩) (show w3.heap.size + 1 < _ by omega)).trans m2w1
  clear m2w1
  have m2w1 := t
  clear t
  have t := (hb.cell (p := ⟨w5.heap.size, 0, none⟩) (show w5.heap.size < _ by omega)).trans m0c2
  clear m0c2
  have m0c2 := t
  clear t
  have t := (hb.cell (p := ⟨w5.heap.size, 1, none⟩) (show w5.heap.size < _ by omega)).trans m1c2
  clear m1c2
  have m1c2 := t
  clear t
  have t := (hb.cell (p := ⟨w5.heap.size, 2, none⟩) (show w5.heap.size < _ by omega)).trans m2c2
  clear m2c2
  have m2c2 := t
  clear t
  have t := (hb.cell (p := ⟨w7.heap.size, 0, none⟩) (show w7.heap.size < _ by omega)).trans m0g0
  clear m0g0
  have m0g0 := t
  clear t
  have t := (hb.cell (p := ⟨w7.heap.size, 1, none⟩) (show w7.heap.size < _ by omega)).trans m1g0
  clear m1g0
  have m1g0 := t
  clear t
  have t := (hb.cell (p := ⟨w7.heap.size, 2, none⟩) (show w7.heap.size < _ by omega)).trans m2g0
  clear m2g0
  have m2g0 := t
  clear t
  have t := (hb.cell (p := ⟨w7.heap.size + 1, 0, none⟩) (show w7.heap.size + 1 < _ by omega)).trans m0g1
  clear m0g1
  have m0g1 := t
  clear t
  have t := (hb.cell (p := ⟨w7.heap.size + 1, 1, none⟩) (show w7.heap.size + 1 < _ by omega)).trans m1g1
  clear m1g1
  have m1g1 := t
  clear t
  have t := (hb.cell (p := ⟨w7.heap.size + 1, 2, none⟩) (show w7.heap.size + 1 < _ by omega)).trans m2g1
  clear m2g1
  have m2g1 := t
  clear t
  have t := (hb.cell (p := ⟨w23.heap.size, 0, none⟩) (show w23.heap.size < _ by omega)).trans m0h0
  clear m0h0
  have m0h0 := t
  clear t
  have t := (hb.cell (p := ⟨w23.heap.size, 1, none⟩) (show w23.heap.size < _ by omega)).trans m1h0
  clear m1h0
  have m1h0 := t
  clear t
  have t := (hb.cell (p := ⟨w23.heap.size, 2, none⟩) (show w23.heap.size < _ by omega)).trans m2h0
  clear m2h0
  have m2h0 := t
  clear t
  have t := (hb.cell (p := ⟨w23.heap.size + 1, 0, none⟩) (show w23.heap.size + 1 < _ by omega)).trans m0h1
  clear m0h1
  have m0h1 := t
  clear t
  have t := (hb.cell (p := ⟨w23.heap.size + 1, 1, none⟩) (show w23.heap.size + 1 < _ by omega)).trans m1h1
  clear m1h1
  have m1h1 := t
  clear t
  have t := (hb.cell (p := ⟨w23.heap.size + 1, 2, none⟩) (show w23.heap.size + 1 < _ by omega)).trans m2h1
  clear m2h1
  have m2h1 := t
  clear t
  have t := OP.below hc1 hb
  clear hc1
  have hc1 := t
  clear t
  have t := OP.below hw0 hb
  clear hw0
  have hw0 := t
  clear t
  have t := local_O3.below hw1 hb
  clear hw1
  have hw1 := t
  clear t
  have t := local_O2.below hw2 hb
  clear hw2
  have hw2 := t
  clear t
  have t := OP.below hc2 hb
  clear hc2
  have hc2 := t
  clear t
  have t := OP.below hg0 hb
  clear hg0
  have hg0 := t
  clear t
  have t := local_O3.below hg1 hb
  clear hg1
  have hg1 := t
  clear t
  have t := local_O2.below hg2 hb
  clear hg2
  have hg2 := t
  clear t
  have t := OP.below hc3 hb
  clear hc3
  have hc3 := t
  clear t
  have t := OP.below hh0 hb
  clear hh0
  have hh0 := t
  clear t
  have t := local_O3.below hh1 hb
  clear hh1
  have hh1 := t
  clear t
  have t := local_O2.below hh2 hb
  clear hh2
  have hh2 := t
  clear t
  clear hb
  go_wp2_with fail
  refine (l_heldModule _ _ _ _ _ _ (O3.rd hg1) (by omega) (by omega) llg1).mono ?_
  rintro e w29 ⟨rfl, hb⟩
  have hb0x := below_size hb0 hb
  clear hb0
  have hb0 := hb0x
  clear hb0x
  have s29 : w28.heap.size ≤ w29.heap.size := hb.size
  have t := (hb.cell (p := ⟨w.heap.size, 0, none⟩) (show w.heap.size < _ by omega)).trans m0aE
  clear m0aE
  have m0aE := t
  clear t
  have t := (hb.cell (p := ⟨w.heap.size, 1, none⟩) (show w.heap.size < _ by omega)).trans m1aE
  clear m1aE
  have m1aE := t
  clear t
  have t := (hb.cell (p := ⟨w.heap.size, 2, none⟩) (show w.heap.size < _ by omega)).trans m2aE
  clear m2aE
  have m2aE := t
  clear t
  have t := (hb.cell (p := ⟨w3.heap.size, 0, none⟩) (show w3.heap.size < _ by omega)).trans m0w0
  clear m0w0
  have m0w0 := t
  clear t
  have t := (hb.cell (p := ⟨w3.heap.size, 1, none⟩) (show w3.heap.size < _ by omega)).trans m1w0
  clear m1w0
  have m1w0 := t
  clear t
  have t := (hb.cell (p := ⟨w3.heap.size, 2, none⟩) (show w3.heap.size < _ by omega)).trans m2w0
  clear m2w0
  have m2w0 := t
  clear t
  have t := (hb.cell (p := ⟨w3.heap.size + 1, 0, none⟩) (show w3.heap.size + 1 < _ by omega)).trans m0w1
  clear m0w1
  have m0w1 := t
  clear t
  have t := (hb.cell (p := ⟨w3.heap.size + 1, 1, none⟩) (show w3.heap.size + 1 < _ by omega)).trans m1w1
  clear m1w1
  have m1w1 := t
  clear t
  have t := (hb.cell (p := ⟨w3.heap.size + 1, 2, none⟩) (show w3.heap.size + 1 < _ by omega)).trans m2w1
  clear m2w1
  have m2w1 := t
  clear t
  have t := (hb.cell (p := ⟨w5.heap.size, 0, none⟩) (show w5.heap.size < _ by omega)).trans m0c2
  clear m0c2
  have m0c2 := t
  clear t
  have t := (hb.cell (p := ⟨w5.heap.size, 1, none⟩) (show w5.heap.size < _ by omega)).trans m1c2
  clear m1c2
  have m1c2 := t
  clear t
  have t := (hb.cell (p := ⟨w5.heap.size, 2, none⟩) (show w5.heap.size < _ by omega)).trans m2c2
  clear m2c2
  have m2c2 := t
  clear t
  have t := (hb.cell (p := ⟨w7.heap.size, 0, none⟩) (show w7.heap.size < _ by omega)).trans m0g0
  clear m0g0
  have m0g0 := t
  clear t
  have t := (hb.cell (p := ⟨w7.heap.size, 1, none⟩) (show w7.heap.size < _ by omega)).trans m1g0
  clear m1g0
  have m1g0 := t
  clear t
  have t := (hb.cell (p := ⟨w7.heap.size, 2, none⟩) (show w7.heap.size < _ by omega)).trans m2g0
  clear m2g0
  have m2g0 := t
  clear t
  have t := (hb.cell (p := ⟨w7.heap.size + 1, 0, none⟩) (show w7.heap.size + 1 < _ by omega)).trans m0g1
  clear m0g1
  have m0g1 := t
  clear t
  have t := (hb.cell (p := ⟨w7.heap.size + 1, 1, none⟩) (show w7.heap.size + 1 < _ by omega)).trans m1g1
  clear m1g1
  have m1g1 := t
  clear t
  have t := (hb.cell (p := ⟨w7.heap.size + 1, 2, none⟩) (show w7.heap.size + 1 < _ by omega)).trans m2g1
  clear m2g1
  have m2g1 := t
  clear t
  have t := (hb.cell (p := ⟨w23.heap.size, 0, none⟩) (show w23.heap.size < _ by omega)).trans m0h0
  clear m0h0
  have m0h0 := t
  clear t
  have t := (hb.cell (p := ⟨w23.heap.size, 1, none⟩) (show w23.heap.size < _ by omega)).trans m1h0
  clear m1h0
  have m1h0 := t
  clear t
  have t := (hb.cell (p := ⟨w23.heap.size, 2, none⟩) (show w23.heap.size < _ by omega)).trans m2h0
  clear m2h0
  have m2h0 := t
  clear t
  have t := (hb.cell (p := ⟨w23.heap.size + 1, 0, none⟩) (show w23.heap.size + 1 < _ by omega)).trans m0h1
  clear m0h1
  have m0h1 := t
  clear t
  have t := (hb.cell (p := ⟨w23.heap.size + 1, 1, none⟩) (show w23.heap.size + 1 < _ by omega)).trans m1h1
  clear m1h1
  have m1h1 := t
  clear t
  have t := (hb.cell (p := ⟨w23.heap.size + 1, 2, none⟩) (show w23.heap.size + 1 < _ by omega)).trans m2h1
  clear m2h1
  have m2h1 := t
  clear t
  have t := OP.below hc1 hb
  clear hc1
  have hc1 := t
  clear t
  have t := OP.below hw0 hb
  clear hw0
  have hw0 := t
  clear t
  have t := local_O3.below hw1 hb
  clear hw1
  have hw1 := t
  clear t
  have t := local_O2.below hw2 hb
  clear hw2
  have hw2 := t
  clear t
  have t := OP.below hc2 hb
  clear hc2
  have hc2 := t
  clear t
  have t := OP.below hg0 hb
  clear hg0
  have hg0 := t
  clear t
  have t := local_O3.below hg1 hb
  clear hg1
  have hg1 := t
  clear t
  have t := local_O2.below hg2 hb
  clear hg2
  have hg2 := t
  clear t
  have t := OP.below hc3 hb
  clear hc3
  have hc3 := t
  clear t
  have t := OP.below hh0 hb
  clear hh0
  have hh0 := t
  clear t
  have t := local_O3.below hh1 hb
  clear hh1
  have hh1 := t
  clear t
  have t := local_O2.below hh2 hb
  clear hh2
  have hh2 := t
  clear t
  clear hb
  go_wp2_with fail
  refine (l_heldInt64SS _ _ _ _ hg2.rd (by omega) (by omega) (by unfold size2 at llg2; omega)).mono ?_
  rintro e w' ⟨rfl, rfl⟩
  go_wp2_with fail
  go_ret
  exact ⟨rfl, hbx.trans (hb0.mono hbx.size)⟩

theorem own : ownKnob Try.prog.godebug = none := by kernel_rfl
theorem laidOut : laidOutB Try.prog = true := by kernel_rfl

set_option maxRecDepth 100000 in
theorem lifted (os : Os) (started : os.Started) (H : Type) (enc : TypeId × Value → H) :
    ReturnsInHanded {} Try.checked os 7 .any (Rows.fnExactSectionOfSpec.pre6 enc Try.prog Try.f7 Rows.fnExactSectionOfRow.domain false) (Rows.fnExactSectionOfSpec.post enc Try.prog Try.f7 false true false false) := by
  refine returnsInHanded_of_change (C := Try.checked) own started (by kernel_rfl) Try.func7
    (ChangeSpec.witness6 (enc := enc) (C := Try.checked) false ⟨#[], #[.agg #[.slice none 0 0, .slice none 0 0, .slice none 0 0], .int .i64 0], []⟩ 8 (by kernel_rfl) (by kernel_rfl) (by kernel_rfl) (by kernel_rfl)) ?_
  intro W base args ds gs before hval0 hW hcnd _
  have hval : ∀ (j : Nat) t v, Try.f7.params[j]? = some t → args[j]? = some v → Value.okWide Try.prog W .any base t v := hval0
  have hW' := hW
  obtain ⟨p, q, hA0, hV, rfl, hfz, hnd⟩ := hW
  have hA : DataW.TrodAll enc Try.prog W 0 (fun _ => true) true Try.f7.params.toList args.toList ds p := hA0
  rw [Try.params7] at hA hval
  obtain ⟨v0, vs0, d0, ds0, p0, q0, hargs, rfl, rfl, h0, r0⟩ := trodAll_cons hA
  obtain ⟨v1, vs1, d1, ds1, p1, q1, rfl, rfl, rfl, h1, r1⟩ := trodAll_cons r0
  obtain ⟨rfl, rfl, rfl⟩ := trodAll_nil r1
  obtain rfl : args = #[v0, v1] := by cases args; simp_all
  obtain ⟨rfl, rfl⟩ := trodVars_none hV
  have k0 := h0
  have lt0 : ∀ x ∈ p0, x.block < W.heap.size := by obtain ⟨m, hm⟩ := k0; exact DataW.trod_lt m _ _ _ hm
  obtain ⟨x10, x20, x30, xs0, rfl, f0⟩ := rdP_of (hval 0 26 v0 rfl rfl) h0
  obtain ⟨a1, rfl, rfl, rfl, f1⟩ := open_int Try.underlying2 (hval 1 2 v1 rfl rfl) h1
  clear hA0 hval0
  refine (core _ _ _ xs0 a1 W f0 (wf_bd f1)).mono fun e W' ⟨he, bel⟩ => ?_
  subst he
  exact ⟨_, rfl, _, _, _, [], _, [], hW', trodAll_mk1 (shut_bool Try.underlying4 _), (trodAll_cons_mk (Below.trod laidOut (by kernel_rfl) (of_decide_eq_true (by kernel_rfl)) k0 bel lt0) (trodAll_cons_mk (shut_int Try.underlying2 f1) trodAll_mk0)), rfl, bel.frame _, fun h => by cases h⟩

theorem and_i {a b : Bool} (ha : a = true) (hb : b = true) : (a && b) = true := by rw [ha, hb]; rfl
set_option maxHeartbeats 8000000 in
theorem closed : joinedFacts Try.pinned.checked.prog 7 Try.f7 Rows.fnExactSectionOfSpec Rows.fnExactSectionOfRow = true := by
  unfold joinedFacts
  repeat' with_reducible apply and_i
  all_goals as_aux_lemma => kernel_rfl

theorem over : Rows.fnExactSectionOfRow.holds Try.pinned (OpenSpec.ofChange Rows.fnExactSectionOfSpec) :=
  OpenClaim.holds_of_wide 7 Try.f7 rfl rfl rfl rfl rfl rfl rfl ⟨rfl, rfl, rfl, rfl, rfl⟩ rfl rfl rfl rfl rfl (by kernel_rfl) Try.func7 closed
    (of_decide_eq_true (by kernel_rfl)) (by unfold Func.isWrapper; first | (rw [if_pos (by decide +kernel)]; kernel_rfl) | (rw [if_neg (by decide +kernel)]; exact ⟨rfl, rfl⟩))
    (fun os started H enc _ => lifted os started H enc)

/-- The given statement. -/
theorem proved : Rows.FnExactSectionOfSaid := over
#print axioms proved
end Go.Proofs.Ytjnnjnhmecidmaa.fnExactSectionOf
