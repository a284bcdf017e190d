/-
  The law FnExactDirectProduct: for every input the call returns true, and each argument reads behind the call as it read before. No condition.
-/
import Derived.Test.YthnpndheaailjaaOpen
import Derived.Test.YthnpndheaailjaaDit
import Derived.Test.YthnpndheaailjaaTwo
namespace Go.Proofs.Ythnpndheaailjaa.fnExactDirectProduct
set_option linter.unusedVariables false
set_option linter.unusedSimpArgs false
set_option maxRecDepth 100000
open Go.ChangeShapes Go.WideShapes Go.ChangeAt Go.RowKit
open Go.ChangeMaps (open_string shut_string)
set_option linter.unusedVariables false

set_option maxHeartbeats 8000000 in
set_option maxRecDepth 100000 in
theorem core (v1aA v2aA v3aA : Value) (aA : Pres) (v1aB v2aB v3aB : Value) (aB : Pres) (w : World) (haA : RdP w v1aA v2aA v3aA aA) (haB : RdP w v1aB v2aB v3aB aB) :
    Calls Try.prog 6 #[.agg #[v1aA, v2aA, v3aA], .agg #[v1aB, v2aB, v3aB]] w (RetV w (.bool true)) := by
  have HEaA := Lib.hid haA
  clear haA
  have HEaB := Lib.hid haB
  clear haB
  by_cases gaA : ((psize aA : Nat) : Int) ≤ 1048576
  case neg =>
    have SNaA := Lib.hid (szI_out gaA)
    have hbx : Below w.heap.size w ((w.alloc (Obj.cells #[v1aA, v2aA, v3aA] 38)).alloc (Obj.cells #[v1aB, v2aB, v3aB] 38)) := below_allocs2 w _ _
    have zaA : w.heap.size < (((w.alloc (Obj.cells #[v1aA, v2aA, v3aA] 38)).alloc (Obj.cells #[v1aB, v2aB, v3aB] 38))).heap.size := by simp <;> omega
    have M0aA : Hid ((((w.alloc (Obj.cells #[v1aA, v2aA, v3aA] 38)).alloc (Obj.cells #[v1aB, v2aB, v3aB] 38))).cell? ⟨w.heap.size, 0, none⟩ = some v1aA) := by show _ = _; simp [go_sem]
    have M1aA : Hid ((((w.alloc (Obj.cells #[v1aA, v2aA, v3aA] 38)).alloc (Obj.cells #[v1aB, v2aB, v3aB] 38))).cell? ⟨w.heap.size, 1, none⟩ = some v2aA) := by show _ = _; simp [go_sem]
    have M2aA : Hid ((((w.alloc (Obj.cells #[v1aA, v2aA, v3aA] 38)).alloc (Obj.cells #[v1aB, v2aB, v3aB] 38))).cell? ⟨w.heap.size, 2, none⟩ = some v3aA) := by show _ = _; simp [go_sem]
    have zaB : w.heap.size + 1 < (((w.alloc (Obj.cells #[v1aA, v2aA, v3aA] 38)).alloc (Obj.cells #[v1aB, v2aB, v3aB] 38))).heap.size := by simp <;> omega
    have M0aB : Hid ((((w.alloc (Obj.cells #[v1aA, v2aA, v3aA] 38)).alloc (Obj.cells #[v1aB, v2aB, v3aB] 38))).cell? ⟨w.heap.size + 1, 0, none⟩ = some v1aB) := by show _ = _; simp [go_sem]
    have M1aB : Hid ((((w.alloc (Obj.cells #[v1aA, v2aA, v3aA] 38)).alloc (Obj.cells #[v1aB, v2aB, v3aB] 38))).cell? ⟨w.heap.size + 1, 1, none⟩ = some v2aB) := by show _ = _; simp [go_sem]
    have M2aB : Hid ((((w.alloc (Obj.cells #[v1aA, v2aA, v3aA] 38)).alloc (Obj.cells #[v1aB, v2aB, v3aB] 38))).cell? ⟨w.heap.size + 1, 2, none⟩ = some v3aB) := by show _ = _; simp [go_sem]
    go_enter Try.func6, Try.ntmps6
    go_wp2_with fail
    generalize ((w.alloc (Obj.cells #[v1aA, v2aA, v3aA] 38)).alloc (Obj.cells #[v1aB, v2aB, v3aB] 38)) = w0 at *
    have m0aA := M0aA.out
    have m1aA := M1aA.out
    have m2aA := M2aA.out
    have m0aB := M0aB.out
    have m1aB := M1aB.out
    have m2aB := M2aB.out
    have hb0 := Below.refl w0.heap.size w0
    go_wp2_with fail
    refine (l_szPresentation _ _ _ aA _ _ ((HEaA.out.below hbx).below hb0) (by omega) (by omega)).mono ?_
    rintro e w1 ⟨rfl, hb⟩
    have hb0x := below_size hb0 hb
    clear hb0
    have hb0 := hb0x
    clear hb0x
    have s1 : w0.heap.size ≤ w1.heap.size := hb.size
    have t := (hb.cell (p := ⟨w.heap.size, 0, none⟩) (show w.heap.size < _ by omega)).trans m0aA
    clear m0aA
    have m0aA := t
    clear t
    have t := (hb.cell (p := ⟨w.heap.size, 1, none⟩) (show w.heap.size < _ by omega)).trans m1aA
    clear m1aA
    have m1aA := t
    clear t
    have t := (hb.cell (p := ⟨w.heap.size, 2, none⟩) (show w.heap.size < _ by omega)).trans m2aA
    clear m2aA
    have m2aA := t
    clear t
    have t := (hb.cell (p := ⟨w.heap.size + 1, 0, none⟩) (show w.heap.size + 1 < _ by omega)).trans m0aB
    clear m0aB
    have m0aB := t
    clear t
    have t := (hb.cell (p := ⟨w.heap.size + 1, 1, none⟩) (show w.heap.size + 1 < _ by omega)).trans m1aB
    clear m1aB
    have m1aB := t
    clear t
    have t := (hb.cell (p := ⟨w.heap.size + 1, 2, none⟩) (show w.heap.size + 1 < _ by omega)).trans m2aB
    clear m2aB
    have m2aB := t
    clear t
    clear hb
    rw [SNaA.out]
    go_wp2_with fail
    go_ret
    exact ⟨rfl, hbx.trans (hb0.mono hbx.size)⟩
  have SZaA := Lib.hid (szI_in gaA)
  have laA : psize aA ≤ 1048576 := by omega
  by_cases gaB : ((psize aB : Nat) : Int) ≤ 1048576 - ((psize aA : Nat) : Int)
  case neg =>
    have SNaB := Lib.hid (szI_out gaB)
    have hbx : Below w.heap.size w ((w.alloc (Obj.cells #[v1aA, v2aA, v3aA] 38)).alloc (Obj.cells #[v1aB, v2aB, v3aB] 38)) := below_allocs2 w _ _
    have zaA : w.heap.size < (((w.alloc (Obj.cells #[v1aA, v2aA, v3aA] 38)).alloc (Obj.cells #[v1aB, v2aB, v3aB] 38))).heap.size := by simp <;> omega
    have M0aA : Hid ((((w.alloc (Obj.cells #[v1aA, v2aA, v3aA] 38)).alloc (Obj.cells #[v1aB, v2aB, v3aB] 38))).cell? ⟨w.heap.size, 0, none⟩ = some v1aA) := by show _ = _; simp [go_sem]
    have M1aA : Hid ((((w.alloc (Obj.cells #[v1aA, v2aA, v3aA] 38)).alloc (Obj.cells #[v1aB, v2aB, v3aB] 38))).cell? ⟨w.heap.size, 1, none⟩ = some v2aA) := by show _ = _; simp [go_sem]
    have M2aA : Hid ((((w.alloc (Obj.cells #[v1aA, v2aA, v3aA] 38)).alloc (Obj.cells #[v1aB, v2aB, v3aB] 38))).cell? ⟨w.heap.size, 2, none⟩ = some v3aA) := by show _ = _; simp [go_sem]
    have zaB : w.heap.size + 1 < (((w.alloc (Obj.cells #[v1aA, v2aA, v3aA] 38)).alloc (Obj.cells #[v1aB, v2aB, v3aB] 38))).heap.size := by simp <;> omega
    have M0aB : Hid ((((w.alloc (Obj.cells #[v1aA, v2aA, v3aA] 38)).alloc (Obj.cells #[v1aB, v2aB, v3aB] 38))).cell? ⟨w.heap.size + 1, 0, none⟩ = some v1aB) := by show _ = _; simp [go_sem]
    have M1aB : Hid ((((w.alloc (Obj.cells #[v1aA, v2aA, v3aA] 38)).alloc (Obj.cells #[v1aB, v2aB, v3aB] 38))).cell? ⟨w.heap.size + 1, 1, none⟩ = some v2aB) := by show _ = _; simp [go_sem]
    have M2aB : Hid ((((w.alloc (Obj.cells #[v1aA, v2aA, v3aA] 38)).alloc (Obj.cells #[v1aB, v2aB, v3aB] 38))).cell? ⟨w.heap.size + 1, 2, none⟩ = some v3aB) := by show _ = _; simp [go_sem]
    go_enter Try.func6, Try.ntmps6
    go_wp2_with fail
    generalize ((w.alloc (Obj.cells #[v1aA, v2aA, v3aA] 38)).alloc (Obj.cells #[v1aB, v2aB, v3aB] 38)) = w0 at *
    have m0aA := M0aA.out
    have m1aA := M1aA.out
    have m2aA := M2aA.out
    have m0aB := M0aB.out
    have m1aB := M1aB.out
    have m2aB := M2aB.out
    have hb0 := Below.refl w0.heap.size w0
    go_wp2_with fail
    refine (l_szPresentation _ _ _ aA _ _ ((HEaA.out.below hbx).below hb0) (by omega) (by omega)).mono ?_
    rintro e w1 ⟨rfl, hb⟩
    have hb0x := below_size hb0 hb
    clear hb0
    have hb0 := hb0x
    clear hb0x
    have s1 : w0.heap.size ≤ w1.heap.size := hb.size
    have t := (hb.cell (p := ⟨w.heap.size, 0, none⟩) (show w.heap.size < _ by omega)).trans m0aA
    clear m0aA
    have m0aA := t
    clear t
    have t := (hb.cell (p := ⟨w.heap.size, 1, none⟩) (show w.heap.size < _ by omega)).trans m1aA
    clear m1aA
    have m1aA := t
    clear t
    have t := (hb.cell (p := ⟨w.heap.size, 2, none⟩) (show w.heap.size < _ by omega)).trans m2aA
    clear m2aA
    have m2aA := t
    clear t
    have t := (hb.cell (p := ⟨w.heap.size + 1, 0, none⟩) (show w.heap.size + 1 < _ by omega)).trans m0aB
    clear m0aB
    have m0aB := t
    clear t
    have t := (hb.cell (p := ⟨w.heap.size + 1, 1, none⟩) (show w.heap.size + 1 < _ by omega)).trans m1aB
    clear m1aB
    have m1aB := t
    clear t
    have t := (hb.cell (p := ⟨w.heap.size + 1, 2, none⟩) (show w.heap.size + 1 < _ by omega)).trans m2aB
    clear m2aB
    have m2aB := t
    clear t
    clear hb
    rw [SZaA.out]
    go_wp2_with fail
    refine (l_szPresentation _ _ _ aB _ _ ((HEaB.out.below hbx).below hb0) (by omega) (by omega)).mono ?_
    rintro e w2 ⟨rfl, hb⟩
    have hb0x := below_size hb0 hb
    clear hb0
    have hb0 := hb0x
    clear hb0x
    have s2 : w1.heap.size ≤ w2.heap.size := hb.size
    have t := (hb.cell (p := ⟨w.heap.size, 0, none⟩) (show w.heap.size < _ by omega)).trans m0aA
    clear m0aA
    have m0aA := t
    clear t
    have t := (hb.cell (p := ⟨w.heap.size, 1, none⟩) (show w.heap.size < _ by omega)).trans m1aA
    clear m1aA
    have m1aA := t
    clear t
    have t := (hb.cell (p := ⟨w.heap.size, 2, none⟩) (show w.heap.size < _ by omega)).trans m2aA
    clear m2aA
    have m2aA := t
    clear t
    have t := (hb.cell (p := ⟨w.heap.size + 1, 0, none⟩) (show w.heap.size + 1 < _ by omega)).trans m0aB
    clear m0aB
    have m0aB := t
    clear t
    have t := (hb.cell (p := ⟨w.heap.size + 1, 1, none⟩) (show w.heap.size + 1 < _ by omega)).trans m1aB
    clear m1aB
    have m1aB := t
    clear t
    have t := (hb.cell (p := ⟨w.heap.size + 1, 2, none⟩) (show w.heap.size + 1 < _ by omega)).trans m2aB
    clear m2aB
    have m2aB := t
    clear t
    clear hb
    rw [SNaB.out]
    go_wp2_with fail
    go_ret
    exact ⟨rfl, hbx.trans (hb0.mono hbx.size)⟩
  have SZaB := Lib.hid (szI_in gaB)
  have laB : psize aB ≤ 1048576 := by omega
  have hbx : Below w.heap.size w ((w.alloc (Obj.cells #[v1aA, v2aA, v3aA] 38)).alloc (Obj.cells #[v1aB, v2aB, v3aB] 38)) := below_allocs2 w _ _
  have zaA : w.heap.size < (((w.alloc (Obj.cells #[v1aA, v2aA, v3aA] 38)).alloc (Obj.cells #[v1aB, v2aB, v3aB] 38))).heap.size := by simp <;> omega
  have M0aA : Hid ((((w.alloc (Obj.cells #[v1aA, v2aA, v3aA] 38)).alloc (Obj.cells #[v1aB, v2aB, v3aB] 38))).cell? ⟨w.heap.size, 0, none⟩ = some v1aA) := by show _ = _; simp [go_sem]
  have M1aA : Hid ((((w.alloc (Obj.cells #[v1aA, v2aA, v3aA] 38)).alloc (Obj.cells #[v1aB, v2aB, v3aB] 38))).cell? ⟨w.heap.size, 1, none⟩ = some v2aA) := by show _ = _; simp [go_sem]
  have M2aA : Hid ((((w.alloc (Obj.cells #[v1aA, v2aA, v3aA] 38)).alloc (Obj.cells #[v1aB, v2aB, v3aB] 38))).cell? ⟨w.heap.size, 2, none⟩ = some v3aA) := by show _ = _; simp [go_sem]
  have zaB : w.heap.size + 1 < (((w.alloc (Obj.cells #[v1aA, v2aA, v3aA] 38)).alloc (Obj.cells #[v1aB, v2aB, v3aB] 38))).heap.size := by simp <;> omega
  have M0aB : Hid ((((w.alloc (Obj.cells #[v1aA, v2aA, v3aA] 38)).alloc (Obj.cells #[v1aB, v2aB, v3aB] 38))).cell? ⟨w.heap.size + 1, 0, none⟩ = some v1aB) := by show _ = _; simp [go_sem]
  have M1aB : Hid ((((w.alloc (Obj.cells #[v1aA, v2aA, v3aA] 38)).alloc (Obj.cells #[v1aB, v2aB, v3aB] 38))).cell? ⟨w.heap.size + 1, 1, none⟩ = some v2aB) := by show _ = _; simp [go_sem]
  have M2aB : Hid ((((w.alloc (Obj.cells #[v1aA, v2aA, v3aA] 38)).alloc (Obj.cells #[v1aB, v2aB, v3aB] 38))).cell? ⟨w.heap.size + 1, 2, none⟩ = some v3aB) := by show _ = _; simp [go_sem]
  go_enter Try.func6, Try.ntmps6
  go_wp2_with fail
  generalize ((w.alloc (Obj.cells #[v1aA, v2aA, v3aA] 38)).alloc (Obj.cells #[v1aB, v2aB, v3aB] 38)) = w0 at *
  have m0aA := M0aA.out
  have m1aA := M1aA.out
  have m2aA := M2aA.out
  have m0aB := M0aB.out
  have m1aB := M1aB.out
  have m2aB := M2aB.out
  have hb0 := Below.refl w0.heap.size w0
  go_wp2_with fail
  refine (l_szPresentation _ _ _ aA _ _ ((HEaA.out.below hbx).below hb0) (by omega) (by omega)).mono ?_
  rintro e w1 ⟨rfl, hb⟩
  have hb0x := below_size hb0 hb
  clear hb0
  have hb0 := hb0x
  clear hb0x
  have s1 : w0.heap.size ≤ w1.heap.size := hb.size
  have t := (hb.cell (p := ⟨w.heap.size, 0, none⟩) (show w.heap.size < _ by omega)).trans m0aA
  clear m0aA
  have m0aA := t
  clear t
  have t := (hb.cell (p := ⟨w.heap.size, 1, none⟩) (show w.heap.size < _ by omega)).trans m1aA
  clear m1aA
  have m1aA := t
  clear t
  have t := (hb.cell (p := ⟨w.heap.size, 2, none⟩) (show w.heap.size < _ by omega)).trans m2aA
  clear m2aA
  have m2aA := t
  clear t
  have t := (hb.cell (p := ⟨w.heap.size + 1, 0, none⟩) (show w.heap.size + 1 < _ by omega)).trans m0aB
  clear m0aB
  have m0aB := t
  clear t
  have t := (hb.cell (p := ⟨w.heap.size + 1, 1, none⟩) (show w.heap.size + 1 < _ by omega)).trans m1aB
  clear m1aB
  have m1aB := t
  clear t
  have t := (hb.cell (p := ⟨w.heap.size + 1, 2, none⟩) (show w.heap.size + 1 < _ by omega)).trans m2aB
  clear m2aB
  have m2aB := t
  clear t
  clear hb
  rw [SZaA.out]
  go_wp2_with fail
  refine (l_szPresentation _ _ _ aB _ _ ((HEaB.out.below hbx).below hb0) (by omega) (by omega)).mono ?_
  rintro e w2 ⟨rfl, hb⟩
  have hb0x := below_size hb0 hb
  clear hb0
  have hb0 := hb0x
  clear hb0x
  have s2 : w1.heap.size ≤ w2.heap.size := hb.size
  have t := (hb.cell (p := ⟨w.heap.size, 0, none⟩) (show w.heap.size < _ by omega)).trans m0aA
  clear m0aA
  have m0aA := t
  clear t
  have t := (hb.cell (p := ⟨w.heap.size, 1, none⟩) (show w.heap.size < _ by omega)).trans m1aA
  clear m1aA
  have m1aA := t
  clear t
  have t := (hb.cell (p := ⟨w.heap.size, 2, none⟩) (show w.heap.size < _ by omega)).trans m2aA
  clear m2aA
  have m2aA := t
  clear t
  have t := (hb.cell (p := ⟨w.heap.size + 1, 0, none⟩) (show w.heap.size + 1 < _ by omega)).trans m0aB
  clear m0aB
  have m0aB := t
  clear t
  have t := (hb.cell (p := ⟨w.heap.size + 1, 1, none⟩) (show w.heap.size + 1 < _ by omega)).trans m1aB
  clear m1aB
  have m1aB := t
  clear t
  have t := (hb.cell (p := ⟨w.heap.size + 1, 2, none⟩) (show w.heap.size + 1 < _ by omega)).trans m2aB
  clear m2aB
  have m2aB := t
  clear t
  clear hb
  rw [SZaB.out]
  go_upto_region 8 with (fail)
  have HRaA := Lib.hid ((HEaA.out.below hbx).below hb0)
  have HRaB := Lib.hid ((HEaB.out.below hbx).below hb0)
  have lt0 : w.heap.size < w2.heap.size := by omega
  have lt3 : w.heap.size + 1 < w2.heap.size := by omega
  have KEEP : Hid (∀ wx, Below w2.heap.size w2 wx → Below w2.heap.size w2 wx ∧ wx.cell? ⟨w.heap.size, 0, none⟩ = some (v1aA) ∧ wx.cell? ⟨w.heap.size, 1, none⟩ = some (v2aA) ∧ wx.cell? ⟨w.heap.size, 2, none⟩ = some (v3aA) ∧ wx.cell? ⟨w.heap.size + 1, 0, none⟩ = some (v1aB) ∧ wx.cell? ⟨w.heap.size + 1, 1, none⟩ = some (v2aB) ∧ wx.cell? ⟨w.heap.size + 1, 2, none⟩ = some (v3aB)) := fun wx hb => ⟨hb, ((hb).cell (p := ⟨w.heap.size, 0, none⟩) (by omega)).trans m0aA, ((hb).cell (p := ⟨w.heap.size, 1, none⟩) (by omega)).trans m1aA, ((hb).cell (p := ⟨w.heap.size, 2, none⟩) (by omega)).trans m2aA, ((hb).cell (p := ⟨w.heap.size + 1, 0, none⟩) (by omega)).trans m0aB, ((hb).cell (p := ⟨w.heap.size + 1, 1, none⟩) (by omega)).trans m1aB, ((hb).cell (p := ⟨w.heap.size + 1, 2, none⟩) (by omega)).trans m2aB⟩
  go_cut [6, 7] (fun v c wx => ∃ b, v = .pointer (some ⟨b, 0, none⟩) ∧ c = .int .i64 (dirC aA aB) ∧ PBox w2 wx b (dirX aA aB))
  case first =>
    have HWd : Hid (Below w2.heap.size w2 w2.drew) := (Below.refl _ _).drew
    have HWa : Hid (Below w2.heap.size w2 (w2.alloc (Obj.cells #[Value.slice none 0 0, Value.slice none 0 0, Value.slice none 0 0] 32)).drew) := (below_alloc w2 _).drew
    have HXa : Hid (Bx (w2.alloc (Obj.cells #[Value.slice none 0 0, Value.slice none 0 0, Value.slice none 0 0] 32)).drew w2.heap.size (.slice none 0 0) (.slice none 0 0) (.slice none 0 0)) := (Bx.new w2 _ _ _).drew
    go_region_held3 (fun wx => Below w2.heap.size w2 wx ∧ wx.cell? ⟨w.heap.size, 0, none⟩ = some (v1aA) ∧ wx.cell? ⟨w.heap.size, 1, none⟩ = some (v2aA) ∧ wx.cell? ⟨w.heap.size, 2, none⟩ = some (v3aA) ∧ wx.cell? ⟨w.heap.size + 1, 0, none⟩ = some (v1aB) ∧ wx.cell? ⟨w.heap.size + 1, 1, none⟩ = some (v2aB) ∧ wx.cell? ⟨w.heap.size + 1, 2, none⟩ = some (v3aB))
      (first | exact KEEP.out _ HWd.out | exact KEEP.out _ HWa.out | exact KEEP.out _ (set3 hWc (by omega) _ _ _) | exact KEEP.out _ hWc | exact KEEP.out _ (ballocT hWc _) | exact KEEP.out _ hWb | exact KEEP.out _ (ballocT hWb _) | exact KEEP.out _ hWya | exact KEEP.out _ (ballocT hWya _))
      (first
        | ((go_at_call 27); (with_reducible refine (l_toPresentation _ _ _ aA w2.drew (HRaA.out.below HWd.out) (by omega)).mono ?_); (rintro e wya ⟨ya1, ya2, ya3, rfl, hya, hba⟩); (have hWya := below_size HWd.out hba); (have hsa := hWya.size))
        | ((go_at_call 27); (with_reducible refine (l_toPresentation _ _ _ aA (w2.alloc (Obj.cells #[Value.slice none 0 0, Value.slice none 0 0, Value.slice none 0 0] 32)).drew (HRaA.out.below HWa.out) (by omega)).mono ?_); (rintro e wya ⟨ya1, ya2, ya3, rfl, hya, hba⟩); (have hWya := below_size HWa.out hba); (have hsa := hWya.size); (have XA := HXa.out.below hba HXa.out.lt))
        | ((go_at_call 27); (with_reducible refine (l_toPresentation _ _ _ aB wya (HRaB.out.below hWya) (by omega)).mono ?_); (rintro e wyb ⟨yb1, yb2, yb3, rfl, hyb, hbb⟩); (have hWb := below_size hWya hbb); (have hsb := hbb.size); (have hya2 := OP.below hya hbb); (have XB := XA.below hbb XA.lt); (have hlb := XA.lt))
        | ((go_at_call 27); (with_reducible refine (l_toPresentation _ _ _ aB wya (HRaB.out.below hWya) (by omega)).mono ?_); (rintro e wyb ⟨yb1, yb2, yb3, rfl, hyb, hbb⟩); (have hWb := below_size hWya hbb); (have hsb := hbb.size); (have hya2 := OP.below hya hbb))
        | ((go_at_call 27); (with_reducible refine (l_toPresentation _ _ _ aB (wya.alloc (Obj.cells #[Value.slice none 0 0, Value.slice none 0 0, Value.slice none 0 0] 32)) (HRaB.out.below (ballocT hWya _)) (by omega)).mono ?_); (rintro e wyb ⟨yb1, yb2, yb3, rfl, hyb, hbb⟩); (have hWb := below_size (ballocT hWya _) hbb); (have hsb := hbb.size); (have hya2 := OP.below (OP.below hya (below_alloc wya _)) hbb); (have XB := (Bx.new wya (.slice none 0 0) (.slice none 0 0) (.slice none 0 0)).below hbb (Bx.new wya _ _ _).lt); (have hlb : wya.heap.size ≤ wya.heap.size := Nat.le_refl _))
        | ((go_at_call 32); (with_reducible refine (s_DirectProduct _ _ _ _ _ _ _ _ wyb hya2.rd hyb.rd).mono ?_); (rintro e wC ⟨v1r, v2r, v3r, rfl, hres, hbc⟩); (obtain ⟨f1, f2, f3, f4, f5, f6, f7, f8, f9, rfl, rfl, rfl⟩ := hres.formsE); (have hWc := below_size hWb hbc); (have XC := XB.below hbc XB.lt); (have p0 := XC.c0); (have p1 := XC.c1); (have p2 := XC.c2); (have q0 := XC.fr 0); (have q1 := XC.fr 1); (have q2 := XC.fr 2); (have hlc := XB.lt))
        | ((go_at_call 32); (with_reducible refine (s_DirectProduct _ _ _ _ _ _ _ _ wyb hya2.rd hyb.rd).mono ?_); (rintro e wC ⟨v1r, v2r, v3r, rfl, hres, hbc⟩); (obtain ⟨f1, f2, f3, f4, f5, f6, f7, f8, f9, rfl, rfl, rfl⟩ := hres.formsE); (have hWc := below_size hWb hbc))
        | ((go_at_call 32); (with_reducible refine (s_DirectProduct _ _ _ _ _ _ _ _ (wyb.alloc (Obj.cells #[Value.slice none 0 0, Value.slice none 0 0, Value.slice none 0 0] 32)) (hya2.rd.below (below_alloc wyb _)) (hyb.rd.below (below_alloc wyb _))).mono ?_); (rintro e wC ⟨v1r, v2r, v3r, rfl, hres, hbc⟩); (obtain ⟨f1, f2, f3, f4, f5, f6, f7, f8, f9, rfl, rfl, rfl⟩ := hres.formsE); (have hWc := below_size (ballocT hWb _) hbc); (have XC := (Bx.new wyb (.slice none 0 0) (.slice none 0 0) (.slice none 0 0)).below hbc (Bx.new wyb _ _ _).lt); (have p0 := XC.c0); (have p1 := XC.c1); (have p2 := XC.c2); (have q0 := XC.fr 0); (have q1 := XC.fr 1); (have q2 := XC.fr 2); (have hlc : wyb.heap.size ≤ wyb.heap.size := Nat.le_refl _)))
    all_goals (go_wp2_with fail; go_meet; have hsB := hWb.size; first | exact ⟨_, rfl, rfl, pbox1 XC hres (fun k hk => by have h1 := hk.1; (try simp at h1); (try simp at hsb); exact ⟨by omega, by omega⟩) hWc (by (try simp at hsb); omega)⟩ | exact ⟨_, rfl, rfl, pbox2 hres (fun k hk => by have h1 := hk.1; omega) hWc⟩)
  obtain ⟨bw0, rfl, rfl, v1w0, v2w0, v3w0, hXw0, hOw0, hlow0, hb⟩ := hcut
  obtain ⟨w3, hw3⟩ : ∃ x, x = wc := ⟨_, rfl⟩
  subst hw3
  have hw0 := OP.sub hOw0 (S' := win w2.heap.size w3.heap.size) (fun k hk hh => ⟨hh.1, hk⟩)
  have zw0 : bw0 < w3.heap.size := hXw0.lt
  obtain ⟨a1w0, n1w0, q1w0, a2w0, n2w0, q2w0, a3w0, n3w0, q3w0, rfl, rfl, rfl⟩ := hw0.formsE
  have m0w0 := hXw0.c0
  have m1w0 := hXw0.c1
  have m2w0 := hXw0.c2
  clear KEEP hOw0 hXw0 HRaA HRaB
  have hb0x := below_size hb0 hb
  clear hb0
  have hb0 := hb0x
  clear hb0x
  have s3 : w2.heap.size ≤ w3.heap.size := hb.size
  have t := (hb.cell (p := ⟨w.heap.size, 0, none⟩) (show w.heap.size < _ by omega)).trans m0aA
  clear m0aA
  have m0aA := t
  clear t
  have t := (hb.cell (p := ⟨w.heap.size, 1, none⟩) (show w.heap.size < _ by omega)).trans m1aA
  clear m1aA
  have m1aA := t
  clear t
  have t := (hb.cell (p := ⟨w.heap.size, 2, none⟩) (show w.heap.size < _ by omega)).trans m2aA
  clear m2aA
  have m2aA := t
  clear t
  have t := (hb.cell (p := ⟨w.heap.size + 1, 0, none⟩) (show w.heap.size + 1 < _ by omega)).trans m0aB
  clear m0aB
  have m0aB := t
  clear t
  have t := (hb.cell (p := ⟨w.heap.size + 1, 1, none⟩) (show w.heap.size + 1 < _ by omega)).trans m1aB
  clear m1aB
  have m1aB := t
  clear t
  have t := (hb.cell (p := ⟨w.heap.size + 1, 2, none⟩) (show w.heap.size + 1 < _ by omega)).trans m2aB
  clear m2aB
  have m2aB := t
  clear t
  clear hb
  go_wp2_with fail
  refine (l_toPresentation _ _ _ aA _ ((HEaA.out.below hbx).below hb0) (by omega)).mono ?_
  rintro e w4 ⟨v1c1, v2c1, v3c1, rfl, hc1, hb⟩
  have hb0x := below_size hb0 hb
  clear hb0
  have hb0 := hb0x
  clear hb0x
  have s4 : w3.heap.size ≤ w4.heap.size := hb.size
  have t := (hb.cell (p := ⟨w.heap.size, 0, none⟩) (show w.heap.size < _ by omega)).trans m0aA
  clear m0aA
  have m0aA := t
  clear t
  have t := (hb.cell (p := ⟨w.heap.size, 1, none⟩) (show w.heap.size < _ by omega)).trans m1aA
  clear m1aA
  have m1aA := t
  clear t
  have t := (hb.cell (p := ⟨w.heap.size, 2, none⟩) (show w.heap.size < _ by omega)).trans m2aA
  clear m2aA
  have m2aA := t
  clear t
  have t := (hb.cell (p := ⟨w.heap.size + 1, 0, none⟩) (show w.heap.size + 1 < _ by omega)).trans m0aB
  clear m0aB
  have m0aB := t
  clear t
  have t := (hb.cell (p := ⟨w.heap.size + 1, 1, none⟩) (show w.heap.size + 1 < _ by omega)).trans m1aB
  clear m1aB
  have m1aB := t
  clear t
  have t := (hb.cell (p := ⟨w.heap.size + 1, 2, none⟩) (show w.heap.size + 1 < _ by omega)).trans m2aB
  clear m2aB
  have m2aB := t
  clear t
  have t := (hb.cell (p := ⟨bw0, 0, none⟩) (show bw0 < _ by omega)).trans m0w0
  clear m0w0
  have m0w0 := t
  clear t
  have t := (hb.cell (p := ⟨bw0, 1, none⟩) (show bw0 < _ by omega)).trans m1w0
  clear m1w0
  have m1w0 := t
  clear t
  have t := (hb.cell (p := ⟨bw0, 2, none⟩) (show bw0 < _ by omega)).trans m2w0
  clear m2w0
  have m2w0 := t
  clear t
  have t := OP.below hw0 hb
  clear hw0
  have hw0 := t
  clear t
  clear hb
  obtain ⟨a1c1, n1c1, q1c1, a2c1, n2c1, q2c1, a3c1, n3c1, q3c1, rfl, rfl, rfl⟩ := hc1.formsE
  have llc1 : psize aA ≤ 1000000000 := by omega
  have yaA : w.heap.size < w4.heap.size := by omega
  have yaB : w.heap.size + 1 < w4.heap.size := by omega
  have yw0 : bw0 < w4.heap.size := by omega
  go_wp2_with fail
  clear yaA yaB yw0
  have hb := below_alloc w4 (Obj.cells #[Value.slice a1c1 n1c1 q1c1, Value.slice a2c1 n2c1 q2c1, Value.slice a3c1 n3c1 q3c1] 32)
  have zc1 : w4.heap.size < (w4.alloc (Obj.cells #[Value.slice a1c1 n1c1 q1c1, Value.slice a2c1 n2c1 q2c1, Value.slice a3c1 n3c1 q3c1] 32)).heap.size := by simp
  have M0c1 : Hid ((w4.alloc (Obj.cells #[Value.slice a1c1 n1c1 q1c1, Value.slice a2c1 n2c1 q2c1, Value.slice a3c1 n3c1 q3c1] 32)).cell? ⟨w4.heap.size, 0, none⟩ = some (Value.slice a1c1 n1c1 q1c1)) := by show _ = _; simp [go_sem]
  have M1c1 : Hid ((w4.alloc (Obj.cells #[Value.slice a1c1 n1c1 q1c1, Value.slice a2c1 n2c1 q2c1, Value.slice a3c1 n3c1 q3c1] 32)).cell? ⟨w4.heap.size, 1, none⟩ = some (Value.slice a2c1 n2c1 q2c1)) := by show _ = _; simp [go_sem]
  have M2c1 : Hid ((w4.alloc (Obj.cells #[Value.slice a1c1 n1c1 q1c1, Value.slice a2c1 n2c1 q2c1, Value.slice a3c1 n3c1 q3c1] 32)).cell? ⟨w4.heap.size, 2, none⟩ = some (Value.slice a3c1 n3c1 q3c1)) := by show _ = _; simp [go_sem]
  generalize (w4.alloc (Obj.cells #[Value.slice a1c1 n1c1 q1c1, Value.slice a2c1 n2c1 q2c1, Value.slice a3c1 n3c1 q3c1] 32)) = w5 at *
  have hb0x := below_size hb0 hb
  clear hb0
  have hb0 := hb0x
  clear hb0x
  have s5 : w4.heap.size ≤ w5.heap.size := hb.size
  have t := (hb.cell (p := ⟨w.heap.size, 0, none⟩) (show w.heap.size < _ by omega)).trans m0aA
  clear m0aA
  have m0aA := t
  clear t
  have t := (hb.cell (p := ⟨w.heap.size, 1, none⟩) (show w.heap.size < _ by omega)).trans m1aA
  clear m1aA
  have m1aA := t
  clear t
  have t := (hb.cell (p := ⟨w.heap.size, 2, none⟩) (show w.heap.size < _ by omega)).trans m2aA
  clear m2aA
  have m2aA := t
  clear t
  have t := (hb.cell (p := ⟨w.heap.size + 1, 0, none⟩) (show w.heap.size + 1 < _ by omega)).trans m0aB
  clear m0aB
  have m0aB := t
  clear t
  have t := (hb.cell (p := ⟨w.heap.size + 1, 1, none⟩) (show w.heap.size + 1 < _ by omega)).trans m1aB
  clear m1aB
  have m1aB := t
  clear t
  have t := (hb.cell (p := ⟨w.heap.size + 1, 2, none⟩) (show w.heap.size + 1 < _ by omega)).trans m2aB
  clear m2aB
  have m2aB := t
  clear t
  have t := (hb.cell (p := ⟨bw0, 0, none⟩) (show bw0 < _ by omega)).trans m0w0
  clear m0w0
  have m0w0 := t
  clear t
  have t := (hb.cell (p := ⟨bw0, 1, none⟩) (show bw0 < _ by omega)).trans m1w0
  clear m1w0
  have m1w0 := t
  clear t
  have t := (hb.cell (p := ⟨bw0, 2, none⟩) (show bw0 < _ by omega)).trans m2w0
  clear m2w0
  have m2w0 := t
  clear t
  have t := OP.below hw0 hb
  clear hw0
  have hw0 := t
  clear t
  have t := OP.below hc1 hb
  clear hc1
  have hc1 := t
  clear t
  clear hb
  have m0c1 := M0c1.out
  have m1c1 := M1c1.out
  have m2c1 := M2c1.out
  refine (l_toPresentation _ _ _ aB _ ((HEaB.out.below hbx).below hb0) (by omega)).mono ?_
  rintro e w6 ⟨v1c2, v2c2, v3c2, rfl, hc2, hb⟩
  have hb0x := below_size hb0 hb
  clear hb0
  have hb0 := hb0x
  clear hb0x
  have s6 : w5.heap.size ≤ w6.heap.size := hb.size
  have t := (hb.cell (p := ⟨w.heap.size, 0, none⟩) (show w.heap.size < _ by omega)).trans m0aA
  clear m0aA
  have m0aA := t
  clear t
  have t := (hb.cell (p := ⟨w.heap.size, 1, none⟩) (show w.heap.size < _ by omega)).trans m1aA
  clear m1aA
  have m1aA := t
  clear t
  have t := (hb.cell (p := ⟨w.heap.size, 2, none⟩) (show w.heap.size < _ by omega)).trans m2aA
  clear m2aA
  have m2aA := t
  clear t
  have t := (hb.cell (p := ⟨w.heap.size + 1, 0, none⟩) (show w.heap.size + 1 < _ by omega)).trans m0aB
  clear m0aB
  have m0aB := t
  clear t
  have t := (hb.cell (p := ⟨w.heap.size + 1, 1, none⟩) (show w.heap.size + 1 < _ by omega)).trans m1aB
  clear m1aB
  have m1aB := t
  clear t
  have t := (hb.cell (p := ⟨w.heap.size + 1, 2, none⟩) (show w.heap.size + 1 < _ by omega)).trans m2aB
  clear m2aB
  have m2aB := t
  clear t
  have t := (hb.cell (p := ⟨bw0, 0, none⟩) (show bw0 < _ by omega)).trans m0w0
  clear m0w0
  have m0w0 := t
  clear t
  have t := (hb.cell (p := ⟨bw0, 1, none⟩) (show bw0 < _ by omega)).trans m1w0
  clear m1w0
  have m1w0 := t
  clear t
  have t := (hb.cell (p := ⟨bw0, 2, none⟩) (show bw0 < _ by omega)).trans m2w0
  clear m2w0
  have m2w0 := t
  clear t
  have t := (hb.cell (p := ⟨w4.heap.size, 0, none⟩) (show w4.heap.size < _ by omega)).trans m0c1
  clear m0c1
  have m0c1 := t
  clear t
  have t := (hb.cell (p := ⟨w4.heap.size, 1, none⟩) (show w4.heap.size < _ by omega)).trans m1c1
  clear m1c1
  have m1c1 := t
  clear t
  have t := (hb.cell (p := ⟨w4.heap.size, 2, none⟩) (show w4.heap.size < _ by omega)).trans m2c1
  clear m2c1
  have m2c1 := t
  clear t
  have t := OP.below hw0 hb
  clear hw0
  have hw0 := t
  clear t
  have t := OP.below hc1 hb
  clear hc1
  have hc1 := t
  clear t
  clear hb
  obtain ⟨a1c2, n1c2, q1c2, a2c2, n2c2, q2c2, a3c2, n3c2, q3c2, rfl, rfl, rfl⟩ := hc2.formsE
  have llc2 : psize aB ≤ 1000000000 := by omega
  have yaA : w.heap.size < w6.heap.size := by omega
  have yaB : w.heap.size + 1 < w6.heap.size := by omega
  have yw0 : bw0 < w6.heap.size := by omega
  have yc1 : w4.heap.size < w6.heap.size := by omega
  go_wp2_with fail
  clear yaA yaB yw0 yc1
  have hb := below_alloc w6 (Obj.cells #[Value.slice a1c2 n1c2 q1c2, Value.slice a2c2 n2c2 q2c2, Value.slice a3c2 n3c2 q3c2] 32)
  have zc2 : w6.heap.size < (w6.alloc (Obj.cells #[Value.slice a1c2 n1c2 q1c2, Value.slice a2c2 n2c2 q2c2, Value.slice a3c2 n3c2 q3c2] 32)).heap.size := by simp
  have M0c2 : Hid ((w6.alloc (Obj.cells #[Value.slice a1c2 n1c2 q1c2, Value.slice a2c2 n2c2 q2c2, Value.slice a3c2 n3c2 q3c2] 32)).cell? ⟨w6.heap.size, 0, none⟩ = some (Value.slice a1c2 n1c2 q1c2)) := by show _ = _; simp [go_sem]
  have M1c2 : Hid ((w6.alloc (Obj.cells #[Value.slice a1c2 n1c2 q1c2, Value.slice a2c2 n2c2 q2c2, Value.slice a3c2 n3c2 q3c2] 32)).cell? ⟨w6.heap.size, 1, none⟩ = some (Value.slice a2c2 n2c2 q2c2)) := by show _ = _; simp [go_sem]
  have M2c2 : Hid ((w6.alloc (Obj.cells #[Value.slice a1c2 n1c2 q1c2, Value.slice a2c2 n2c2 q2c2, Value.slice a3c2 n3c2 q3c2] 32)).cell? ⟨w6.heap.size, 2, none⟩ = some (Value.slice a3c2 n3c2 q3c2)) := by show _ = _; simp [go_sem]
  generalize (w6.alloc (Obj.cells #[Value.slice a1c2 n1c2 q1c2, Value.slice a2c2 n2c2 q2c2, Value.slice a3c2 n3c2 q3c2] 32)) = w7 at *
  have hb0x := below_size hb0 hb
  clear hb0
  have hb0 := hb0x
  clear hb0x
  have s7 : w6.heap.size ≤ w7.heap.size := hb.size
  have t := (hb.cell (p := ⟨w.heap.size, 0, none⟩) (show w.heap.size < _ by omega)).trans m0aA
  clear m0aA
  have m0aA := t
  clear t
  have t := (hb.cell (p := ⟨w.heap.size, 1, none⟩) (show w.heap.size < _ by omega)).trans m1aA
  clear m1aA
  have m1aA := t
  clear t
  have t := (hb.cell (p := ⟨w.heap.size, 2, none⟩) (show w.heap.size < _ by omega)).trans m2aA
  clear m2aA
  have m2aA := t
  clear t
  have t := (hb.cell (p := ⟨w.heap.size + 1, 0, none⟩) (show w.heap.size + 1 < _ by omega)).trans m0aB
  clear m0aB
  have m0aB := t
  clear t
  have t := (hb.cell (p := ⟨w.heap.size + 1, 1, none⟩) (show w.heap.size + 1 < _ by omega)).trans m1aB
  clear m1aB
  have m1aB := t
  clear t
  have t := (hb.cell (p := ⟨w.heap.size + 1, 2, none⟩) (show w.heap.size + 1 < _ by omega)).trans m2aB
  clear m2aB
  have m2aB := t
  clear t
  have t := (hb.cell (p := ⟨bw0, 0, none⟩) (show bw0 < _ by omega)).trans m0w0
  clear m0w0
  have m0w0 := t
  clear t
  have t := (hb.cell (p := ⟨bw0, 1, none⟩) (show bw0 < _ by omega)).trans m1w0
  clear m1w0
  have m1w0 := t
  clear t
  have t := (hb.cell (p := ⟨bw0, 2, none⟩) (show bw0 < _ by omega)).trans m2w0
  clear m2w0
  have m2w0 := t
  clear t
  have t := (hb.cell (p := ⟨w4.heap.size, 0, none⟩) (show w4.heap.size < _ by omega)).trans m0c1
  clear m0c1
  have m0c1 := t
  clear t
  have t := (hb.cell (p := ⟨w4.heap.size, 1, none⟩) (show w4.heap.size < _ by omega)).trans m1c1
  clear m1c1
  have m1c1 := t
  clear t
  have t := (hb.cell (p := ⟨w4.heap.size, 2, none⟩) (show w4.heap.size < _ by omega)).trans m2c1
  clear m2c1
  have m2c1 := t
  clear t
  have t := OP.below hw0 hb
  clear hw0
  have hw0 := t
  clear t
  have t := OP.below hc1 hb
  clear hc1
  have hc1 := t
  clear t
  have t := OP.below hc2 hb
  clear hc2
  have hc2 := t
  clear t
  clear hb
  have m0c2 := M0c2.out
  have m1c2 := M1c2.out
  have m2c2 := M2c2.out
  refine (i_DirectProduct _ _ _ _ _ _ _ _ _ hc1.rd hc2.rd).mono ?_
  rintro e w8 ⟨v1g0, v2g0, v3g0, rfl, hg0, hb⟩
  have hb0x := below_size hb0 hb
  clear hb0
  have hb0 := hb0x
  clear hb0x
  have s8 : w7.heap.size ≤ w8.heap.size := hb.size
  have t := (hb.cell (p := ⟨w.heap.size, 0, none⟩) (show w.heap.size < _ by omega)).trans m0aA
  clear m0aA
  have m0aA := t
  clear t
  have t := (hb.cell (p := ⟨w.heap.size, 1, none⟩) (show w.heap.size < _ by omega)).trans m1aA
  clear m1aA
  have m1aA := t
  clear t
  have t := (hb.cell (p := ⟨w.heap.size, 2, none⟩) (show w.heap.size < _ by omega)).trans m2aA
  clear m2aA
  have m2aA := t
  clear t
  have t := (hb.cell (p := ⟨w.heap.size + 1, 0, none⟩) (show w.heap.size + 1 < _ by omega)).trans m0aB
  clear m0aB
  have m0aB := t
  clear t
  have t := (hb.cell (p := ⟨w.heap.size + 1, 1, none⟩) (show w.heap.size + 1 < _ by omega)).trans m1aB
  clear m1aB
  have m1aB := t
  clear t
  have t := (hb.cell (p := ⟨w.heap.size + 1, 2, none⟩) (show w.heap.size + 1 < _ by omega)).trans m2aB
  clear m2aB
  have m2aB := t
  clear t
  have t := (hb.cell (p := ⟨bw0, 0, none⟩) (show bw0 < _ by omega)).trans m0w0
  clear m0w0
  have m0w0 := t
  clear t
  have t := (hb.cell (p := ⟨bw0, 1, none⟩) (show bw0 < _ by omega)).trans m1w0
  clear m1w0
  have m1w0 := t
  clear t
  have t := (hb.cell (p := ⟨bw0, 2, none⟩) (show bw0 < _ by omega)).trans m2w0
  clear m2w0
  have m2w0 := t
  clear t
  have t := (hb.cell (p := ⟨w4.heap.size, 0, none⟩) (show w4.heap.size < _ by omega)).trans m0c1
  clear m0c1
  have m0c1 := t
  clear t
  have t := (hb.cell (p := ⟨w4.heap.size, 1, none⟩) (show w4.heap.size < _ by omega)).trans m1c1
  clear m1c1
  have m1c1 := t
  clear t
  have t := (hb.cell (p := ⟨w4.heap.size, 2, none⟩) (show w4.heap.size < _ by omega)).trans m2c1
  clear m2c1
  have m2c1 := t
  clear t
  have t := (hb.cell (p := ⟨w6.heap.size, 0, none⟩) (show w6.heap.size < _ by omega)).trans m0c2
  clear m0c2
  have m0c2 := t
  clear t
  have t := (hb.cell (p := ⟨w6.heap.size, 1, none⟩) (show w6.heap.size < _ by omega)).trans m1c2
  clear m1c2
  have m1c2 := t
  clear t
  have t := (hb.cell (p := ⟨w6.heap.size, 2, none⟩) (show w6.heap.size < _ by omega)).trans m2c2
  clear m2c2
  have m2c2 := t
  clear t
  have t := OP.below hw0 hb
  clear hw0
  have hw0 := t
  clear t
  have t := OP.below hc1 hb
  clear hc1
  have hc1 := t
  clear t
  have t := OP.below hc2 hb
  clear hc2
  have hc2 := t
  clear t
  clear hb
  have llg0 : _ ≤ 1000000000 := len_DirectProduct aA aB
  obtain ⟨a1g0, n1g0, q1g0, a2g0, n2g0, q2g0, a3g0, n3g0, q3g0, rfl, rfl, rfl⟩ := hg0.formsE
  have yaA : w.heap.size < w8.heap.size := by omega
  have yaB : w.heap.size + 1 < w8.heap.size := by omega
  have yw0 : bw0 < w8.heap.size := by omega
  have yc1 : w4.heap.size < w8.heap.size := by omega
  have yc2 : w6.heap.size < w8.heap.size := by omega
  go_wp2_with fail
  clear yaA yaB yw0 yc1 yc2
  have hb := below_alloc w8 (Obj.cells #[Value.slice a1g0 n1g0 q1g0, Value.slice a2g0 n2g0 q2g0, Value.slice a3g0 n3g0 q3g0] 32)
  have zg0 : w8.heap.size < (w8.alloc (Obj.cells #[Value.slice a1g0 n1g0 q1g0, Value.slice a2g0 n2g0 q2g0, Value.slice a3g0 n3g0 q3g0] 32)).heap.size := by simp
  have M0g0 : Hid ((w8.alloc (Obj.cells #[Value.slice a1g0 n1g0 q1g0, Value.slice a2g0 n2g0 q2g0, Value.slice a3g0 n3g0 q3g0] 32)).cell? ⟨w8.heap.size, 0, none⟩ = some (Value.slice a1g0 n1g0 q1g0)) := by show _ = _; simp [go_sem]
  have M1g0 : Hid ((w8.alloc (Obj.cells #[Value.slice a1g0 n1g0 q1g0, Value.slice a2g0 n2g0 q2g0, Value.slice a3g0 n3g0 q3g0] 32)).cell? ⟨w8.heap.size, 1, none⟩ = some (Value.slice a2g0 n2g0 q2g0)) := by show _ = _; simp [go_sem]
  have M2g0 : Hid ((w8.alloc (Obj.cells #[Value.slice a1g0 n1g0 q1g0, Value.slice a2g0 n2g0 q2g0, Value.slice a3g0 n3g0 q3g0] 32)).cell? ⟨w8.heap.size, 2, none⟩ = some (Value.slice a3g0 n3g0 q3g0)) := by show _ = _; simp [go_sem]
  generalize (w8.alloc (Obj.cells #[Value.slice a1g0 n1g0 q1g0, Value.slice a2g0 n2g0 q2g0, Value.slice a3g0 n3g0 q3g0] 32)) = w9 at *
  have hb0x := below_size hb0 hb
  clear hb0
  have hb0 := hb0x
  clear hb0x
  have s9 : w8.heap.size ≤ w9.heap.size := hb.size
  have t := (hb.cell (p := ⟨w.heap.size, 0, none⟩) (show w.heap.size < _ by omega)).trans m0aA
  clear m0aA
  have m0aA := t
  clear t
  have t := (hb.cell (p := ⟨w.heap.size, 1, none⟩) (show w.heap.size < _ by omega)).trans m1aA
  clear m1aA
  have m1aA := t
  clear t
  have t := (hb.cell (p := ⟨w.heap.size, 2, none⟩) (show w.heap.size < _ by omega)).trans m2aA
  clear m2aA
  have m2aA := t
  clear t
  have t := (hb.cell (p := ⟨w.heap.size + 1, 0, none⟩) (show w.heap.size + 1 < _ by omega)).trans m0aB
  clear m0aB
  have m0aB := t
  clear t
  have t := (hb.cell (p := ⟨w.heap.size + 1, 1, none⟩) (show w.heap.size + 1 < _ by omega)).trans m1aB
  clear m1aB
  have m1aB := t
  clear t
  have t := (hb.cell (p := ⟨w.heap.size + 1, 2, none⟩) (show w.heap.size + 1 < _ by omega)).trans m2aB
  clear m2aB
  have m2aB := t
  clear t
  have t := (hb.cell (p := ⟨bw0, 0, none⟩) (show bw0 < _ by omega)).trans m0w0
  clear m0w0
  have m0w0 := t
  clear t
  have t := (hb.cell (p := ⟨bw0, 1, none⟩) (show bw0 < _ by omega)).trans m1w0
  clear m1w0
  have m1w0 := t
  clear t
  have t := (hb.cell (p := ⟨bw0, 2, none⟩) (show bw0 < _ by omega)).trans m2w0
  clear m2w0
  have m2w0 := t
  clear t
  have t := (hb.cell (p := ⟨w4.heap.size, 0, none⟩) (show w4.heap.size < _ by omega)).trans m0c1
  clear m0c1
  have m0c1 := t
  clear t
  have t := (hb.cell (p := ⟨w4.heap.size, 1, none⟩) (show w4.heap.size < _ by omega)).trans m1c1
  clear m1c1
  have m1c1 := t
  clear t
  have t := (hb.cell (p := ⟨w4.heap.size, 2, none⟩) (show w4.heap.size < _ by omega)).trans m2c1
  clear m2c1
  have m2c1 := t
  clear t
  have t := (hb.cell (p := ⟨w6.heap.size, 0, none⟩) (show w6.heap.size < _ by omega)).trans m0c2
  clear m0c2
  have m0c2 := t
  clear t
  have t := (hb.cell (p := ⟨w6.heap.size, 1, none⟩) (show w6.heap.size < _ by omega)).trans m1c2
  clear m1c2
  have m1c2 := t
  clear t
  have t := (hb.cell (p := ⟨w6.heap.size, 2, none⟩) (show w6.heap.size < _ by omega)).trans m2c2
  clear m2c2
  have m2c2 := t
  clear t
  have t := OP.below hw0 hb
  clear hw0
  have hw0 := t
  clear t
  have t := OP.below hc1 hb
  clear hc1
  have hc1 := t
  clear t
  have t := OP.below hc2 hb
  clear hc2
  have hc2 := t
  clear t
  have t := OP.below hg0 hb
  clear hg0
  have hg0 := t
  clear t
  clear hb
  have m0g0 := M0g0.out
  have m1g0 := M1g0.out
  have m2g0 := M2g0.out
  refine (l_eqPresentation _ _ _ _ _ _ _ _ hg0.rd hw0.rd).mono ?_
  rintro e w10 ⟨rfl, hb⟩
  have hb0x := below_size hb0 hb
  clear hb0
  have hb0 := hb0x
  clear hb0x
  have s10 : w9.heap.size ≤ w10.heap.size := hb.size
  have t := (hb.cell (p := ⟨w.heap.size, 0, none⟩) (show w.heap.size < _ by omega)).trans m0aA
  clear m0aA
  have m0aA := t
  clear t
  have t := (hb.cell (p := ⟨w.heap.size, 1, none⟩) (show w.heap.size < _ by omega)).trans m1aA
  clear m1aA
  have m1aA := t
  clear t
  have t := (hb.cell (p := ⟨w.heap.size, 2, none⟩) (show w.heap.size < _ by omega)).trans m2aA
  clear m2aA
  have m2aA := t
  clear t
  have t := (hb.cell (p := ⟨w.heap.size + 1, 0, none⟩) (show w.heap.size + 1 < _ by omega)).trans m0aB
  clear m0aB
  have m0aB := t
  clear t
  have t := (hb.cell (p := ⟨w.heap.size + 1, 1, none⟩) (show w.heap.size + 1 < _ by omega)).trans m1aB
  clear m1aB
  have m1aB := t
  clear t
  have t := (hb.cell (p := ⟨w.heap.size + 1, 2, none⟩) (show w.heap.size + 1 < _ by omega)).trans m2aB
  clear m2aB
  have m2aB := t
  clear t
  have t := (hb.cell (p := ⟨bw0, 0, none⟩) (show bw0 < _ by omega)).trans m0w0
  clear m0w0
  have m0w0 := t
  clear t
  have t := (hb.cell (p := ⟨bw0, 1, none⟩) (show bw0 < _ by omega)).trans m1w0
  clear m1w0
  have m1w0 := t
  clear t
  have t := (hb.cell (p := ⟨bw0, 2, none⟩) (show bw0 < _ by omega)).trans m2w0
  clear m2w0
  have m2w0 := t
  clear t
  have t := (hb.cell (p := ⟨w4.heap.size, 0, none⟩) (show w4.heap.size < _ by omega)).trans m0c1
  clear m0c1
  have m0c1 := t
  clear t
  have t := (hb.cell (p := ⟨w4.heap.size, 1, none⟩) (show w4.heap.size < _ by omega)).trans m1c1
  clear m1c1
  have m1c1 := t
  clear t
  have t := (hb.cell (p := ⟨w4.heap.size, 2, none⟩) (show w4.heap.size < _ by omega)).trans m2c1
  clear m2c1
  have m2c1 := t
  clear t
  have t := (hb.cell (p := ⟨w6.heap.size, 0, none⟩) (show w6.heap.size < _ by omega)).trans m0c2
  clear m0c2
  have m0c2 := t
  clear t
  have t := (hb.cell (p := ⟨w6.heap.size, 1, none⟩) (show w6.heap.size < _ by omega)).trans m1c2
  clear m1c2
  have m1c2 := t
  clear t
  have t := (hb.cell (p := ⟨w6.heap.size, 2, none⟩) (show w6.heap.size < _ by omega)).trans m2c2
  clear m2c2
  have m2c2 := t
  clear t
  have t := (hb.cell (p := ⟨w8.heap.size, 0, none⟩) (show w8.heap.size < _ by omega)).trans m0g0
  clear m0g0
  have m0g0 := t
  clear t
  have t := (hb.cell (p := ⟨w8.heap.size, 1, none⟩) (show w8.heap.size < _ by omega)).trans m1g0
  clear m1g0
  have m1g0 := t
  clear t
  have t := (hb.cell (p := ⟨w8.heap.size, 2, none⟩) (show w8.heap.size < _ by omega)).trans m2g0
  clear m2g0
  have m2g0 := t
  clear t
  have t := OP.below hw0 hb
  clear hw0
  have hw0 := t
  clear t
  have t := OP.below hc1 hb
  clear hc1
  have hc1 := t
  clear t
  have t := OP.below hc2 hb
  clear hc2
  have hc2 := t
  clear t
  have t := OP.below hg0 hb
  clear hg0
  have hg0 := t
  clear t
  clear hb
  go_wp2_with fail
  have HR := Lib.hid ((HEaA.out.below hbx).below hb0)
  have HX := Lib.hid hc1.rd
  have lt0 : w4.heap.size < w10.heap.size := by omega
  have lt3 : w.heap.size < w10.heap.size := by omega
  have KEEP : Hid (∀ wx, Below w10.heap.size w10 wx → Below w10.heap.size w10 wx ∧ wx.cell? ⟨w4.heap.size, 0, none⟩ = some (Value.slice a1c1 n1c1 q1c1) ∧ wx.cell? ⟨w4.heap.size, 1, none⟩ = some (Value.slice a2c1 n2c1 q2c1) ∧ wx.cell? ⟨w4.heap.size, 2, none⟩ = some (Value.slice a3c1 n3c1 q3c1) ∧ wx.cell? ⟨w.heap.size, 0, none⟩ = some (v1aA) ∧ wx.cell? ⟨w.heap.size, 1, none⟩ = some (v2aA) ∧ wx.cell? ⟨w.heap.size, 2, none⟩ = some (v3aA)) := fun wx hb => ⟨hb, ((hb).cell (p := ⟨w4.heap.size, 0, none⟩) (by omega)).trans m0c1, ((hb).cell (p := ⟨w4.heap.size, 1, none⟩) (by omega)).trans m1c1, ((hb).cell (p := ⟨w4.heap.size, 2, none⟩) (by omega)).trans m2c1, ((hb).cell (p := ⟨w.heap.size, 0, none⟩) (by omega)).trans m0aA, ((hb).cell (p := ⟨w.heap.size, 1, none⟩) (by omega)).trans m1aA, ((hb).cell (p := ⟨w.heap.size, 2, none⟩) (by omega)).trans m2aA⟩
  go_region_held3 (fun wx => Below w10.heap.size w10 wx ∧ wx.cell? ⟨w4.heap.size, 0, none⟩ = some (Value.slice a1c1 n1c1 q1c1) ∧ wx.cell? ⟨w4.heap.size, 1, none⟩ = some (Value.slice a2c1 n2c1 q2c1) ∧ wx.cell? ⟨w4.heap.size, 2, none⟩ = some (Value.slice a3c1 n3c1 q3c1) ∧ wx.cell? ⟨w.heap.size, 0, none⟩ = some (v1aA) ∧ wx.cell? ⟨w.heap.size, 1, none⟩ = some (v2aA) ∧ wx.cell? ⟨w.heap.size, 2, none⟩ = some (v3aA))
    (first | exact KEEP.out _ (Below.refl _ _).drew | exact KEEP.out _ (below_size (And.left (by assumption)) (by assumption)))
    (first
      | ((go_at_call 27); (refine (l_toPresentation _ _ _ aA _ (HR.out.below (And.left (by assumption))) (by omega)).mono ?_); (rintro e wy ⟨yv1, yv2, yv3, rfl, hy, hb⟩))
      | ((go_at_call 22); (refine (l_eqPresentation _ _ _ _ _ _ aA _ (HX.out.below (And.left (by assumption))) hy.rd).mono ?_); (rintro e w11 ⟨rfl, hb2⟩)))
  have hb : Below w10.heap.size w10 w11 := And.left (by assumption)
  clear KEEP HR HX
  have hb0x := below_size hb0 hb
  clear hb0
  have hb0 := hb0x
  clear hb0x
  have s11 : w10.heap.size ≤ w11.heap.size := hb.size
  have t := (hb.cell (p := ⟨w.heap.size, 0, none⟩) (show w.heap.size < _ by omega)).trans m0aA
  clear m0aA
  have m0aA := t
  clear t
  have t := (hb.cell (p := ⟨w.heap.size, 1, none⟩) (show w.heap.size < _ by omega)).trans m1aA
  clear m1aA
  have m1aA := t
  clear t
  have t := (hb.cell (p := ⟨w.heap.size, 2, none⟩) (show w.heap.size < _ by omega)).trans m2aA
  clear m2aA
  have m2aA := t
  clear t
  have t := (hb.cell (p := ⟨w.heap.size + 1, 0, none⟩) (show w.heap.size + 1 < _ by omega)).trans m0aB
  clear m0aB
  have m0aB := t
  clear t
  have t := (hb.cell (p := ⟨w.heap.size + 1, 1, none⟩) (show w.heap.size + 1 < _ by omega)).trans m1aB
  clear m1aB
  have m1aB := t
  clear t
  have t := (hb.cell (p := ⟨w.heap.size + 1, 2, none⟩) (show w.heap.size + 1 < _ by omega)).trans m2aB
  clear m2aB
  have m2aB := t
  clear t
  have t := (hb.cell (p := ⟨bw0, 0, none⟩) (show bw0 < _ by omega)).trans m0w0
  clear m0w0
  have m0w0 := t
  clear t
  have t := (hb.cell (p := ⟨bw0, 1, none⟩) (show bw0 < _ by omega)).trans m1w0
  clear m1w0
  have m1w0 := t
  clear t
  have t := (hb.cell (p := ⟨bw0, 2, none⟩) (show bw0 < _ by omega)).trans m2w0
  clear m2w0
  have m2w0 := t
  clear t
  have t := (hb.cell (p := ⟨w4.heap.size, 0, none⟩) (show w4.heap.size < _ by omega)).trans m0c1
  clear m0c1
  have m0c1 := t
  clear t
  have t := (hb.cell (p := ⟨w4.heap.size, 1, none⟩) (show w4.heap.size < _ by omega)).trans m1c1
  clear m1c1
  have m1c1 := t
  clear t
  have t := (hb.cell (p := ⟨w4.heap.size, 2, none⟩) (show w4.heap.size < _ by omega)).trans m2c1
  clear m2c1
  have m2c1 := t
  clear t
  have t := (hb.cell (p := ⟨w6.heap.size, 0, none⟩) (show w6.heap.size < _ by omega)).trans m0c2
  clear m0c2
  have m0c2 := t
  clear t
  have t := (hb.cell (p := ⟨w6.heap.size, 1, none⟩) (show w6.heap.size < _ by omega)).trans m1c2
  clear m1c2
  have m1c2 := t
  clear t
  have t := (hb.cell (p := ⟨w6.heap.size, 2, none⟩) (show w6.heap.size < _ by omega)).trans m2c2
  clear m2c2
  have m2c2 := t
  clear t
  have t := (hb.cell (p := ⟨w8.heap.size, 0, none⟩) (show w8.heap.size < _ by omega)).trans m0g0
  clear m0g0
  have m0g0 := t
  clear t
  have t := (hb.cell (p := ⟨w8.heap.size, 1, none⟩) (show w8.heap.size < _ by omega)).trans m1g0
  clear m1g0
  have m1g0 := t
  clear t
  have t := (hb.cell (p := ⟨w8.heap.size, 2, none⟩) (show w8.heap.size < _ by omega)).trans m2g0
  clear m2g0
  have m2g0 := t
  clear t
  have t := OP.below hw0 hb
  clear hw0
  have hw0 := t
  clear t
  have t := OP.below hc1 hb
  clear hc1
  have hc1 := t
  clear t
  have t := OP.below hc2 hb
  clear hc2
  have hc2 := t
  clear t
  have t := OP.below hg0 hb
  clear hg0
  have hg0 := t
  clear t
  clear hb
  go_wp2_with fail
  have HR := Lib.hid ((HEaB.out.below hbx).below hb0)
  have HX := Lib.hid hc2.rd
  have lt0 : w6.heap.size < w11.heap.size := by omega
  have lt3 : w.heap.size + 1 < w11.heap.size := by omega
  have KEEP : Hid (∀ wx, Below w11.heap.size w11 wx → Below w11.heap.size w11 wx ∧ wx.cell? ⟨w6.heap.size, 0, none⟩ = some (Value.slice a1c2 n1c2 q1c2) ∧ wx.cell? ⟨w6.heap.size, 1, none⟩ = some (Value.slice a2c2 n2c2 q2c2) ∧ wx.cell? ⟨w6.heap.size, 2, none⟩ = some (Value.slice a3c2 n3c2 q3c2) ∧ wx.cell? ⟨w.heap.size + 1, 0, none⟩ = some (v1aB) ∧ wx.cell? ⟨w.heap.size + 1, 1, none⟩ = some (v2aB) ∧ wx.cell? ⟨w.heap.size + 1, 2, none⟩ = some (v3aB)) := fun wx hb => ⟨hb, ((hb).cell (p := ⟨w6.heap.size, 0, none⟩) (by omega)).trans m0c2, ((hb).cell (p := ⟨w6.heap.size, 1, none⟩) (by omega)).trans m1c2, ((hb).cell (p := ⟨w6.heap.size, 2, none⟩) (by omega)).trans m2c2, ((hb).cell (p := ⟨w.heap.size + 1, 0, none⟩) (by omega)).trans m0aB, ((hb).cell (p := ⟨w.heap.size + 1, 1, none⟩) (by omega)).trans m1aB, ((hb).cell (p := ⟨w.heap.size + 1, 2, none⟩) (by omega)).trans m2aB⟩
  go_region_held3 (fun wx => Below w11.heap.size w11 wx ∧ wx.cell? ⟨w6.heap.size, 0, none⟩ = some (Value.slice a1c2 n1c2 q1c2) ∧ wx.cell? ⟨w6.heap.size, 1, none⟩ = some (Value.slice a2c2 n2c2 q2c2) ∧ wx.cell? ⟨w6.heap.size, 2, none⟩ = some (Value.slice a3c2 n3c2 q3c2) ∧ wx.cell? ⟨w.heap.size + 1, 0, none⟩ = some (v1aB) ∧ wx.cell? ⟨w.heap.size + 1, 1, none⟩ = some (v2aB) ∧ wx.cell? ⟨w.heap.size + 1, 2, none⟩ = some (v3aB))
    (first | exact KEEP.out _ (Below.refl _ _).drew | exact KEEP.out _ (below_size (And.left (by assumption)) (by assumption)))
    (first
      | ((go_at_call 27); (refine (l_toPresentation _ _ _ aB _ (HR.out.below (And.left (by assumption))) (by omega)).mono ?_); (rintro e wy ⟨yv1, yv2, yv3, rfl, hy, hb⟩))
      | ((go_at_call 22); (refine (l_eqPresentation _ _ _ _ _ _ aB _ (HX.out.below (And.left (by assumption))) hy.rd).mono ?_); (rintro e w12 ⟨rfl, hb2⟩)))
  have hb : Below w11.heap.size w11 w12 := And.left (by assumption)
  clear KEEP HR HX
  have hb0x := below_size hb0 hb
  clear hb0
  have hb0 := hb0x
  clear hb0x
  have s12 : w11.heap.size ≤ w12.heap.size := hb.size
  have t := (hb.cell (p := ⟨w.heap.size, 0, none⟩) (show w.heap.size < _ by omega)).trans m0aA
  clear m0aA
  have m0aA := t
  clear t
  have t := (hb.cell (p := ⟨w.heap.size, 1, none⟩) (show w.heap.size < _ by omega)).trans m1aA
  clear m1aA
  have m1aA := t
  clear t
  have t := (hb.cell (p := ⟨w.heap.size, 2, none⟩) (show w.heap.size < _ by omega)).trans m2aA
  clear m2aA
  have m2aA := t
  clear t
  have t := (hb.cell (p := ⟨w.heap.size + 1, 0, none⟩) (show w.heap.size + 1 < _ by omega)).trans m0aB
  clear m0aB
  have m0aB := t
  clear t
  have t := (hb.cell (p := ⟨w.heap.size + 1, 1, none⟩) (show w.heap.size + 1 < _ by omega)).trans m1aB
  clear m1aB
  have m1aB := t
  clear t
  have t := (hb.cell (p := ⟨w.heap.size + 1, 2, none⟩) (show w.heap.size + 1 < _ by omega)).trans m2aB
  clear m2aB
  have m2aB := t
  clear t
  have t := (hb.cell (p := ⟨bw0, 0, none⟩) (show bw0 < _ by omega)).trans m0w0
  clear m0w0
  have m0w0 := t
  clear t
  have t := (hb.cell (p := ⟨bw0, 1, none⟩) (show bw0 < _ by omega)).trans m1w0
  clear m1w0
  have m1w0 := t
  clear t
  have t := (hb.cell (p := ⟨bw0, 2, none⟩) (show bw0 < _ by omega)).trans m2w0
  clear m2w0
  have m2w0 := t
  clear t
  have t := (hb.cell (p := ⟨w4.heap.size, 0, none⟩) (show w4.heap.size < _ by omega)).trans m0c1
  clear m0c1
  have m0c1 := t
  clear t
  have t := (hb.cell (p := ⟨w4.heap.size, 1, none⟩) (show w4.heap.size < _ by omega)).trans m1c1
  clear m1c1
  have m1c1 := t
  clear t
  have t := (hb.cell (p := ⟨w4.heap.size, 2, none⟩) (show w4.heap.size < _ by omega)).trans m2c1
  clear m2c1
  have m2c1 := t
  clear t
  have t := (hb.cell (p := ⟨w6.heap.size, 0, none⟩) (show w6.heap.size < _ by omega)).trans m0c2
  clear m0c2
  have m0c2 := t
  clear t
  have t := (hb.cell (p := ⟨w6.heap.size, 1, none⟩) (show w6.heap.size < _ by omega)).trans m1c2
  clear m1c2
  have m1c2 := t
  clear t
  have t := (hb.cell (p := ⟨w6.heap.size, 2, none⟩) (show w6.heap.size < _ by omega)).trans m2c2
  clear m2c2
  have m2c2 := t
  clear t
  have t := (hb.cell (p := ⟨w8.heap.size, 0, none⟩) (show w8.heap.size < _ by omega)).trans m0g0
  clear m0g0
  have m0g0 := t
  clear t
  have t := (hb.cell (p := ⟨w8.heap.size, 1, none⟩) (show w8.heap.size < _ by omega)).trans m1g0
  clear m1g0
  have m1g0 := t
  clear t
  have t := (hb.cell (p := ⟨w8.heap.size, 2, none⟩) (show w8.heap.size < _ by omega)).trans m2g0
  clear m2g0
  have m2g0 := t
  clear t
  have t := OP.below hw0 hb
  clear hw0
  have hw0 := t
  clear t
  have t := OP.below hc1 hb
  clear hc1
  have hc1 := t
  clear t
  have t := OP.below hc2 hb
  clear hc2
  have hc2 := t
  clear t
  have t := OP.below hg0 hb
  clear hg0
  have hg0 := t
  clear t
  clear hb
  go_wp2_with fail
  have pcc1 := (psize_le laA).2.2.2.2.2.2
  refine (l_markPresentation _ _ _ _ _ _ _ hc1 (by omega) (by omega) llc1).mono ?_
  rintro e w13 ⟨rfl, hnc1, hg⟩
  clear hc1
  have hc1 := hnc1
  clear hnc1
  have s13 : w12.heap.size ≤ w13.heap.size := hg.size
  have t := hb0.trans (hg.below (B := w0.heap.size) (fun k hk => by have := hk.1; omega) (by omega))
  clear hb0
  have hb0 := t
  clear t
  have t := ((hg.at (b := w.heap.size) (by omega) (fun hk => by have := hk.1; have := hk.2; omega)).1 0).trans m0aA
  clear m0aA
  have m0aA := t
  clear t
  have t := ((hg.at (b := w.heap.size) (by omega) (fun hk => by have := hk.1; have := hk.2; omega)).1 1).trans m1aA
  clear m1aA
  have m1aA := t
  clear t
  have t := ((hg.at (b := w.heap.size) (by omega) (fun hk => by have := hk.1; have := hk.2; omega)).1 2).trans m2aA
  clear m2aA
  have m2aA := t
  clear t
  have t := ((hg.at (b := w.heap.size + 1) (by omega) (fun hk => by have := hk.1; have := hk.2; omega)).1 0).trans m0aB
  clear m0aB
  have m0aB := t
  clear t
  have t := ((hg.at (b := w.heap.size + 1) (by omega) (fun hk => by have := hk.1; have := hk.2; omega)).1 1).trans m1aB
  clear m1aB
  have m1aB := t
  clear t
  have t := ((hg.at (b := w.heap.size + 1) (by omega) (fun hk => by have := hk.1; have := hk.2; omega)).1 2).trans m2aB
  clear m2aB
  have m2aB := t
  clear t
  have t := ((hg.at (b := bw0) (by omega) (fun hk => by have := hk.1; have := hk.2; omega)).1 0).trans m0w0
  clear m0w0
  have m0w0 := t
  clear t
  have t := ((hg.at (b := bw0) (by omega) (fun hk => by have := hk.1; have := hk.2; omega)).1 1).trans m1w0
  clear m1w0
  have m1w0 := t
  clear t
  have t := ((hg.at (b := bw0) (by omega) (fun hk => by have := hk.1; have := hk.2; omega)).1 2).trans m2w0
  clear m2w0
  have m2w0 := t
  clear t
  have t := ((hg.at (b := w4.heap.size) (by omega) (fun hk => by have := hk.1; have := hk.2; omega)).1 0).trans m0c1
  clear m0c1
  have m0c1 := t
  clear t
  have t := ((hg.at (b := w4.heap.size) (by omega) (fun hk => by have := hk.1; have := hk.2; omega)).1 1).trans m1c1
  clear m1c1
  have m1c1 := t
  clear t
  have t := ((hg.at (b := w4.heap.size) (by omega) (fun hk => by have := hk.1; have := hk.2; omega)).1 2).trans m2c1
  clear m2c1
  have m2c1 := t
  clear t
  have t := ((hg.at (b := w6.heap.size) (by omega) (fun hk => by have := hk.1; have := hk.2; omega)).1 0).trans m0c2
  clear m0c2
  have m0c2 := t
  clear t
  have t := ((hg.at (b := w6.heap.size) (by omega) (fun hk => by have := hk.1; have := hk.2; omega)).1 1).trans m1c2
  clear m1c2
  have m1c2 := t
  clear t
  have t := ((hg.at (b := w6.heap.size) (by omega) (fun hk => by have := hk.1; have := hk.2; omega)).1 2).trans m2c2
  clear m2c2
  have m2c2 := t
  clear t
  have t := ((hg.at (b := w8.heap.size) (by omega) (fun hk => by have := hk.1; have := hk.2; omega)).1 0).trans m0g0
  clear m0g0
  have m0g0 := t
  clear t
  have t := ((hg.at (b := w8.heap.size) (by omega) (fun hk => by have := hk.1; have := hk.2; omega)).1 1).trans m1g0
  clear m1g0
  have m1g0 := t
  clear t
  have t := ((hg.at (b := w8.heap.size) (by omega) (fun hk => by have := hk.1; have := hk.2; omega)).1 2).trans m2g0
  clear m2g0
  have m2g0 := t
  clear t
  have t := OP.chg hw0 hg (fun k hk hk2 => by have := hk.1; have := hk.2; have := hk2.1; have := hk2.2; omega)
  clear hw0
  have hw0 := t
  clear t
  have t := OP.chg hc2 hg (fun k hk hk2 => by have := hk.1; have := hk.2; have := hk2.1; have := hk2.2; omega)
  clear hc2
  have hc2 := t
  clear t
  have t := OP.chg hg0 hg (fun k hk hk2 => by have := hk.1; have := hk.2; have := hk2.1; have := hk2.2; omega)
  clear hg0
  have hg0 := t
  clear t
  clear hg
  go_wp2_with fail
  have pcc2 := (psize_le laB).2.2.2.2.2.2
  refine (l_markPresentation _ _ _ _ _ _ _ hc2 (by omega) (by omega) llc2).mono ?_
  rintro e w14 ⟨rfl, hnc2, hg⟩
  clear hc2
  have hc2 := hnc2
  clear hnc2
  have s14 : w13.heap.size ≤ w14.heap.size := hg.size
  have t := hb0.trans (hg.below (B := w0.heap.size) (fun k hk => by have := hk.1; omega) (by omega))
  clear hb0
  have hb0 := t
  clear t
  have t := ((hg.at (b := w.heap.size) (by omega) (fun hk => by have := hk.1; have := hk.2; omega)).1 0).trans m0aA
  clear m0aA
  have m0aA := t
  clear t
  have t := ((hg.at (b := w.heap.size) (by omega) (fun hk => by have := hk.1; have := hk.2; omega)).1 1).trans m1aA
  clear m1aA
  have m1aA := t
  clear t
  have t := ((hg.at (b := w.heap.size) (by omega) (fun hk => by have := hk.1; have := hk.2; omega)).1 2).trans m2aA
  clear m2aA
  have m2aA := t
  clear t
  have t := ((hg.at (b := w.heap.size + 1) (by omega) (fun hk => by have := hk.1; have := hk.2; omega)).1 0).trans m0aB
  clear m0aB
  have m0aB := t
  clear t
  have t := ((hg.at (b := w.heap.size + 1) (by omega) (fun hk => by have := hk.1; have := hk.2; omega)).1 1).trans m1aB
  clear m1aB
  have m1aB := t
  clear t
  have t := ((hg.at (b := w.heap.size + 1) (by omega) (fun hk => by have := hk.1; have := hk.2; omega)).1 2).trans m2aB
  clear m2aB
  have m2aB := t
  clear t
  have t := ((hg.at (b := bw0) (by omega) (fun hk => by have := hk.1; have := hk.2; omega)).1 0).trans m0w0
  clear m0w0
  have m0w0 := t
  clear t
  have t := ((hg.at (b := bw0) (by omega) (fun hk => by have := hk.1; have := hk.2; omega)).1 1).trans m1w0
  clear m1w0
  have m1w0 := t
  clear t
  have t := ((hg.at (b := bw0) (by omega) (fun hk => by have := hk.1; have := hk.2; omega)).1 2).trans m2w0
  clear m2w0
  have m2w0 := t
  clear t
  have t := ((hg.at (b := w4.heap.size) (by omega) (fun hk => by have := hk.1; have := hk.2; omega)).1 0).trans m0c1
  clear m0c1
  have m0c1 := t
  clear t
  have t := ((hg.at (b := w4.heap.size) (by omega) (fun hk => by have := hk.1; have := hk.2; omega)).1 1).trans m1c1
  clear m1c1
  have m1c1 := t
  clear t
  have t := ((hg.at (b := w4.heap.size) (by omega) (fun hk => by have := hk.1; have := hk.2; omega)).1 2).trans m2c1
  clear m2c1
  have m2c1 := t
  clear t
  have t := ((hg.at (b := w6.heap.size) (by omega) (fun hk => by have := hk.1; have := hk.2; omega)).1 0).trans m0c2
  clear m0c2
  have m0c2 := t
  clear t
  have t := ((hg.at (b := w6.heap.size) (by omega) (fun hk => by have := hk.1; have := hk.2; omega)).1 1).trans m1c2
  clear m1c2
  have m1c2 := t
  clear t
  have t := ((hg.at (b := w6.heap.size) (by omega) (fun hk => by have := hk.1; have := hk.2; omega)).1 2).trans m2c2
  clear m2c2
  have m2c2 := t
  clear t
  have t := ((hg.at (b := w8.heap.size) (by omega) (fun hk => by have := hk.1; have := hk.2; omega)).1 0).trans m0g0
  clear m0g0
  have m0g0 := t
  clear t
  have t := ((hg.at (b := w8.heap.size) (by omega) (fun hk => by have := hk.1; have := hk.2; omega)).1 1).trans m1g0
  clear m1g0
  have m1g0 := t
  clear t
  have t := ((hg.at (b := w8.heap.size) (by omega) (fun hk => by have := hk.1; have := hk.2; omega)).1 2).trans m2g0
  clear m2g0
  have m2g0 := t
  clear t
  have t := OP.chg hw0 hg (fun k hk hk2 => by have := hk.1; have := hk.2; have := hk2.1; have := hk2.2; omega)
  clear hw0
  have hw0 := t
  clear t
  have t := OP.chg hc1 hg (fun k hk hk2 => by have := hk.1; have := hk.2; have := hk2.1; have := hk2.2; omega)
  clear hc1
  have hc1 := t
  clear t
  have t := OP.chg hg0 hg (fun k hk hk2 => by have := hk.1; have := hk.2; have := hk2.1; have := hk2.2; omega)
  clear hg0
  have hg0 := t
  clear t
  clear hg
  go_wp2_with fail
  refine (l_eqPresentation _ _ _ _ _ _ _ _ hg0.rd hw0.rd).mono ?_
  rintro e w15 ⟨rfl, hb⟩
  have hb0x := below_size hb0 hb
  clear hb0
  have hb0 := hb0x
  clear hb0x
  have s15 : w14.heap.size ≤ w15.heap.size := hb.size
  have t := (hb.cell (p := ⟨w.heap.size, 0, none⟩) (show w.heap.size < _ by omega)).trans m0aA
  clear m0aA
  have m0aA := t
  clear t
  have t := (hb.cell (p := ⟨w.heap.size, 1, none⟩) (show w.heap.size < _ by omega)).trans m1aA
  clear m1aA
  have m1aA := t
  clear t
  have t := (hb.cell (p := ⟨w.heap.size, 2, none⟩) (show w.heap.size < _ by omega)).trans m2aA
  clear m2aA
  have m2aA := t
  clear t
  have t := (hb.cell (p := ⟨w.heap.size + 1, 0, none⟩) (show w.heap.size + 1 < _ by omega)).trans m0aB
  clear m0aB
  have m0aB := t
  clear t
  have t := (hb.cell (p := ⟨w.heap.size + 1, 1, none⟩) (show w.heap.size + 1 < _ by omega)).trans m1aB
  clear m1aB
  have m1aB := t
  clear t
  have t := (hb.cell (p := ⟨w.heap.size + 1, 2, none⟩) (show w.heap.size + 1 < _ by omega)).trans m2aB
  clear m2aB
  have m2aB := t
  clear t
  have t := (hb.cell (p := ⟨bw0, 0, none⟩) (show bw0 < _ by omega)).trans m0w0
  clear m0w0
  have m0w0 := t
  clear t
  have t := (hb.cell (p := ⟨bw0, 1, none⟩) (show bw0 < _ by omega)).trans m1w0
  clear m1w0
  have m1w0 := t
  clear t
  have t := (hb.cell (p := ⟨bw0, 2, none⟩) (show bw0 < _ by omega)).trans m2w0
  clear m2w0
  have m2w0 := t
  clear t
  have t := (hb.cell (p := ⟨w4.heap.size, 0, none⟩) (show w4.heap.size < _ by omega)).trans m0c1
  clear m0c1
  have m0c1 := t
  clear t
  have t := (hb.cell (p := ⟨w4.heap.size, 1, none⟩) (show w4.heap.size < _ by omega)).trans m1c1
  clear m1c1
  have m1c1 := t
  clear t
  have t := (hb.cell (p := ⟨w4.heap.size, 2, none⟩) (show w4.heap.size < _ by omega)).trans m2c1
  clear m2c1
  have m2c1 := t
  clear t
  have t := (hb.cell (p := ⟨w6.heap.size, 0, none⟩) (show w6.heap.size < _ by omega)).trans m0c2
  clear m0c2
  have m0c2 := t
  clear t
  have t := (hb.cell (p := ⟨w6.heap.size, 1, none⟩) (show w6.heap.size < _ by omega)).trans m1c2
  clear m1c2
  have m1c2 := t
  clear t
  have t := (hb.cell (p := ⟨w6.heap.size, 2, none⟩) (show w6.heap.size < _ by omega)).trans m2c2
  clear m2c2
  have m2c2 := t
  clear t
  have t := (hb.cell (p := ⟨w8.heap.size, 0, none⟩) (show w8.heap.size < _ by omega)).trans m0g0
  clear m0g0
  have m0g0 := t
  clear t
  have t := (hb.cell (p := ⟨w8.heap.size, 1, none⟩) (show w8.heap.size < _ by omega)).trans m1g0
  clear m1g0
  have m1g0 := t
  clear t
  have t := (hb.cell (p := ⟨w8.heap.size, 2, none⟩) (show w8.heap.size < _ by omega)).trans m2g0
  clear m2g0
  have m2g0 := t
  clear t
  have t := OP.below hw0 hb
  clear hw0
  have hw0 := t
  clear t
  have t := OP.below hc1 hb
  clear hc1
  have hc1 := t
  clear t
  have t := OP.below hc2 hb
  clear hc2
  have hc2 := t
  clear t
  have t := OP.below hg0 hb
  clear hg0
  have hg0 := t
  clear t
  clear hb
  go_wp2_with fail
  have pcg0 := (psize_le llg0).2.2.2.2.2.2
  refine (l_markPresentation _ _ _ _ _ _ _ hg0 (by omega) (by omega) llg0).mono ?_
  rintro e w16 ⟨rfl, hng0, hg⟩
  clear hg0
  have hg0 := hng0
  clear hng0
  have s16 : w15.heap.size ≤ w16.heap.size := hg.size
  have t := hb0.trans (hg.below (B := w0.heap.size) (fun k hk => by have := hk.1; omega) (by omega))
  clear hb0
  have hb0 := t
  clear t
  have t := ((hg.at (b := w.heap.size) (by omega) (fun hk => by have := hk.1; have := hk.2; omega)).1 0).trans m0aA
  clear m0aA
  have m0aA := t
  clear t
  have t := ((hg.at (b := w.heap.size) (by omega) (fun hk => by have := hk.1; have := hk.2; omega)).1 1).trans m1aA
  clear m1aA
  have m1aA := t
  clear t
  have t := ((hg.at (b := w.heap.size) (by omega) (fun hk => by have := hk.1; have := hk.2; omega)).1 2).trans m2aA
  clear m2aA
  have m2aA := t
  clear t
  have t := ((hg.at (b := w.heap.size + 1) (by omega) (fun hk => by have := hk.1; have := hk.2; omega)).1 0).trans m0aB
  clear m0aB
  have m0aB := t
  clear t
  have t := ((hg.at (b := w.heap.size + 1) (by omega) (fun hk => by have := hk.1; have := hk.2; omega)).1 1).trans m1aB
  clear m1aB
  have m1aB := t
  clear t
  have t := ((hg.at (b := w.heap.size + 1) (by omega) (fun hk => by have := hk.1; have := hk.2; omega)).1 2).trans m2aB
  clear m2aB
  have m2aB := t
  clear t
  have t := ((hg.at (b := bw0) (by omega) (fun hk => by have := hk.1; have := hk.2; omega)).1 0).trans m0w0
  clear m0w0
  have m0w0 := t
  clear t
  have t := ((hg.at (b := bw0) (by omega) (fun hk => by have := hk.1; have := hk.2; omega)).1 1).trans m1w0
  clear m1w0
  have m1w0 := t
  clear t
  have t := ((hg.at (b := bw0) (by omega) (fun hk => by have := hk.1; have := hk.2; omega)).1 2).trans m2w0
  clear m2w0
  have m2w0 := t
  clear t
  have t := ((hg.at (b := w4.heap.size) (by omega) (fun hk => by have := hk.1; have := hk.2; omega)).1 0).trans m0c1
  clear m0c1
  have m0c1 := t
  clear t
  have t := ((hg.at (b := w4.heap.size) (by omega) (fun hk => by have := hk.1; have := hk.2; omega)).1 1).trans m1c1
  clear m1c1
  have m1c1 := t
  clear t
  have t := ((hg.at (b := w4.heap.size) (by omega) (fun hk => by have := hk.1; have := hk.2; omega)).1 2).trans m2c1
  clear m2c1
  have m2c1 := t
  clear t
  have t := ((hg.at (b := w6.heap.size) (by omega) (fun hk => by have := hk.1; have := hk.2; omega)).1 0).trans m0c2
  clear m0c2
  have m0c2 := t
  clear t
  have t := ((hg.at (b := w6.heap.size) (by omega) (fun hk => by have := hk.1; have := hk.2; omega)).1 1).trans m1c2
  clear m1c2
  have m1c2 := t
  clear t
  have t := ((hg.at (b := w6.heap.size) (by omega) (fun hk => by have := hk.1; have := hk.2; omega)).1 2).trans m2c2
  clear m2c2
  have m2c2 := t
  clear t
  have t := ((hg.at (b := w8.heap.size) (by omega) (fun hk => by have := hk.1; have := hk.2; omega)).1 0).trans m0g0
  clear m0g0
  have m0g0 := t
  clear t
  have t := ((hg.at (b := w8.heap.size) (by omega) (fun hk => by have := hk.1; have := hk.2; omega)).1 1).trans m1g0
  clear m1g0
  have m1g0 := t
  clear t
  have t := ((hg.at (b := w8.heap.size) (by omega) (fun hk => by have := hk.1; have := hk.2; omega)).1 2).trans m2g0
  clear m2g0
  have m2g0 := t
  clear t
  have t := OP.chg hw0 hg (fun k hk hk2 => by have := hk.1; have := hk.2; have := hk2.1; have := hk2.2; omega)
  clear hw0
  have hw0 := t
  clear t
  have t := OP.chg hc1 hg (fun k hk hk2 => by have := hk.1; have := hk.2; have := hk2.1; have := hk2.2; omega)
  clear hc1
  have hc1 := t
  clear t
  have t := OP.chg hc2 hg (fun k hk hk2 => by have := hk.1; have := hk.2; have := hk2.1; have := hk2.2; omega)
  clear hc2
  have hc2 := t
  clear t
  clear hg
  go_wp2_with fail
  refine (l_heldPresentation _ _ _ _ _ _ hg0.rd (by omega) (by omega) llg0).mono ?_
  rintro e w17 ⟨rfl, hb⟩
  have hb0x := below_size hb0 hb
  clear hb0
  have hb0 := hb0x
  clear hb0x
  have s17 : w16.heap.size ≤ w17.heap.size := hb.size
  have t := (hb.cell (p := ⟨w.heap.size, 0, none⟩) (show w.heap.size < _ by omega)).trans m0aA
  clear m0aA
  have m0aA := t
  clear t
  have t := (hb.cell (p := ⟨w.heap.size, 1, none⟩) (show w.heap.size < _ by omega)).trans m1aA
  clear m1aA
  have m1aA := t
  clear t
  have t := (hb.cell (p := ⟨w.heap.size, 2, none⟩) (show w.heap.size < _ by omega)).trans m2aA
  clear m2aA
  have m2aA := t
  clear t
  have t := (hb.cell (p := ⟨w.heap.size + 1, 0, none⟩) (show w.heap.size + 1 < _ by omega)).trans m0aB
  clear m0aB
  have m0aB := t
  clear t
  have t := (hb.cell (p := ⟨w.heap.size + 1, 1, none⟩) (show w.heap.size + 1 < _ by omega)).trans m1aB
  clear m1aB
  have m1aB := t
  clear t
  have t := (hb.cell (p := ⟨w.heap.size + 1, 2, none⟩) (show w.heap.size + 1 < _ by omega)).trans m2aB
  clear m2aB
  have m2aB := t
  clear t
  have t := (hb.cell (p := ⟨bw0, 0, none⟩) (show bw0 < _ by omega)).trans m0w0
  clear m0w0
  have m0w0 := t
  clear t
  have t := (hb.cell (p := ⟨bw0, 1, none⟩) (show bw0 < _ by omega)).trans m1w0
  clear m1w0
  have m1w0 := t
  clear t
  have t := (hb.cell (p := ⟨bw0, 2, none⟩) (show bw0 < _ by omega)).trans m2w0
  clear m2w0
  have m2w0 := t
  clear t
  have t := (hb.cell (p := ⟨w4.heap.size, 0, none⟩) (show w4.heap.size < _ by omega)).trans m0c1
  clear m0c1
  have m0c1 := t
  clear t
  have t := (hb.cell (p := ⟨w4.heap.size, 1, none⟩) (show w4.heap.size < _ by omega)).trans m1c1
  clear m1c1
  have m1c1 := t
  clear t
  have t := (hb.cell (p := ⟨w4.heap.size, 2, none⟩) (show w4.heap.size < _ by omega)).trans m2c1
  clear m2c1
  have m2c1 := t
  clear t
  have t := (hb.cell (p := ⟨w6.heap.size, 0, none⟩) (show w6.heap.size < _ by omega)).trans m0c2
  clear m0c2
  have m0c2 := t
  clear t
  have t := (hb.cell (p := ⟨w6.heap.size, 1, none⟩) (show w6.heap.size < _ by omega)).trans m1c2
  clear m1c2
  have m1c2 := t
  clear t
  have t := (hb.cell (p := ⟨w6.heap.size, 2, none⟩) (show w6.heap.size < _ by omega)).trans m2c2
  clear m2c2
  have m2c2 := t
  clear t
  have t := (hb.cell (p := ⟨w8.heap.size, 0, none⟩) (show w8.heap.size < _ by omega)).trans m0g0
  clear m0g0
  have m0g0 := t
  clear t
  have t := (hb.cell (p := ⟨w8.heap.size, 1, none⟩) (show w8.heap.size < _ by omega)).trans m1g0
  clear m1g0
  have m1g0 := t
  clear t
  have t := (hb.cell (p := ⟨w8.heap.size, 2, none⟩) (show w8.heap.size < _ by omega)).trans m2g0
  clear m2g0
  have m2g0 := t
  clear t
  have t := OP.below hw0 hb
  clear hw0
  have hw0 := t
  clear t
  have t := OP.below hc1 hb
  clear hc1
  have hc1 := t
  clear t
  have t := OP.below hc2 hb
  clear hc2
  have hc2 := t
  clear t
  have t := OP.below hg0 hb
  clear hg0
  have hg0 := t
  clear t
  clear hb
  go_upto_region 31 with (fail)
  have HRaA := Lib.hid ((HEaA.out.below hbx).below hb0)
  have HRaB := Lib.hid ((HEaB.out.below hbx).below hb0)
  have lt0 : w.heap.size < w17.heap.size := by omega
  have lt3 : w.heap.size + 1 < w17.heap.size := by omega
  have KEEP : Hid (∀ wx, Below w17.heap.size w17 wx → Below w17.heap.size w17 wx ∧ wx.cell? ⟨w.heap.size, 0, none⟩ = some (v1aA) ∧ wx.cell? ⟨w.heap.size, 1, none⟩ = some (v2aA) ∧ wx.cell? ⟨w.heap.size, 2, none⟩ = some (v3aA) ∧ wx.cell? ⟨w.heap.size + 1, 0, none⟩ = some (v1aB) ∧ wx.cell? ⟨w.heap.size + 1, 1, none⟩ = some (v2aB) ∧ wx.cell? ⟨w.heap.size + 1, 2, none⟩ = some (v3aB)) := fun wx hb => ⟨hb, ((hb).cell (p := ⟨w.heap.size, 0, none⟩) (by omega)).trans m0aA, ((hb).cell (p := ⟨w.heap.size, 1, none⟩) (by omega)).trans m1aA, ((hb).cell (p := ⟨w.heap.size, 2, none⟩) (by omega)).trans m2aA, ((hb).cell (p := ⟨w.heap.size + 1, 0, none⟩) (by omega)).trans m0aB, ((hb).cell (p := ⟨w.heap.size + 1, 1, none⟩) (by omega)).trans m1aB, ((hb).cell (p := ⟨w.heap.size + 1, 2, none⟩) (by omega)).trans m2aB⟩
  go_cut [15, 16] (fun v c wx => ∃ b, v = .pointer (some ⟨b, 0, none⟩) ∧ c = .int .i64 (dirC aA aB) ∧ PBox w17 wx b (dirX aA aB))
  case first =>
    have HWd : Hid (Below w17.heap.size w17 w17.drew) := (Below.refl _ _).drew
    have HWa : Hid (Below w17.heap.size w17 (w17.alloc (Obj.cells #[Value.slice none 0 0, Value.slice none 0 0, Value.slice none 0 0] 32)).drew) := (below_alloc w17 _).drew
    have HXa : Hid (Bx (w17.alloc (Obj.cells #[Value.slice none 0 0, Value.slice none 0 0, Value.slice none 0 0] 32)).drew w17.heap.size (.slice none 0 0) (.slice none 0 0) (.slice none 0 0)) := (Bx.new w17 _ _ _).drew
    go_region_held3 (fun wx => Below w17.heap.size w17 wx ∧ wx.cell? ⟨w.heap.size, 0, none⟩ = some (v1aA) ∧ wx.cell? ⟨w.heap.size, 1, none⟩ = some (v2aA) ∧ wx.cell? ⟨w.heap.size, 2, none⟩ = some (v3aA) ∧ wx.cell? ⟨w.heap.size + 1, 0, none⟩ = some (v1aB) ∧ wx.cell? ⟨w.heap.size + 1, 1, none⟩ = some (v2aB) ∧ wx.cell? ⟨w.heap.size + 1, 2, none⟩ = some (v3aB))
      (first | exact KEEP.out _ HWd.out | exact KEEP.out _ HWa.out | exact KEEP.out _ (set3 hWc (by omega) _ _ _) | exact KEEP.out _ hWc | exact KEEP.out _ (ballocT hWc _) | exact KEEP.out _ hWb | exact KEEP.out _ (ballocT hWb _) | exact KEEP.out _ hWya | exact KEEP.out _ (ballocT hWya _))
      (first
        | ((go_at_call 27); (with_reducible refine (l_toPresentation _ _ _ aA w17.drew (HRaA.out.below HWd.out) (by omega)).mono ?_); (rintro e wya ⟨ya1, ya2, ya3, rfl, hya, hba⟩); (have hWya := below_size HWd.out hba); (have hsa := hWya.size))
        | ((go_at_call 27); (with_reducible refine (l_toPresentation _ _ _ aA (w17.alloc (Obj.cells #[Value.slice none 0 0, Value.slice none 0 0, Value.slice none 0 0] 32)).drew (HRaA.out.below HWa.out) (by omega)).mono ?_); (rintro e wya ⟨ya1, ya2, ya3, rfl, hya, hba⟩); (have hWya := below_size HWa.out hba); (have hsa := hWya.size); (have XA := HXa.out.below hba HXa.out.lt))
        | ((go_at_call 27); (with_reducible refine (l_toPresentation _ _ _ aB wya (HRaB.out.below hWya) (by omega)).mono ?_); (rintro e wyb ⟨yb1, yb2, yb3, rfl, hyb, hbb⟩); (have hWb := below_size hWya hbb); (have hsb := hbb.size); (have hya2 := OP.below hya hbb); (have XB := XA.below hbb XA.lt); (have hlb := XA.lt))
        | ((go_at_call 27); (with_reducible refine (l_toPresentation _ _ _ aB wya (HRaB.out.below hWya) (by omega)).mono ?_); (rintro e wyb ⟨yb1, yb2, yb3, rfl, hyb, hbb⟩); (have hWb := below_size hWya hbb); (have hsb := hbb.size); (have hya2 := OP.below hya hbb))
        | ((go_at_call 27); (with_reducible refine (l_toPresentation _ _ _ aB (wya.alloc (Obj.cells #[Value.slice none 0 0, Value.slice none 0 0, Value.slice none 0 0] 32)) (HRaB.out.below (ballocT hWya _)) (by omega)).mono ?_); (rintro e wyb ⟨yb1, yb2, yb3, rfl, hyb, hbb⟩); (have hWb := below_size (ballocT hWya _) hbb); (have hsb := hbb.size); (have hya2 := OP.below (OP.below hya (below_alloc wya _)) hbb); (have XB := (Bx.new wya (.slice none 0 0) (.slice none 0 0) (.slice none 0 0)).below hbb (Bx.new wya _ _ _).lt); (have hlb : wya.heap.size ≤ wya.heap.size := Nat.le_refl _))
        | ((go_at_call 33); (with_reducible refine (i_DirectProduct _ _ _ _ _ _ _ _ wyb hya2.rd hyb.rd).mono ?_); (rintro e wC ⟨v1r, v2r, v3r, rfl, hres, hbc⟩); (obtain ⟨f1, f2, f3, f4, f5, f6, f7, f8, f9, rfl, rfl, rfl⟩ := hres.formsE); (have hWc := below_size hWb hbc); (have XC := XB.below hbc XB.lt); (have p0 := XC.c0); (have p1 := XC.c1); (have p2 := XC.c2); (have q0 := XC.fr 0); (have q1 := XC.fr 1); (have q2 := XC.fr 2); (have hlc := XB.lt))
        | ((go_at_call 33); (with_reducible refine (i_DirectProduct _ _ _ _ _ _ _ _ wyb hya2.rd hyb.rd).mono ?_); (rintro e wC ⟨v1r, v2r, v3r, rfl, hres, hbc⟩); (obtain ⟨f1, f2, f3, f4, f5, f6, f7, f8, f9, rfl, rfl, rfl⟩ := hres.formsE); (have hWc := below_size hWb hbc))
        | ((go_at_call 33); (with_reducible refine (i_DirectProduct _ _ _ _ _ _ _ _ (wyb.alloc (Obj.cells #[Value.slice none 0 0, Value.slice none 0 0, Value.slice none 0 0] 32)) (hya2.rd.below (below_alloc wyb _)) (hyb.rd.below (below_alloc wyb _))).mono ?_); (rintro e wC ⟨v1r, v2r, v3r, rfl, hres, hbc⟩); (obtain ⟨f1, f2, f3, f4, f5, f6, f7, f8, f9, rfl, rfl, rfl⟩ := hres.formsE); (have hWc := below_size (ballocT hWb _) hbc); (have XC := (Bx.new wyb (.slice none 0 0) (.slice none 0 0) (.slice none 0 0)).below hbc (Bx.new wyb _ _ _).lt); (have p0 := XC.c0); (have p1 := XC.c1); (have p2 := XC.c2); (have q0 := XC.fr 0); (have q1 := XC.fr 1); (have q2 := XC.fr 2); (have hlc : wyb.heap.size ≤ wyb.heap.size := Nat.le_refl _)))
    all_goals (go_wp2_with fail; go_meet; have hsB := hWb.size; first | exact ⟨_, rfl, rfl, pbox1 XC hres (fun k hk => by have h1 := hk.1; (try simp at h1); (try simp at hsb); exact ⟨by omega, by omega⟩) hWc (by (try simp at hsb); omega)⟩ | exact ⟨_, rfl, rfl, pbox2 hres (fun k hk => by have h1 := hk.1; omega) hWc⟩)
  obtain ⟨bh0, rfl, rfl, v1h0, v2h0, v3h0, hXh0, hOh0, hloh0, hb⟩ := hcut
  obtain ⟨w18, hw18⟩ : ∃ x, x = wc := ⟨_, rfl⟩
  subst hw18
  have hh0 := OP.sub hOh0 (S' := win w17.heap.size w18.heap.size) (fun k hk hh => ⟨hh.1, hk⟩)
  have zh0 : bh0 < w18.heap.size := hXh0.lt
  obtain ⟨a1h0, n1h0, q1h0, a2h0, n2h0, q2h0, a3h0, n3h0, q3h0, rfl, rfl, rfl⟩ := hh0.formsE
  have m0h0 := hXh0.c0
  have m1h0 := hXh0.c1
  have m2h0 := hXh0.c2
  clear KEEP hOh0 hXh0 HRaA HRaB
  have hb0x := below_size hb0 hb
  clear hb0
  have hb0 := hb0x
  clear hb0x
  have s18 : w17.heap.size ≤ w18.heap.size := hb.size
  have t := (hb.cell (p := ⟨w.heap.size, 0, none⟩) (show w.heap.size < _ by omega)).trans m0aA
  clear m0aA
  have m0aA := t
  clear t
  have t := (hb.cell (p := ⟨w.heap.size, 1, none⟩) (show w.heap.size < _ by omega)).trans m1aA
  clear m1aA
  have m1aA := t
  clear t
  have t := (hb.cell (p := ⟨w.heap.size, 2, none⟩) (show w.heap.size < _ by omega)).trans m2aA
  clear m2aA
  have m2aA := t
  clear t
  have t := (hb.cell (p := ⟨w.heap.size + 1, 0, none⟩) (show w.heap.size + 1 < _ by omega)).trans m0aB
  clear m0aB
  have m0aB := t
  clear t
  have t := (hb.cell (p := ⟨w.heap.size + 1, 1, none⟩) (show w.heap.size + 1 < _ by omega)).trans m1aB
  clear m1aB
  have m1aB := t
  clear t
  have t := (hb.cell (p := ⟨w.heap.size + 1, 2, none⟩) (show w.heap.size + 1 < _ by omega)).trans m2aB
  clear m2aB
  have m2aB := t
  clear t
  have t := (hb.cell (p := ⟨bw0, 0, none⟩) (show bw0 < _ by omega)).trans m0w0
  clear m0w0
  have m0w0 := t
  clear t
  have t := (hb.cell (p := ⟨bw0, 1, none⟩) (show bw0 < _ by omega)).trans m1w0
  clear m1w0
  have m1w0 := t
  clear t
  have t := (hb.cell (p := ⟨bw0, 2, none⟩) (show bw0 < _ by omega)).trans m2w0
  clear m2w0
  have m2w0 := t
  clear t
  have t := (hb.cell (p := ⟨w4.heap.size, 0, none⟩) (show w4.heap.size < _ by omega)).trans m0c1
  clear m0c1
  have m0c1 := t
  clear t
  have t := (hb.cell (p := ⟨w4.heap.size, 1, none⟩) (show w4.heap.size < _ by omega)).trans m1c1
  clear m1c1
  have m1c1 := t
  clear t
  have t := (hb.cell (p := ⟨w4.heap.size, 2, none⟩) (show w4.heap.size < _ by omega)).trans m2c1
  clear m2c1
  have m2c1 := t
  clear t
  have t := (hb.cell (p := ⟨w6.heap.size, 0, none⟩) (show w6.heap.size < _ by omega)).trans m0c2
  clear m0c2
  have m0c2 := t
  clear t
  have t := (hb.cell (p := ⟨w6.heap.size, 1, none⟩) (show w6.heap.size < _ by omega)).trans m1c2
  clear m1c2
  have m1c2 := t
  clear t
  have t := (hb.cell (p := ⟨w6.heap.size, 2, none⟩) (show w6.heap.size < _ by omega)).trans m2c2
  clear m2c2
  have m2c2 := t
  clear t
  have t := (hb.cell (p := ⟨w8.heap.size, 0, none⟩) (show w8.heap.size < _ by omega)).trans m0g0
  clear m0g0
  have m0g0 := t
  clear t
  have t := (hb.cell (p := ⟨w8.heap.size, 1, none⟩) (show w8.heap.size < _ by omega)).trans m1g0
  clear m1g0
  have m1g0 := t
  clear t
  have t := (hb.cell (p := ⟨w8.heap.size, 2, none⟩) (show w8.heap.size < _ by omega)).trans m2g0
  clear m2g0
  have m2g0 := t
  clear t
  have t := OP.below hw0 hb
  clear hw0
  have hw0 := t
  clear t
  have t := OP.below hc1 hb
  clear hc1
  have hc1 := t
  clear t
  have t := OP.below hc2 hb
  clear hc2
  have hc2 := t
  clear t
  have t := OP.below hg0 hb
  clear hg0
  have hg0 := t
  clear t
  clear hb
  have llh0 : _ ≤ 1000000000 := len_DirectProduct aA aB
  go_wp2_with fail
  refine (l_eqPresentation _ _ _ _ _ _ _ _ hh0.rd hw0.rd).mono ?_
  rintro e w19 ⟨rfl, hb⟩
  have hb0x := below_size hb0 hb
  clear hb0
  have hb0 := hb0x
  clear hb0x
  have s19 : w18.heap.size ≤ w19.heap.size := hb.size
  have t := (hb.cell (p := ⟨w.heap.size, 0, none⟩) (show w.heap.size < _ by omega)).trans m0aA
  clear m0aA
  have m0aA := t
  clear t
  have t := (hb.cell (p := ⟨w.heap.size, 1, none⟩) (show w.heap.size < _ by omega)).trans m1aA
  clear m1aA
  have m1aA := t
  clear t
  have t := (hb.cell (p := ⟨w.heap.size, 2, none⟩) (show w.heap.size < _ by omega)).trans m2aA
  clear m2aA
  have m2aA := t
  clear t
  have t := (hb.cell (p := ⟨w.heap.size + 1, 0, none⟩) (show w.heap.size + 1 < _ by omega)).trans m0aB
  clear m0aB
  have m0aB := t
  clear t
  have t := (hb.cell (p := ⟨w.heap.size + 1, 1, none⟩) (show w.heap.size + 1 < _ by omega)).trans m1aB
  clear m1aB
  have m1aB := t
  clear t
  have t := (hb.cell (p := ⟨w.heap.size + 1, 2, none⟩) (show w.heap.size + 1 < _ by omega)).trans m2aB
  clear m2aB
  have m2aB := t
  clear t
  have t := (hb.cell (p := ⟨bw0, 0, none⟩) (show bw0 < _ by omega)).trans m0w0
  clear m0w0
  have m0w0 := t
  clear t
  have t := (hb.cell (p := ⟨bw0, 1, none⟩) (show bw0 < _ by omega)).trans m1w0
  clear m1w0
  have m1w0 := t
  clear t
  have t := (hb.cell (p := ⟨bw0, 2, none⟩) (show bw0 < _ by omega)).trans m2w0
  clear m2w0
  have m2w0 := t
  clear t
  have t := (hb.cell (p := ⟨w4.heap.size, 0, none⟩) (show w4.heap.size < _ by omega)).trans m0c1
  clear m0c1
  have m0c1 := t
  clear t
  have t := (hb.cell (p := ⟨w4.heap.size, 1, none⟩) (show w4.heap.size < _ by omega)).trans m1c1
  clear m1c1
  have m1c1 := t
  clear t
  have t := (hb.cell (p := ⟨w4.heap.size, 2, none⟩) (show w4.heap.size < _ by omega)).trans m2c1
  clear m2c1
  have m2c1 := t
  clear t
  have t := (hb.cell (p := ⟨w6.heap.size, 0, none⟩) (show w6.heap.size < _ by omega)).trans m0c2
  clear m0c2
  have m0c2 := t
  clear t
  have t := (hb.cell (p := ⟨w6.heap.size, 1, none⟩) (show w6.heap.size < _ by omega)).trans m1c2
  clear m1c2
  have m1c2 := t
  clear t
  have t := (hb.cell (p := ⟨w6.heap.size, 2, none⟩) (show w6.heap.size < _ by omega)).trans m2c2
  clear m2c2
  have m2c2 := t
  clear t
  have t := (hb.cell (p := ⟨w8.heap.size, 0, none⟩) (show w8.heap.size < _ by omega)).trans m0g0
  clear m0g0
  have m0g0 := t
  clear t
  have t := (hb.cell (p := ⟨w8.heap.size, 1, none⟩) (show w8.heap.size < _ by omega)).trans m1g0
  clear m1g0
  have m1g0 := t
  clear t
  have t := (hb.cell (p := ⟨w8.heap.size, 2, none⟩) (show w8.heap.size < _ by omega)).trans m2g0
  clear m2g0
  have m2g0 := t
  clear t
  have t := (hb.cell (p := ⟨bh0, 0, none⟩) (show bh0 < _ by omega)).trans m0h0
  clear m0h0
  have m0h0 := t
  clear t
  have t := (hb.cell (p := ⟨bh0, 1, none⟩) (show bh0 < _ by omega)).trans m1h0
  clear m1h0
  have m1h0 := t
  clear t
  have t := (hb.cell (p := ⟨bh0, 2, none⟩) (show bh0 < _ by omega)).trans m2h0
  clear m2h0
  have m2h0 := t
  clear t
  have t := OP.below hw0 hb
  clear hw0
  have hw0 := t
  clear t
  have t := OP.below hc1 hb
  clear hc1
  have hc1 := t
  clear t
  have t := OP.below hc2 hb
  clear hc2
  have hc2 := t
  clear t
  have t := OP.below hg0 hb
  clear hg0
  have hg0 := t
  clear t
  have t := OP.below hh0 hb
  clear hh0
  have hh0 := t
  clear t
  clear hb
  go_wp2_with fail
  refine (l_heldPresentation _ _ _ _ _ _ hg0.rd (by omega) (by omega) llg0).mono ?_
  rintro e w20 ⟨rfl, hb⟩
  have hb0x := below_size hb0 hb
  clear hb0
  have hb0 := hb0x
  clear hb0x
  have s20 : w19.heap.size ≤ w20.heap.size := hb.size
  have t := (hb.cell (p := ⟨w.heap.size, 0, none⟩) (show w.heap.size < _ by omega)).trans m0aA
  clear m0aA
  have m0aA := t
  clear t
  have t := (hb.cell (p := ⟨w.heap.size, 1, none⟩) (show w.heap.size < _ by omega)).trans m1aA
  clear m1aA
  have m1aA := t
  clear t
  have t := (hb.cell (p := ⟨w.heap.size, 2, none⟩) (show w.heap.size < _ by omega)).trans m2aA
  clear m2aA
  have m2aA := t
  clear t
  have t := (hb.cell (p := ⟨w.heap.size + 1, 0, none⟩) (show w.heap.size + 1 < _ by omega)).trans m0aB
  clear m0aB
  have m0aB := t
  clear t
  have t := (hb.cell (p := ⟨w.heap.size + 1, 1, none⟩) (show w.heap.size + 1 < _ by omega)).trans m1aB
  clear m1aB
  have m1aB := t
  clear t
  have t := (hb.cell (p := ⟨w.heap.size + 1, 2, none⟩) (show w.heap.size + 1 < _ by omega)).trans m2aB
  clear m2aB
  have m2aB := t
  clear t
  have t := (hb.cell (p := ⟨bw0, 0, none⟩) (show bw0 < _ by omega)).trans m0w0
  clear m0w0
  have m0w0 := t
  clear t
  have t := (hb.cell (p := ⟨bw0, 1, none⟩) (show bw0 < _ by omega)).trans m1w0
  clear m1w0
  have m1w0 := t
  clear t
  have t := (hb.cell (p := ⟨bw0, 2, none⟩) (show bw0 < _ by omega)).trans m2w0
  clear m2w0
  have m2w0 := t
  clear t
  have t := (hb.cell (p := ⟨w4.heap.size, 0, none⟩) (show w4.heap.size < _ by omega)).trans m0c1
  clear m0c1
  have m0c1 := t
  clear t
  have t := (hb.cell (p := ⟨w4.heap.size, 1, none⟩) (show w4.heap.size < _ by omega)).trans m1c1
  clear m1c1
  have m1c1 := t
  clear t
  have t := (hb.cell (p := ⟨w4.heap.size, 2, none⟩) (show w4.heap.size < _ by omega)).trans m2c1
  clear m2c1
  have m2c1 := t
  clear t
  have t := (hb.cell (p := ⟨w6.heap.size, 0, none⟩) (show w6.heap.size < _ by omega)).trans m0c2
  clear m0c2
  have m0c2 := t
  clear t
  have t := (hb.cell (p := ⟨w6.heap.size, 1, none⟩) (show w6.heap.size < _ by omega)).trans m1c2
  clear m1c2
  have m1c2 := t
  clear t
  have t := (hb.cell (p := ⟨w6.heap.size, 2, none⟩) (show w6.heap.size < _ by omega)).trans m2c2
  clear m2c2
  have m2c2 := t
  clear t
  have t := (hb.cell (p := ⟨w8.heap.size, 0, none⟩) (show w8.heap.size < _ by omega)).trans m0g0
  clear m0g0
  have m0g0 := t
  clear t
  have t := (hb.cell (p := ⟨w8.heap.size, 1, none⟩) (show w8.heap.size < _ by omega)).trans m1g0
  clear m1g0
  have m1g0 := t
  clear t
  have t := (hb.cell (p := ⟨w8.heap.size, 2, none⟩) (show w8.heap.size < _ by omega)).trans m2g0
  clear m2g0
  have m2g0 := t
  clear t
  have t := (hb.cell (p := ⟨bh0, 0, none⟩) (show bh0 < _ by omega)).trans m0h0
  clear m0h0
  have m0h0 := t
  clear t
  have t := (hb.cell (p := ⟨bh0, 1, none⟩) (show bh0 < _ by omega)).trans m1h0
  clear m1h0
  have m1h0 := t
  clear t
  have t := (hb.cell (p := ⟨bh0, 2, none⟩) (show bh0 < _ by omega)).trans m2h0
  clear m2h0
  have m2h0 := t
  clear t
  have t := OP.below hw0 hb
  clear hw0
  have hw0 := t
  clear t
  have t := OP.below hc1 hb
  clear hc1
  have hc1 := t
  clear t
  have t := OP.below hc2 hb
  clear hc2
  have hc2 := t
  clear t
  have t := OP.below hg0 hb
  clear hg0
  have hg0 := t
  clear t
  have t := OP.below hh0 hb
  clear hh0
  have hh0 := t
  clear t
  clear hb
  go_wp2_with fail
  go_ret
  exact ⟨rfl, hbx.trans (hb0.mono hbx.size)⟩

theorem own : ownKnob Try.prog.godebug = none := by kernel_rfl
theorem laidOut : laidOutB Try.prog = true := by kernel_rfl

set_option maxRecDepth 100000 in
theorem lifted (os : Os) (started : os.Started) (H : Type) (enc : TypeId × Value → H) :
    ReturnsInHanded {} Try.checked os 6 .any (Rows.fnExactDirectProductSpec.pre6 enc Try.prog Try.f6 Rows.fnExactDirectProductRow.domain false) (Rows.fnExactDirectProductSpec.post enc Try.prog Try.f6 false true false false) := by
  refine returnsInHanded_of_change (C := Try.checked) own started (by kernel_rfl) Try.func6
    (ChangeSpec.witness6 (enc := enc) (C := Try.checked) false ⟨#[], #[.agg #[.slice none 0 0, .slice none 0 0, .slice none 0 0], .agg #[.slice none 0 0, .slice none 0 0, .slice none 0 0]], []⟩ 8 (by kernel_rfl) (by kernel_rfl) (by kernel_rfl) (by kernel_rfl)) ?_
  intro W base args ds gs before hval0 hW hcnd _
  have hval : ∀ (j : Nat) t v, Try.f6.params[j]? = some t → args[j]? = some v → Value.okWide Try.prog W .any base t v := hval0
  have hW' := hW
  obtain ⟨p, q, hA0, hV, rfl, hfz, hnd⟩ := hW
  have hA : DataW.TrodAll enc Try.prog W 0 (fun _ => true) true Try.f6.params.toList args.toList ds p := hA0
  rw [Try.params6] at hA hval
  obtain ⟨v0, vs0, d0, ds0, p0, q0, hargs, rfl, rfl, h0, r0⟩ := trodAll_cons hA
  obtain ⟨v1, vs1, d1, ds1, p1, q1, rfl, rfl, rfl, h1, r1⟩ := trodAll_cons r0
  obtain ⟨rfl, rfl, rfl⟩ := trodAll_nil r1
  obtain rfl : args = #[v0, v1] := by cases args; simp_all
  obtain ⟨rfl, rfl⟩ := trodVars_none hV
  have k0 := h0
  have lt0 : ∀ x ∈ p0, x.block < W.heap.size := by obtain ⟨m, hm⟩ := k0; exact DataW.trod_lt m _ _ _ hm
  obtain ⟨x10, x20, x30, xs0, rfl, f0⟩ := rdP_of (hval 0 38 v0 rfl rfl) h0
  have k1 := h1
  have lt1 : ∀ x ∈ p1, x.block < W.heap.size := by obtain ⟨m, hm⟩ := k1; exact DataW.trod_lt m _ _ _ hm
  obtain ⟨x11, x21, x31, xs1, rfl, f1⟩ := rdP_of (hval 1 38 v1 rfl rfl) h1
  clear hA0 hval0
  refine (core _ _ _ xs0 _ _ _ xs1 W f0 f1).mono fun e W' ⟨he, bel⟩ => ?_
  subst he
  exact ⟨_, rfl, _, _, _, [], _, [], hW', trodAll_mk1 (shut_bool Try.underlying4 _), (trodAll_cons_mk (Below.trod laidOut (by kernel_rfl) (of_decide_eq_true (by kernel_rfl)) k0 bel lt0) (trodAll_cons_mk (Below.trod laidOut (by kernel_rfl) (of_decide_eq_true (by kernel_rfl)) k1 bel lt1) trodAll_mk0)), rfl, bel.frame _, fun h => by cases h⟩

theorem and_i {a b : Bool} (ha : a = true) (hb : b = true) : (a && b) = true := by rw [ha, hb]; rfl
set_option maxHeartbeats 8000000 in
theorem closed : joinedFacts Try.pinned.checked.prog 6 Try.f6 Rows.fnExactDirectProductSpec Rows.fnExactDirectProductRow = true := by
  unfold joinedFacts
  repeat' with_reducible apply and_i
  all_goals as_aux_lemma => kernel_rfl

theorem over : Rows.fnExactDirectProductRow.holds Try.pinned (OpenSpec.ofChange Rows.fnExactDirectProductSpec) :=
  OpenClaim.holds_of_wide 6 Try.f6 rfl rfl rfl rfl rfl rfl rfl ⟨rfl, rfl, rfl, rfl, rfl⟩ rfl rfl rfl rfl rfl (by kernel_rfl) Try.func6 closed
    (of_decide_eq_true (by kernel_rfl)) (by unfold Func.isWrapper; first | (rw [if_pos (by decide +kernel)]; kernel_rfl) | (rw [if_neg (by decide +kernel)]; exact ⟨rfl, rfl⟩))
    (fun os started H enc _ => lifted os started H enc)

/-- The given statement. -/
theorem proved : Rows.FnExactDirectProductSaid := over
#print axioms proved
end Go.Proofs.Ythnpndheaailjaa.fnExactDirectProduct
