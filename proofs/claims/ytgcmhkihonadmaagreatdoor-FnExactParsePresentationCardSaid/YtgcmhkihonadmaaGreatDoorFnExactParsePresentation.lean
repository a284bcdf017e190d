/-
  The law FnExactParsePresentation: for every input the call returns true, and each argument reads behind the call as it read before. No condition.
-/
import Derived.Test.YtgcmhkihonadmaaGreatDoorCards
import Derived.Test.YtgcmhkihonadmaaGreatDoorTie
import Derived.Test.YtgcmhkihonadmaaGreatDoorOpen
import Derived.ProofKit
import Derived.LaidMore
import Derived.Lay
import Derived.MakeChecks
import Derived.OpenShut
import Derived.Stop.Joined
import Derived.SevenTiedAt
import Derived.Test.YtgcmhkihonadmaaGreatDoorPhi
namespace Go.Proofs.YtgcmhkihonadmaaGreatDoor.fnExactParsePresentation
set_option linter.unusedVariables false
set_option linter.unusedSimpArgs false
set_option maxRecDepth 100000
open Go.ChangeShapes Go.WideShapes Go.ChangeAt Go.RowKit
open Go.ChangeMaps (open_string shut_string)
set_option linter.unusedVariables false

set_option maxHeartbeats 8000000 in
set_option maxRecDepth 100000 in
theorem core (aText : ByteArray) (w : World) (baText : aText.size ≤ 9223372036854775807) (hC : Cel w) :
    Calls Tryz.prog 3 #[.string aText] w (RetV w (.bool true)) := by
  have HCel := Lib.hid hC
  clear hC
  by_cases gaText : 1048576 < aText.size
  ·
    go_enter Tryz.func3, Tryz.ntmps3
    go_wp2_with fail
    go_ret
    exact ⟨rfl, Below.refl _ _⟩
  have laText : aText.size ≤ 1048576 := by omega
  have HGaText := Lib.hid gaText
  clear gaText
  go_enter Tryz.func3, Tryz.ntmps3
  go_wp2_with fail
  refine (s_ParsePresentation _ _ (by omega)).mono ?_
  rintro e w1 ⟨v1w0, v2w0, v3w0, rfl, hw0, hb⟩
  have hb0 := hb
  have s1 : w.heap.size ≤ w1.heap.size := hb.size
  clear hb
  obtain ⟨a1w0, n1w0, q1w0, a2w0, n2w0, q2w0, a3w0, n3w0, q3w0, rfl, rfl, rfl⟩ := hw0.formsE
  go_wp2_with fail
  have hb := below_alloc w1 (Obj.cells #[Value.slice a1w0 n1w0 q1w0, Value.slice a2w0 n2w0 q2w0, Value.slice a3w0 n3w0 q3w0] 26)
  have zw0 : w1.heap.size < (w1.alloc (Obj.cells #[Value.slice a1w0 n1w0 q1w0, Value.slice a2w0 n2w0 q2w0, Value.slice a3w0 n3w0 q3w0] 26)).heap.size := by simp
  have M0w0 : Hid ((w1.alloc (Obj.cells #[Value.slice a1w0 n1w0 q1w0, Value.slice a2w0 n2w0 q2w0, Value.slice a3w0 n3w0 q3w0] 26)).cell? ⟨w1.heap.size, 0, none⟩ = some (Value.slice a1w0 n1w0 q1w0)) := by show _ = _; simp [go_sem]
  have M1w0 : Hid ((w1.alloc (Obj.cells #[Value.slice a1w0 n1w0 q1w0, Value.slice a2w0 n2w0 q2w0, Value.slice a3w0 n3w0 q3w0] 26)).cell? ⟨w1.heap.size, 1, none⟩ = some (Value.slice a2w0 n2w0 q2w0)) := by show _ = _; simp [go_sem]
  have M2w0 : Hid ((w1.alloc (Obj.cells #[Value.slice a1w0 n1w0 q1w0, Value.slice a2w0 n2w0 q2w0, Value.slice a3w0 n3w0 q3w0] 26)).cell? ⟨w1.heap.size, 2, none⟩ = some (Value.slice a3w0 n3w0 q3w0)) := by show _ = _; simp [go_sem]
  generalize (w1.alloc (Obj.cells #[Value.slice a1w0 n1w0 q1w0, Value.slice a2w0 n2w0 q2w0, Value.slice a3w0 n3w0 q3w0] 26)) = w2 at *
  have hb0x := below_size hb0 hb
  clear hb0
  have hb0 := hb0x
  clear hb0x
  have s2 : w1.heap.size ≤ w2.heap.size := hb.size
  have t := OP.below hw0 hb
  clear hw0
  have hw0 := t
  clear t
  clear hb
  have m0w0 := M0w0.out
  have m1w0 := M1w0.out
  have m2w0 := M2w0.out
  refine (i_ParsePresentation _ _ (HCel.out.below hb0) (by omega)).mono ?_
  rintro e w3 ⟨v1g0, v2g0, v3g0, rfl, hg0, hb⟩
  have hb0x := below_size hb0 hb
  clear hb0
  have hb0 := hb0x
  clear hb0x
  have s3 : w2.heap.size ≤ w3.heap.size := hb.size
  have t := (hb.cell (p := ⟨w1.heap.size, 0, none⟩) (show w1.heap.size < _ by omega)).trans m0w0
  clear m0w0
  have m0w0 := t
  clear t
  have t := (hb.cell (p := ⟨w1.heap.size, 1, none⟩) (show w1.heap.size < _ by omega)).trans m1w0
  clear m1w0
  have m1w0 := t
  clear t
  have t := (hb.cell (p := ⟨w1.heap.size, 2, none⟩) (show w1.heap.size < _ by omega)).trans m2w0
  clear m2w0
  have m2w0 := t
  clear t
  have t := OP.below hw0 hb
  clear hw0
  have hw0 := t
  clear t
  clear hb
  have llg0 : _ ≤ 1000000000 := len_ParsePresentation aText.data.toList
  obtain ⟨a1g0, n1g0, q1g0, a2g0, n2g0, q2g0, a3g0, n3g0, q3g0, rfl, rfl, rfl⟩ := hg0.formsE
  have yw0 : w1.heap.size < w3.heap.size := by omega
  go_wp2_with fail
  clear yw0
  have hb := below_alloc w3 (Obj.cells #[Value.slice a1g0 n1g0 q1g0, Value.slice a2g0 n2g0 q2g0, Value.slice a3g0 n3g0 q3g0] 26)
  have zg0 : w3.heap.size < (w3.alloc (Obj.cells #[Value.slice a1g0 n1g0 q1g0, Value.slice a2g0 n2g0 q2g0, Value.slice a3g0 n3g0 q3g0] 26)).heap.size := by simp
  have M0g0 : Hid ((w3.alloc (Obj.cells #[Value.slice a1g0 n1g0 q1g0, Value.slice a2g0 n2g0 q2g0, Value.slice a3g0 n3g0 q3g0] 26)).cell? ⟨w3.heap.size, 0, none⟩ = some (Value.slice a1g0 n1g0 q1g0)) := by show _ = _; simp [go_sem]
  have M1g0 : Hid ((w3.alloc (Obj.cells #[Value.slice a1g0 n1g0 q1g0, Value.slice a2g0 n2g0 q2g0, Value.slice a3g0 n3g0 q3g0] 26)).cell? ⟨w3.heap.size, 1, none⟩ = some (Value.slice a2g0 n2g0 q2g0)) := by show _ = _; simp [go_sem]
  have M2g0 : Hid ((w3.alloc (Obj.cells #[Value.slice a1g0 n1g0 q1g0, Value.slice a2g0 n2g0 q2g0, Value.slice a3g0 n3g0 q3g0] 26)).cell? ⟨w3.heap.size, 2, none⟩ = some (Value.slice a3g0 n3g0 q3g0)) := by show _ = _; simp [go_sem]
  generalize (w3.alloc (Obj.cells #[Value.slice a1g0 n1g0 q1g0, Value.slice a2g0 n2g0 q2g0, Value.slice a3g0 n3g0 q3g0] 26)) = w4 at *
  have hb0x := below_size hb0 hb
  clear hb0
  have hb0 := hb0x
  clear hb0x
  have s4 : w3.heap.size ≤ w4.heap.size := hb.size
  have t := (hb.cell (p := ⟨w1.heap.size, 0, none⟩) (show w1.heap.size < _ by omega)).trans m0w0
  clear m0w0
  have m0w0 := t
  clear t
  have t := (hb.cell (p := ⟨w1.heap.size, 1, none⟩) (show w1.heap.size < _ by omega)).trans m1w0
  clear m1w0
  have m1w0 := t
  clear t
  have t := (hb.cell (p := ⟨w1.heap.size, 2, none⟩) (show w1.heap.size < _ by omega)).trans m2w0
  clear m2w0
  have m2w0 := t
  clear t
  have t := OP.below hw0 hb
  clear hw0
  have hw0 := t
  clear t
  have t := OP.below hg0 hb
  clear hg0
  have hg0 := t
  clear t
  clear hb
  have m0g0 := M0g0.out
  have m1g0 := M1g0.out
  have m2g0 := M2g0.out
  refine (l_eqPresentation _ _ _ _ _ _ _ _ hg0.rd hw0.rd).mono ?_
  rintro e w5 ⟨rfl, hb⟩
  have hb0x := below_size hb0 hb
  clear hb0
  have hb0 := hb0x
  clear hb0x
  have s5 : w4.heap.size ≤ w5.heap.size := hb.size
  have t := (hb.cell (p := ⟨w1.heap.size, 0, none⟩) (show w1.heap.size < _ by omega)).trans m0w0
  clear m0w0
  have m0w0 := t
  clear t
  have t := (hb.cell (p := ⟨w1.heap.size, 1, none⟩) (show w1.heap.size < _ by omega)).trans m1w0
  clear m1w0
  have m1w0 := t
  clear t
  have t := (hb.cell (p := ⟨w1.heap.size, 2, none⟩) (show w1.heap.size < _ by omega)).trans m2w0
  clear m2w0
  have m2w0 := t
  clear t
  have t := (hb.cell (p := ⟨w3.heap.size, 0, none⟩) (show w3.heap.size < _ by omega)).trans m0g0
  clear m0g0
  have m0g0 := t
  clear t
  have t := (hb.cell (p := ⟨w3.heap.size, 1, none⟩) (show w3.heap.size < _ by omega)).trans m1g0
  clear m1g0
  have m1g0 := t
  clear t
  have t := (hb.cell (p := ⟨w3.heap.size, 2, none⟩) (show w3.heap.size < _ by omega)).trans m2g0
  clear m2g0
  have m2g0 := t
  clear t
  have t := OP.below hw0 hb
  clear hw0
  have hw0 := t
  clear t
  have t := OP.below hg0 hb
  clear hg0
  have hg0 := t
  clear t
  clear hb
  go_wp2_with fail
  have pcg0 := (psize_le llg0).2.2.2.2.2.2
  refine (l_markPresentation _ _ _ _ _ _ _ hg0 (by omega) (by omega) llg0).mono ?_
  rintro e w6 ⟨rfl, hng0, hg⟩
  clear hg0
  have hg0 := hng0
  clear hng0
  have s6 : w5.heap.size ≤ w6.heap.size := hg.size
  have t := hb0.trans (hg.below (B := w.heap.size) (fun k hk => by have := hk.1; omega) (by omega))
  clear hb0
  have hb0 := t
  clear t
  have t := ((hg.at (b := w1.heap.size) (by omega) (fun hk => by have := hk.1; have := hk.2; omega)).1 0).trans m0w0
  clear m0w0
  have m0w0 := t
  clear t
  have t := ((hg.at (b := w1.heap.size) (by omega) (fun hk => by have := hk.1; have := hk.2; omega)).1 1).trans m1w0
  clear m1w0
  have m1w0 := t
  clear t
  have t := ((hg.at (b := w1.heap.size) (by omega) (fun hk => by have := hk.1; have := hk.2; omega)).1 2).trans m2w0
  clear m2w0
  have m2w0 := t
  clear t
  have t := ((hg.at (b := w3.heap.size) (by omega) (fun hk => by have := hk.1; have := hk.2; omega)).1 0).trans m0g0
  clear m0g0
  have m0g0 := t
  clear t
  have t := ((hg.at (b := w3.heap.size) (by omega) (fun hk => by have := hk.1; have := hk.2; omega)).1 1).trans m1g0
  clear m1g0
  have m1g0 := t
  clear t
  have t := ((hg.at (b := w3.heap.size) (by omega) (fun hk => by have := hk.1; have := hk.2; omega)).1 2).trans m2g0
  clear m2g0
  have m2g0 := t
  clear t
  have t := OP.chg hw0 hg (fun k hk hk2 => by have := hk.1; have := hk.2; have := hk2.1; have := hk2.2; omega)
  clear hw0
  have hw0 := t
  clear t
  clear hg
  go_wp2_with fail
  refine (l_heldPresentation _ _ _ _ _ _ hg0.rd (by omega) (by omega) llg0).mono ?_
  rintro e w7 ⟨rfl, hb⟩
  have hb0x := below_size hb0 hb
  clear hb0
  have hb0 := hb0x
  clear hb0x
  have s7 : w6.heap.size ≤ w7.heap.size := hb.size
  have t := (hb.cell (p := ⟨w1.heap.size, 0, none⟩) (show w1.heap.size < _ by omega)).trans m0w0
  clear m0w0
  have m0w0 := t
  clear t
  have t := (hb.cell (p := ⟨w1.heap.size, 1, none⟩) (show w1.heap.size < _ by omega)).trans m1w0
  clear m1w0
  have m1w0 := t
  clear t
  have t := (hb.cell (p := ⟨w1.heap.size, 2, none⟩) (show w1.heap.size < _ by omega)).trans m2w0
  clear m2w0
  have m2w0 := t
  clear t
  have t := (hb.cell (p := ⟨w3.heap.size, 0, none⟩) (show w3.heap.size < _ by omega)).trans m0g0
  clear m0g0
  have m0g0 := t
  clear t
  have t := (hb.cell (p := ⟨w3.heap.size, 1, none⟩) (show w3.heap.size < _ by omega)).trans m1g0
  clear m1g0
  have m1g0 := t
  clear t
  have t := (hb.cell (p := ⟨w3.heap.size, 2, none⟩) (show w3.heap.size < _ by omega)).trans m2g0
  clear m2g0
  have m2g0 := t
  clear t
  have t := OP.below hw0 hb
  clear hw0
  have hw0 := t
  clear t
  have t := OP.below hg0 hb
  clear hg0
  have hg0 := t
  clear t
  clear hb
  go_wp2_with fail
  refine (i_ParsePresentation _ _ (HCel.out.below hb0) (by omega)).mono ?_
  rintro e w8 ⟨v1h0, v2h0, v3h0, rfl, hh0, hb⟩
  have hb0x := below_size hb0 hb
  clear hb0
  have hb0 := hb0x
  clear hb0x
  have s8 : w7.heap.size ≤ w8.heap.size := hb.size
  have t := (hb.cell (p := ⟨w1.heap.size, 0, none⟩) (show w1.heap.size < _ by omega)).trans m0w0
  clear m0w0
  have m0w0 := t
  clear t
  have t := (hb.cell (p := ⟨w1.heap.size, 1, none⟩) (show w1.heap.size < _ by omega)).trans m1w0
  clear m1w0
  have m1w0 := t
  clear t
  have t := (hb.cell (p := ⟨w1.heap.size, 2, none⟩) (show w1.heap.size < _ by omega)).trans m2w0
  clear m2w0
  have m2w0 := t
  clear t
  have t := (hb.cell (p := ⟨w3.heap.size, 0, none⟩) (show w3.heap.size < _ by omega)).trans m0g0
  clear m0g0
  have m0g0 := t
  clear t
  have t := (hb.cell (p := ⟨w3.heap.size, 1, none⟩) (show w3.heap.size < _ by omega)).trans m1g0
  clear m1g0
  have m1g0 := t
  clear t
  have t := (hb.cell (p := ⟨w3.heap.size, 2, none⟩) (show w3.heap.size < _ by omega)).trans m2g0
  clear m2g0
  have m2g0 := t
  clear t
  have t := OP.below hw0 hb
  clear hw0
  have hw0 := t
  clear t
  have t := OP.below hg0 hb
  clear hg0
  have hg0 := t
  clear t
  clear hb
  have llh0 : _ ≤ 1000000000 := len_ParsePresentation aText.data.toList
  obtain ⟨a1h0, n1h0, q1h0, a2h0, n2h0, q2h0, a3h0, n3h0, q3h0, rfl, rfl, rfl⟩ := hh0.formsE
  have yw0 : w1.heap.size < w8.heap.size := by omega
  have yg0 : w3.heap.size < w8.heap.size := by omega
  go_wp2_with fail
  clear yw0 yg0
  have hb := below_alloc w8 (Obj.cells #[Value.slice a1h0 n1h0 q1h0, Value.slice a2h0 n2h0 q2h0, Value.slice a3h0 n3h0 q3h0] 26)
  have zh0 : w8.heap.size < (w8.alloc (Obj.cells #[Value.slice a1h0 n1h0 q1h0, Value.slice a2h0 n2h0 q2h0, Value.slice a3h0 n3h0 q3h0] 26)).heap.size := by simp
  have M0h0 : Hid ((w8.alloc (Obj.cells #[Value.slice a1h0 n1h0 q1h0, Value.slice a2h0 n2h0 q2h0, Value.slice a3h0 n3h0 q3h0] 26)).cell? ⟨w8.heap.size, 0, none⟩ = some (Value.slice a1h0 n1h0 q1h0)) := by show _ = _; simp [go_sem]
  have M1h0 : Hid ((w8.alloc (Obj.cells #[Value.slice a1h0 n1h0 q1h0, Value.slice a2h0 n2h0 q2h0, Value.slice a3h0 n3h0 q3h0] 26)).cell? ⟨w8.heap.size, 1, none⟩ = some (Value.slice a2h0 n2h0 q2h0)) := by show _ = _; simp [go_sem]
  have M2h0 : Hid ((w8.alloc (Obj.cells #[Value.slice a1h0 n1h0 q1h0, Value.slice a2h0 n2h0 q2h0, Value.slice a3h0 n3h0 q3h0] 26)).cell? ⟨w8.heap.size, 2, none⟩ = some (Value.slice a3h0 n3h0 q3h0)) := by show _ = _; simp [go_sem]
  generalize (w8.alloc (Obj.cells #[Value.slice a1h0 n1h0 q1h0, Value.slice a2h0 n2h0 q2h0, Value.slice a3h0 n3h0 q3h0] 26)) = w9 at *
  have hb0x := below_size hb0 hb
  clear hb0
  have hb0 := hb0x
  clear hb0x
  have s9 : w8.heap.size ≤ w9.heap.size := hb.size
  have t := (hb.cell (p := ⟨w1.heap.size, 0, none⟩) (show w1.heap.size < _ by omega)).trans m0w0
  clear m0w0
  have m0w0 := t
  clear t
  have t := (hb.cell (p := ⟨w1.heap.size, 1, none⟩) (show w1.heap.size < _ by omega)).trans m1w0
  clear m1w0
  have m1w0 := t
  clear t
  have t := (hb.cell (p := ⟨w1.heap.size, 2, none⟩) (show w1.heap.size < _ by omega)).trans m2w0
  clear m2w0
  have m2w0 := t
  clear t
  have t := (hb.cell (p := ⟨w3.heap.size, 0, none⟩) (show w3.heap.size < _ by omega)).trans m0g0
  clear m0g0
  have m0g0 := t
  clear t
  have t := (hb.cell (p := ⟨w3.heap.size, 1, none⟩) (show w3.heap.size < _ by omega)).trans m1g0
  clear m1g0
  have m1g0 := t
  clear t
  have t := (hb.cell (p := ⟨w3.heap.size, 2, none⟩) (show w3.heap.size < _ by omega)).trans m2g0
  clear m2g0
  have m2g0 := t
  clear t
  have t := OP.below hw0 hb
  clear hw0
  have hw0 := t
  clear t
  have t := OP.below hg0 hb
  clear hg0
  have hg0 := t
  clear t
  have t := OP.below hh0 hb
  clear hh0
  have hh0 := t
  clear t
  clear hb
  have m0h0 := M0h0.out
  have m1h0 := M1h0.out
  have m2h0 := M2h0.out
  refine (l_eqPresentation _ _ _ _ _ _ _ _ hh0.rd hw0.rd).mono ?_
  rintro e w10 ⟨rfl, hb⟩
  have hb0x := below_size hb0 hb
  clear hb0
  have hb0 := hb0x
  clear hb0x
  have s10 : w9.heap.size ≤ w10.heap.size := hb.size
  have t := (hb.cell (p := ⟨w1.heap.size, 0, none⟩) (show w1.heap.size < _ by omega)).trans m0w0
  clear m0w0
  have m0w0 := t
  clear t
  have t := (hb.cell (p := ⟨w1.heap.size, 1, none⟩) (show w1.heap.size < _ by omega)).trans m1w0
  clear m1w0
  have m1w0 := t
  clear t
  have t := (hb.cell (p := ⟨w1.heap.size, 2, none⟩) (show w1.heap.size < _ by omega)).trans m2w0
  clear m2w0
  have m2w0 := t
  clear t
  have t := (hb.cell (p := ⟨w3.heap.size, 0, none⟩) (show w3.heap.size < _ by omega)).trans m0g0
  clear m0g0
  have m0g0 := t
  clear t
  have t := (hb.cell (p := ⟨w3.heap.size, 1, none⟩) (show w3.heap.size < _ by omega)).trans m1g0
  clear m1g0
  have m1g0 := t
  clear t
  have t := (hb.cell (p := ⟨w3.heap.size, 2, none⟩) (show w3.heap.size < _ by omega)).trans m2g0
  clear m2g0
  have m2g0 := t
  clear t
  have t := (hb.cell (p := ⟨w8.heap.size, 0, none⟩) (show w8.heap.size < _ by omega)).trans m0h0
  clear m0h0
  have m0h0 := t
  clear t
  have t := (hb.cell (p := ⟨w8.heap.size, 1, none⟩) (show w8.heap.size < _ by omega)).trans m1h0
  clear m1h0
  have m1h0 := t
  clear t
  have t := (hb.cell (p := ⟨w8.heap.size, 2, none⟩) (show w8.heap.size < _ by omega)).trans m2h0
  clear m2h0
  have m2h0 := t
  clear t
  have t := OP.below hw0 hb
  clear hw0
  have hw0 := t
  clear t
  have t := OP.below hg0 hb
  clear hg0
  have hg0 := t
  clear t
  have t := OP.below hh0 hb
  clear hh0
  have hh0 := t
  clear t
  clear hb
  go_wp2_with fail
  refine (l_heldPresentation _ _ _ _ _ _ hg0.rd (by omega) (by omega) llg0).mono ?_
  rintro e w11 ⟨rfl, hb⟩
  have hb0x := below_size hb0 hb
  clear hb0
  have hb0 := hb0x
  clear hb0x
  have s11 : w10.heap.size ≤ w11.heap.size := hb.size
  have t := (hb.cell (p := ⟨w1.heap.size, 0, none⟩) (show w1.heap.size < _ by omega)).trans m0w0
  clear m0w0
  have m0w0 := t
  clear t
  have t := (hb.cell (p := ⟨w1.heap.size, 1, none⟩) (show w1.heap.size < _ by omega)).trans m1w0
  clear m1w0
  have m1w0 := t
  clear t
  have t := (hb.cell (p := ⟨w1.heap.size, 2, none⟩) (show w1.heap.size < _ by omega)).trans m2w0
  clear m2w0
  have m2w0 := t
  clear t
  have t := (hb.cell (p := ⟨w3.heap.size, 0, none⟩) (show w3.heap.size < _ by omega)).trans m0g0
  clear m0g0
  have m0g0 := t
  clear t
  have t := (hb.cell (p := ⟨w3.heap.size, 1, none⟩) (show w3.heap.size < _ by omega)).trans m1g0
  clear m1g0
  have m1g0 := t
  clear t
  have t := (hb.cell (p := ⟨w3.heap.size, 2, none⟩) (show w3.heap.size < _ by omega)).trans m2g0
  clear m2g0
  have m2g0 := t
  clear t
  have t := (hb.cell (p := ⟨w8.heap.size, 0, none⟩) (show w8.heap.size < _ by omega)).trans m0h0
  clear m0h0
  have m0h0 := t
  clear t
  have t := (hb.cell (p := ⟨w8.heap.size, 1, none⟩) (show w8.heap.size < _ by omega)).trans m1h0
  clear m1h0
  have m1h0 := t
  clear t
  have t := (hb.cell (p := ⟨w8.heap.size, 2, none⟩) (show w8.heap.size < _ by omega)).trans m2h0
  clear m2h0
  have m2h0 := t
  clear t
  have t := OP.below hw0 hb
  clear hw0
  have hw0 := t
  clear t
  have t := OP.below hg0 hb
  clear hg0
  have hg0 := t
  clear t
  have t := OP.below hh0 hb
  clear hh0
  have hh0 := t
  clear t
  clear hb
  go_wp2_with fail
  go_ret
  exact ⟨rfl, hb0⟩

theorem own : ownKnob Tryz.prog.godebug = none := by kernel_rfl
theorem laidOut : laidOutB Tryz.prog = true := by kernel_rfl

noncomputable def lst : List (String × DataW Unit) := Rows.fnExactParsePresentationRow.laid
theorem door_met (os : Os) (args : Array Value) : laidMetH Tryz.prog lst ((World.laidAll Tryz.prog os lst).forCall (fun _ _ => 0) ⟨#[], args, []⟩).memory := by
  rw [MakeChecks.laidMetH_plain _ _ _ (by kernel_rfl)]
  exact laidMet_laidAll _ (by kernel_rfl) (by kernel_rfl)
set_option maxRecDepth 100000 in
theorem lifted (os : Os) (started : os.Started) (H : Type) (enc : TypeId × Value → H) :
    ReturnsInHanded {} Tryz.checked os 3 .any (fun w args => (Rows.fnExactParsePresentationSpec.pre enc Tryz.prog Tryz.f3 [] false w args ∧ laidMetH Tryz.prog lst w) ∧ sizedMet enc Tryz.prog Tryz.f3 (OpenSpec.ofChange Rows.fnExactParsePresentationSpec) false w args)
      (Rows.fnExactParsePresentationSpec.post enc Tryz.prog Tryz.f3 false true false false) := by
  refine wrap_shaped (C := Tryz.checked) (X := fun w => laidMetH Tryz.prog lst w) (fun _ _ hh h => h.of_heap hh) own started (by kernel_rfl) Tryz.func3
    (ChangeSpec.witness_shaped (enc := enc) (C := Tryz.checked) (os := os) (X := fun w _ => laidMetH Tryz.prog lst w) false (World.laidAll Tryz.prog os lst) #[.string ByteArray.empty] 8 (World.laidAll_os _ _ _) (World.shaped_of_ZipB (by kernel_rfl) (by kernel_rfl)) (by kernel_rfl) (by kernel_rfl) (by kernel_rfl) (door_met os _)) ?_
  intro W base args ds gs before hval0 hW hLst hShp
  have hval : ∀ (j : Nat) t v, Tryz.f3.params[j]? = some t → args[j]? = some v → Value.okWide Tryz.prog W .any base t v := hval0
  have hW' := hW
  obtain ⟨p, q, hA0, hV, rfl, hfz, hnd⟩ := hW
  have hA : DataW.TrodAll enc Tryz.prog W 0 (fun _ => true) true Tryz.f3.params.toList args.toList ds p := hA0
  rw [Tryz.params3] at hA hval
  obtain ⟨v0, vs0, d0, ds0, p0, q0, hargs, rfl, rfl, h0, r0⟩ := trodAll_cons hA
  obtain ⟨rfl, rfl, rfl⟩ := trodAll_nil r0
  obtain rfl : args = #[v0] := by cases args; simp_all
  obtain ⟨rfl, rfl⟩ := trodVars_none hV
  obtain ⟨a0, rfl, rfl, rfl, f0⟩ := open_string Tryz.underlying9 (hval 0 9 v0 rfl rfl) h0
  clear hA0 hval0
  refine (core a0 W (by have := f0; unfold maxLen at this; omega) (cel_of hLst hShp)).mono fun e W' ⟨he, bel⟩ => ?_
  subst he
  exact ⟨_, rfl, _, _, _, [], _, [], hW', trodAll_mk1 (shut_bool Tryz.underlying4 _), (trodAll_cons_mk (shut_string Tryz.underlying9 f0) trodAll_mk0), rfl, bel.frame _, fun h => by cases h⟩

theorem and_i {a b : Bool} (ha : a = true) (hb : b = true) : (a && b) = true := by rw [ha, hb]; rfl
set_option maxHeartbeats 8000000 in
theorem closed : joinedFacts Tryz.pinned.checked.prog 3 Tryz.f3 Rows.fnExactParsePresentationSpec Rows.fnExactParsePresentationRow = true := by
  unfold joinedFacts
  repeat' with_reducible apply and_i
  all_goals as_aux_lemma => kernel_rfl

theorem over : Rows.fnExactParsePresentationRow.holds Tryz.pinned (OpenSpec.ofChange Rows.fnExactParsePresentationSpec) :=
  OpenClaim.holds_of_wide 3 Tryz.f3 rfl rfl rfl rfl rfl rfl rfl ⟨rfl, rfl, rfl, rfl, rfl⟩ rfl rfl rfl rfl rfl (by kernel_rfl) Tryz.func3 closed
    (of_decide_eq_true (by kernel_rfl)) (by unfold Func.isWrapper; first | (rw [if_pos (by decide +kernel)]; kernel_rfl) | (rw [if_neg (by decide +kernel)]; exact ⟨rfl, rfl⟩))
    (fun os started H enc _ => lifted os started H enc)

theorem row : Rows.FnExactParsePresentationSaid := over
/-- The given statement: the card, closed by its tie. -/
theorem proved : Rows.FnExactParsePresentationCardSaid :=
  Claim7.holds_tied_plain_at .later [] [.data, .data, .data, .data, .sentinel, .sentinel, .pinned] true (true, "783ea7ed9e53a933d34a2421bdafabeabec422438a07209e5719729c26e4be3e") true
    row (fun _ h => by cases h) (by kernel_rfl) (fun _ h => by cases h) fnExactParsePresentation_row_tie rfl ⟨rfl, rfl⟩ (by kernel_rfl) rfl
    (fun f fn hf hfn => by
      obtain rfl : f = 3 := Option.some.inj ((show Tryz.prog.funcNamed Rows.fnExactParsePresentationRow.func = some 3 by kernel_rfl).symm.trans hf) |>.symm
      obtain rfl : fn = Tryz.f3 := (Option.some.inj (Tryz.func3.symm.trans hfn)).symm
      exact ⟨by kernel_rfl, fun j t ht => by
        have hm : t ∈ Tryz.f3.params.toList := by simpa using Array.mem_of_getElem? ht
        have hall : (Tryz.f3.params.toList.all fun u => !Tryz.prog.wantsStandIn u) = true := by kernel_rfl
        exact (show Tryz.prog.wantsStandIn t = false by simpa using List.all_eq_true.1 hall t hm)⟩)
    (by kernel_rfl)
#print axioms proved
end Go.Proofs.YtgcmhkihonadmaaGreatDoor.fnExactParsePresentation
