/-
  The law FnExactEvaluateBijections: for every input the call returns true, and each argument reads behind the call as it read before. No condition.
-/
import Derived.Test.YtodlagikdofjfaaOpen
import Derived.Test.YtodlagikdofjfaaEvalB
namespace Go.Proofs.Ytodlagikdofjfaa.fnExactEvaluateBijections
set_option linter.unusedVariables false
set_option linter.unusedSimpArgs false
set_option maxRecDepth 100000
open Go.ChangeShapes Go.WideShapes Go.ChangeAt Go.RowKit
open Go.ChangeMaps (open_string shut_string)
set_option linter.unusedVariables false

set_option maxHeartbeats 8000000 in
set_option maxRecDepth 100000 in
theorem core (vaW : Value) (aW : List Int) (vaList : Value) (aList : List (List Int)) (w : World) (haW : Rd w vaW aW) (haList : Rd2 w vaList aList) :
    Calls Try.prog 5 #[vaW, vaList] w (RetV w (.bool true)) := by
  obtain ⟨aoaW, capaW, eaW, c1aW, c2aW, _⟩ := id haW
  subst eaW
  obtain ⟨aoaList, capaList, eaList, c1aList, c2aList⟩ := haList.form
  subst eaList
  have HEaW := Lib.hid haW
  clear haW
  have HEaList := Lib.hid haList
  clear haList
  by_cases gaW : 1048576 < aW.length
  ·
    go_enter Try.func5, Try.ntmps5
    go_wp2_with fail
    go_ret
    exact ⟨rfl, Below.refl _ _⟩
  have laW : aW.length ≤ 1048576 := by omega
  have HGaW := Lib.hid gaW
  clear gaW
  by_cases gaList : ((size2 aList : Nat) : Int) ≤ 1048576
  case neg =>
    have SNaList := Lib.hid (szI_out gaList)
    go_enter Try.func5, Try.ntmps5
    go_wp2_with fail
    refine (l_szInt64SS _ aList _ _ HEaList.out (by omega) (by omega)).mono ?_
    rintro e w' ⟨rfl, rfl⟩
    rw [SNaList.out]
    go_wp2_with fail
    go_ret
    exact ⟨rfl, Below.refl _ _⟩
  have SZaList := Lib.hid (szI_in gaList)
  have laList : size2 aList ≤ 1048576 := by omega
  have l2aList : aList.length ≤ 1048576 ∧ (cat aList).length ≤ 1048576 := by unfold size2 at laList; omega
  go_enter Try.func5, Try.ntmps5
  go_wp2_with fail
  refine (l_szInt64SS _ aList _ _ HEaList.out (by omega) (by omega)).mono ?_
  rintro e w' ⟨rfl, rfl⟩
  rw [SZaList.out]
  go_wp2_with fail
  refine (l_toInt64S _ aW _ HEaW.out (by omega)).mono ?_
  rintro e w1 ⟨vc1, rfl, hc1x, hb⟩
  have hc1 := hc1x.o1
  clear hc1x
  have hb0 := hb
  have s1 : w.heap.size ≤ w1.heap.size := hb.size
  clear hb
  go_wp2_with fail
  refine (l_toInt64SS _ aList _ (HEaList.out.below hb0) (by omega) (by omega)).mono ?_
  rintro e w2 ⟨vc2, rfl, hc2, hb⟩
  have hb0x := below_size hb0 hb
  clear hb0
  have hb0 := hb0x
  clear hb0x
  have s2 : w1.heap.size ≤ w2.heap.size := hb.size
  have t := local_O1.below hc1 hb
  clear hc1
  have hc1 := t
  clear t
  clear hb
  go_wp2_with fail
  refine (s_EvaluateBijections _ _ _ _ _ hc1.rd hc2.rd).mono ?_
  rintro e w3 ⟨vw0, rfl, hw0x, hb⟩
  have hw0 := hw0x.o1
  clear hw0x
  have hb0x := below_size hb0 hb
  clear hb0
  have hb0 := hb0x
  clear hb0x
  have s3 : w2.heap.size ≤ w3.heap.size := hb.size
  have t := local_O1.below hc1 hb
  clear hc1
  have hc1 := t
  clear t
  have t := local_O2.below hc2 hb
  clear hc2
  have hc2 := t
  clear t
  clear hb
  obtain ⟨aw0, qw0, rfl, _, _⟩ := hw0.rd.form
  go_wp2_with fail
  refine (l_toInt64S _ aW _ (HEaW.out.below hb0) (by omega)).mono ?_
  rintro e w4 ⟨vc3, rfl, hc3x, hb⟩
  have hc3 := hc3x.o1
  clear hc3x
  have hb0x := below_size hb0 hb
  clear hb0
  have hb0 := hb0x
  clear hb0x
  have s4 : w3.heap.size ≤ w4.heap.size := hb.size
  have t := local_O1.below hc1 hb
  clear hc1
  have hc1 := t
  clear t
  have t := local_O2.below hc2 hb
  clear hc2
  have hc2 := t
  clear t
  have t := local_O1.below hw0 hb
  clear hw0
  have hw0 := t
  clear t
  clear hb
  have llc3 : aW.length ≤ 1000000000 := by omega
  go_wp2_with fail
  refine (l_toInt64SS _ aList _ (HEaList.out.below hb0) (by omega) (by omega)).mono ?_
  rintro e w5 ⟨vc4, rfl, hc4, hb⟩
  have hb0x := below_size hb0 hb
  clear hb0
  have hb0 := hb0x
  clear hb0x
  have s5 : w4.heap.size ≤ w5.heap.size := hb.size
  have t := local_O1.below hc1 hb
  clear hc1
  have hc1 := t
  clear t
  have t := local_O2.below hc2 hb
  clear hc2
  have hc2 := t
  clear t
  have t := local_O1.below hw0 hb
  clear hw0
  have hw0 := t
  clear t
  have t := local_O1.below hc3 hb
  clear hc3
  have hc3 := t
  clear t
  clear hb
  have llc4 : size2 aList ≤ 1000000000 := by omega
  go_wp2_with fail
  refine (i_EvaluateBijections _ _ _ _ _ hc3.rd hc4.rd).mono ?_
  rintro e w6 ⟨vg0, rfl, hg0x, hb⟩
  have hg0 := hg0x.o1
  clear hg0x
  have hb0x := below_size hb0 hb
  clear hb0
  have hb0 := hb0x
  clear hb0x
  have s6 : w5.heap.size ≤ w6.heap.size := hb.size
  have t := local_O1.below hc1 hb
  clear hc1
  have hc1 := t
  clear t
  have t := local_O2.below hc2 hb
  clear hc2
  have hc2 := t
  clear t
  have t := local_O1.below hw0 hb
  clear hw0
  have hw0 := t
  clear t
  have t := local_O1.below hc3 hb
  clear hc3
  have hc3 := t
  clear t
  have t := local_O2.below hc4 hb
  clear hc4
  have hc4 := t
  clear t
  clear hb
  have llg0 : _ ≤ 1000000000 := len_EvaluateBijections aW aList
  obtain ⟨ag0, qg0, rfl, _, _⟩ := hg0.rd.form
  go_wp2_with fail
  refine (l_eqInt64S_same _ _ _ _ hg0.rd hw0.rd).mono ?_
  rintro e w7 ⟨rfl, hb⟩
  have hb0x := below_size hb0 hb
  clear hb0
  have hb0 := hb0x
  clear hb0x
  have s7 : w6.heap.size ≤ w7.heap.size := hb.size
  have t := local_O1.below hc1 hb
  clear hc1
  have hc1 := t
  clear t
  have t := local_O2.below hc2 hb
  clear hc2
  have hc2 := t
  clear t
  have t := local_O1.below hw0 hb
  clear hw0
  have hw0 := t
  clear t
  have t := local_O1.below hc3 hb
  clear hc3
  have hc3 := t
  clear t
  have t := local_O2.below hc4 hb
  clear hc4
  have hc4 := t
  clear t
  have t := local_O1.below hg0 hb
  clear hg0
  have hg0 := t
  clear t
  clear hb
  go_wp2_with fail
  refine (l_toInt64S _ aW _ (HEaW.out.below hb0) (by omega)).mono ?_
  rintro e w8 ⟨vc5, rfl, hc5x, hb⟩
  have hc5 := hc5x.o1
  clear hc5x
  have hb0x := below_size hb0 hb
  clear hb0
  have hb0 := hb0x
  clear hb0x
  have s8 : w7.heap.size ≤ w8.heap.size := hb.size
  have t := local_O1.below hc1 hb
  clear hc1
  have hc1 := t
  clear t
  have t := local_O2.below hc2 hb
  clear hc2
  have hc2 := t
  clear t
  have t := local_O1.below hw0 hb
  clear hw0
  have hw0 := t
  clear t
  have t := local_O1.below hc3 hb
  clear hc3
  have hc3 := t
  clear t
  have t := local_O2.below hc4 hb
  clear hc4
  have hc4 := t
  clear t
  have t := local_O1.below hg0 hb
  clear hg0
  have hg0 := t
  clear t
  clear hb
  go_wp2_with fail
  refine (l_eqInt64S_same _ _ _ _ hc3.rd hc5.rd).mono ?_
  rintro e w9 ⟨rfl, hb⟩
  have hb0x := below_size hb0 hb
  clear hb0
  have hb0 := hb0x
  clear hb0x
  have s9 : w8.heap.size ≤ w9.heap.size := hb.size
  have t := local_O1.below hc1 hb
  clear hc1
  have hc1 := t
  clear t
  have t := local_O2.below hc2 hb
  clear hc2
  have hc2 := t
  clear t
  have t := local_O1.below hw0 hb
  clear hw0
  have hw0 := t
  clear t
  have t := local_O1.below hc3 hb
  clear hc3
  have hc3 := t
  clear t
  have t := local_O2.below hc4 hb
  clear hc4
  have hc4 := t
  clear t
  have t := local_O1.below hg0 hb
  clear hg0
  have hg0 := t
  clear t
  have t := local_O1.below hc5 hb
  clear hc5
  have hc5 := t
  clear t
  clear hb
  clear hc5
  go_wp2_with fail
  refine (l_toInt64SS _ aList _ (HEaList.out.below hb0) (by omega) (by omega)).mono ?_
  rintro e w10 ⟨vc6, rfl, hc6, hb⟩
  have hb0x := below_size hb0 hb
  clear hb0
  have hb0 := hb0x
  clear hb0x
  have s10 : w9.heap.size ≤ w10.heap.size := hb.size
  have t := local_O1.below hc1 hb
  clear hc1
  have hc1 := t
  clear t
  have t := local_O2.below hc2 hb
  clear hc2
  have hc2 := t
  clear t
  have t := local_O1.below hw0 hb
  clear hw0
  have hw0 := t
  clear t
  have t := local_O1.below hc3 hb
  clear hc3
  have hc3 := t
  clear t
  have t := local_O2.below hc4 hb
  clear hc4
  have hc4 := t
  clear t
  have t := local_O1.below hg0 hb
  clear hg0
  have hg0 := t
  clear t
  clear hb
  go_wp2_with fail
  refine (l_eqInt64SS_same _ _ _ _ hc4.rd hc6.rd).mono ?_
  rintro e w11 ⟨rfl, hb⟩
  have hb0x := below_size hb0 hb
  clear hb0
  have hb0 := hb0x
  clear hb0x
  have s11 : w10.heap.size ≤ w11.heap.size := hb.size
  have t := local_O1.below hc1 hb
  clear hc1
  have hc1 := t
  clear t
  have t := local_O2.below hc2 hb
  clear hc2
  have hc2 := t
  clear t
  have t := local_O1.below hw0 hb
  clear hw0
  have hw0 := t
  clear t
  have t := local_O1.below hc3 hb
  clear hc3
  have hc3 := t
  clear t
  have t := local_O2.below hc4 hb
  clear hc4
  have hc4 := t
  clear t
  have t := local_O1.below hg0 hb
  clear hg0
  have hg0 := t
  clear t
  have t := local_O2.below hc6 hb
  clear hc6
  have hc6 := t
  clear t
  clear hb
  clear hc6
  go_wp2_with fail
  refine (l_markO1 _ _ _ _ _ hc3 (by omega) (by omega) llc3).mono ?_
  rintro e w12 ⟨rfl, hnc3, hg, hsz⟩
  clear hsz
  clear hc3
  have hc3 := hnc3
  clear hnc3
  have s12 : w11.heap.size ≤ w12.heap.size := hg.size
  have t := hb0.trans (hg.below (B := w.heap.size) (fun k hk => by have := hk.1; omega) (by omega))
  clear hb0
  have hb0 := t
  clear t
  have t := local_O1.chg hc1 hg (fun k hk hk2 => by have := hk.1; have := hk.2; have := hk2.1; have := hk2.2; omega)
  clear hc1
  have hc1 := t
  clear t
  have t := local_O2.chg hc2 hg (fun k hk hk2 => by have := hk.1; have := hk.2; have := hk2.1; have := hk2.2; omega)
  clear hc2
  have hc2 := t
  clear t
  have t := local_O1.chg hw0 hg (fun k hk hk2 => by have := hk.1; have := hk.2; have := hk2.1; have := hk2.2; omega)
  clear hw0
  have hw0 := t
  clear t
  have t := local_O2.chg hc4 hg (fun k hk hk2 => by have := hk.1; have := hk.2; have := hk2.1; have := hk2.2; omega)
  clear hc4
  have hc4 := t
  clear t
  have t := local_O1.chg hg0 hg (fun k hk hk2 => by have := hk.1; have := hk.2; have := hk2.1; have := hk2.2; omega)
  clear hg0
  have hg0 := t
  clear t
  clear hg
  go_wp2_with fail
  refine (l_markInt64SS _ _ _ _ _ hc4 (by omega) (by omega) (by unfold size2 at llc4; omega) (by unfold size2 at llc4; omega)).mono ?_
  rintro e w13 ⟨rfl, hnc4, hg, hsz⟩
  clear hsz
  clear hc4
  have hc4 := hnc4
  clear hnc4
  have s13 : w12.heap.size ≤ w13.heap.size := hg.size
  have t := hb0.trans (hg.below (B := w.heap.size) (fun k hk => by have := hk.1; omega) (by omega))
  clear hb0
  have hb0 := t
  clear t
  have t := local_O1.chg hc1 hg (fun k hk hk2 => by have := hk.1; have := hk.2; have := hk2.1; have := hk2.2; omega)
  clear hc1
  have hc1 := t
  clear t
  have t := local_O2.chg hc2 hg (fun k hk hk2 => by have := hk.1; have := hk.2; have := hk2.1; have := hk2.2; omega)
  clear hc2
  have hc2 := t
  clear t
  have t := local_O1.chg hw0 hg (fun k hk hk2 => by have := hk.1; have := hk.2; have := hk2.1; have := hk2.2; omega)
  clear hw0
  have hw0 := t
  clear t
  have t := local_O1.chg hc3 hg (fun k hk hk2 => by have := hk.1; have := hk.2; have := hk2.1; have := hk2.2; omega)
  clear hc3
  have hc3 := t
  clear t
  have t := local_O1.chg hg0 hg (fun k hk hk2 => by have := hk.1; have := hk.2; have := hk2.1; have := hk2.2; omega)
  clear hg0
  have hg0 := t
  clear t
  clear hg
  go_wp2_with fail
  refine (l_eqInt64S_same _ _ _ _ hg0.rd hw0.rd).mono ?_
  rintro e w14 ⟨rfl, hb⟩
  have hb0x := below_size hb0 hb
  clear hb0
  have hb0 := hb0x
  clear hb0x
  have s14 : w13.heap.size ≤ w14.heap.size := hb.size
  have t := local_O1.below hc1 hb
  clear hc1
  have hc1 := t
  clear t
  have t := local_O2.below hc2 hb
  clear hc2
  have hc2 := t
  clear t
  have t := local_O1.below hw0 hb
  clear hw0
  have hw0 := t
  clear t
  have t := local_O1.below hc3 hb
  clear hc3
  have hc3 := t
  clear t
  have t := local_O2.below hc4 hb
  clear hc4
  have hc4 := t
  clear t
  have t := local_O1.below hg0 hb
  clear hg0
  have hg0 := t
  clear t
  clear hb
  go_wp2_with fail
  refine (l_markO1 _ _ _ _ _ hg0 (by omega) (by omega) llg0).mono ?_
  rintro e w15 ⟨rfl, hng0, hg, hsz⟩
  clear hsz
  clear hg0
  have hg0 := hng0
  clear hng0
  have s15 : w14.heap.size ≤ w15.heap.size := hg.size
  have t := hb0.trans (hg.below (B := w.heap.size) (fun k hk => by have := hk.1; omega) (by omega))
  clear hb0
  have hb0 := t
  clear t
  have t := local_O1.chg hc1 hg (fun k hk hk2 => by have := hk.1; have := hk.2; have := hk2.1; have := hk2.2; omega)
  clear hc1
  have hc1 := t
  clear t
  have t := local_O2.chg hc2 hg (fun k hk hk2 => by have := hk.1; have := hk.2; have := hk2.1; have := hk2.2; omega)
  clear hc2
  have hc2 := t
  clear t
  have t := local_O1.chg hw0 hg (fun k hk hk2 => by have := hk.1; have := hk.2; have := hk2.1; have := hk2.2; omega)
  clear hw0
  have hw0 := t
  clear t
  have t := local_O1.chg hc3 hg (fun k hk hk2 => by have := hk.1; have := hk.2; have := hk2.1; have := hk2.2; omega)
  clear hc3
  have hc3 := t
  clear t
  have t := local_O2.chg hc4 hg (fun k hk hk2 => by have := hk.1; have := hk.2; have := hk2.1; have := hk2.2; omega)
  clear hc4
  have hc4 := t
  clear t
  clear hg
  go_wp2_with fail
  refine (l_heldInt64S _ _ _ _ hg0.rd (by omega) (by omega) llg0).mono ?_
  rintro e w' ⟨rfl, rfl⟩
  go_wp2_with fail
  refine (l_toInt64S _ aW _ (HEaW.out.below hb0) (by omega)).mono ?_
  rintro e w16 ⟨vc7, rfl, hc7x, hb⟩
  have hc7 := hc7x.o1
  clear hc7x
  have hb0x := below_size hb0 hb
  clear hb0
  have hb0 := hb0x
  clear hb0x
  have s16 : w15.heap.size ≤ w16.heap.size := hb.size
  have t := local_O1.below hc1 hb
  clear hc1
  have hc1 := t
  clear t
  have t := local_O2.below hc2 hb
  clear hc2
  have hc2 := t
  clear t
  have t := local_O1.below hw0 hb
  clear hw0
  have hw0 := t
  clear t
  have t := local_O1.below hc3 hb
  clear hc3
  have hc3 := t
  clear t
  have t := local_O2.below hc4 hb
  clear hc4
  have hc4 := t
  clear t
  have t := local_O1.below hg0 hb
  clear hg0
  have hg0 := t
  clear t
  clear hb
  go_wp2_with fail
  refine (l_toInt64SS _ aList _ (HEaList.out.below hb0) (by omega) (by omega)).mono ?_
  rintro e w17 ⟨vc8, rfl, hc8, hb⟩
  have hb0x := below_size hb0 hb
  clear hb0
  have hb0 := hb0x
  clear hb0x
  have s17 : w16.heap.size ≤ w17.heap.size := hb.size
  have t := local_O1.below hc1 hb
  clear hc1
  have hc1 := t
  clear t
  have t := local_O2.below hc2 hb
  clear hc2
  have hc2 := t
  clear t
  have t := local_O1.below hw0 hb
  clear hw0
  have hw0 := t
  clear t
  have t := local_O1.below hc3 hb
  clear hc3
  have hc3 := t
  clear t
  have t := local_O2.below hc4 hb
  clear hc4
  have hc4 := t
  clear t
  have t := local_O1.below hg0 hb
  clear hg0
  have hg0 := t
  clear t
  have t := local_O1.below hc7 hb
  clear hc7
  have hc7 := t
  clear t
  clear hb
  go_wp2_with fail
  refine (i_EvaluateBijections _ _ _ _ _ hc7.rd hc8.rd).mono ?_
  rintro e w18 ⟨vh0, rfl, hh0x, hb⟩
  have hh0 := hh0x.o1
  clear hh0x
  have hb0x := below_size hb0 hb
  clear hb0
  have hb0 := hb0x
  clear hb0x
  have s18 : w17.heap.size ≤ w18.heap.size := hb.size
  have t := local_O1.below hc1 hb
  clear hc1
  have hc1 := t
  clear t
  have t := local_O2.below hc2 hb
  clear hc2
  have hc2 := t
  clear t
  have t := local_O1.below hw0 hb
  clear hw0
  have hw0 := t
  clear t
  have t := local_O1.below hc3 hb
  clear hc3
  have hc3 := t
  clear t
  have t := local_O2.below hc4 hb
  clear hc4
  have hc4 := t
  clear t
  have t := local_O1.below hg0 hb
  clear hg0
  have hg0 := t
  clear t
  have t := local_O1.below hc7 hb
  clear hc7
  have hc7 := t
  clear t
  have t := local_O2.below hc8 hb
  clear hc8
  have hc8 := t
  clear t
  clear hb
  have llh0 : _ ≤ 1000000000 := len_EvaluateBijections aW aList
  obtain ⟨ah0, qh0, rfl, _, _⟩ := hh0.rd.form
  go_wp2_with fail
  refine (l_eqInt64S_same _ _ _ _ hh0.rd hw0.rd).mono ?_
  rintro e w19 ⟨rfl, hb⟩
  have hb0x := below_size hb0 hb
  clear hb0
  have hb0 := hb0x
  clear hb0x
  have s19 : w18.heap.size ≤ w19.heap.size := hb.size
  have t := local_O1.below hc1 hb
  clear hc1
  have hc1 := t
  clear t
  have t := local_O2.below hc2 hb
  clear hc2
  have hc2 := t
  clear t
  have t := local_O1.below hw0 hb
  clear hw0
  have hw0 := t
  clear t
  have t := local_O1.below hc3 hb
  clear hc3
  have hc3 := t
  clear t
  have t := local_O2.below hc4 hb
  clear hc4
  have hc4 := t
  clear t
  have t := local_O1.below hg0 hb
  clear hg0
  have hg0 := t
  clear t
  have t := local_O1.below hc7 hb
  clear hc7
  have hc7 := t
  clear t
  have t := local_O2.below hc8 hb
  clear hc8
  have hc8 := t
  clear t
  have t := local_O1.below hh0 hb
  clear hh0
  have hh0 := t
  clear t
  clear hb
  go_wp2_with fail
  refine (l_heldInt64S _ _ _ _ hg0.rd (by omega) (by omega) llg0).mono ?_
  rintro e w' ⟨rfl, rfl⟩
  go_wp2_with fail
  go_ret
  exact ⟨rfl, hb0⟩

theorem own : ownKnob Try.prog.godebug = none := by kernel_rfl
theorem laidOut : laidOutB Try.prog = true := by kernel_rfl

set_option maxRecDepth 100000 in
theorem lifted (os : Os) (started : os.Started) (H : Type) (enc : TypeId × Value → H) :
    ReturnsInHanded {} Try.checked os 5 .any (Rows.fnExactEvaluateBijectionsSpec.pre6 enc Try.prog Try.f5 Rows.fnExactEvaluateBijectionsRow.domain false) (Rows.fnExactEvaluateBijectionsSpec.post enc Try.prog Try.f5 false true false false) := by
  refine returnsInHanded_of_change (C := Try.checked) own started (by kernel_rfl) Try.func5
    (ChangeSpec.witness6 (enc := enc) (C := Try.checked) false ⟨#[], #[.slice none 0 0, .slice none 0 0], []⟩ 8 (by kernel_rfl) (by kernel_rfl) (by kernel_rfl) (by kernel_rfl)) ?_
  intro W base args ds gs before hval0 hW hcnd _
  have hval : ∀ (j : Nat) t v, Try.f5.params[j]? = some t → args[j]? = some v → Value.okWide Try.prog W .any base t v := hval0
  have hW' := hW
  obtain ⟨p, q, hA0, hV, rfl, hfz, hnd⟩ := hW
  have hA : DataW.TrodAll enc Try.prog W 0 (fun _ => true) true Try.f5.params.toList args.toList ds p := hA0
  rw [Try.params5] at hA hval
  obtain ⟨v0, vs0, d0, ds0, p0, q0, hargs, rfl, rfl, h0, r0⟩ := trodAll_cons hA
  obtain ⟨v1, vs1, d1, ds1, p1, q1, rfl, rfl, rfl, h1, r1⟩ := trodAll_cons r0
  obtain ⟨rfl, rfl, rfl⟩ := trodAll_nil r1
  obtain rfl : args = #[v0, v1] := by cases args; simp_all
  obtain ⟨rfl, rfl⟩ := trodVars_none hV
  obtain ⟨a0, len0, cap0, rfl⟩ := okWide_slice Try.underlying22 (hval 0 22 v0 rfl rfl)
  have k0 := h0
  have lt0 : ∀ x ∈ p0, x.block < W.heap.size := by obtain ⟨m, hm⟩ := k0; exact DataW.trod_lt m _ _ _ hm
  obtain ⟨xs0, f0⟩ := (by obtain ⟨fuel, hf⟩ := h0; exact rd1_of hf : ∃ xs, Rd W (.slice a0 len0 cap0) xs)
  obtain ⟨a1, len1, cap1, rfl⟩ := okWide_slice Try.underlying23 (hval 1 23 v1 rfl rfl)
  have k1 := h1
  have lt1 : ∀ x ∈ p1, x.block < W.heap.size := by obtain ⟨m, hm⟩ := k1; exact DataW.trod_lt m _ _ _ hm
  obtain ⟨xs1, f1⟩ := (by obtain ⟨fuel, hf⟩ := h1; exact rd2_of hf : ∃ xs, Rd2 W (.slice a1 len1 cap1) xs)
  clear hA0 hval0
  refine (core _ xs0 _ xs1 W f0 f1).mono fun e W' ⟨he, bel⟩ => ?_
  subst he
  exact ⟨_, rfl, _, _, _, [], _, [], hW', trodAll_mk1 (shut_bool Try.underlying4 _), (trodAll_cons_mk (Below.trod laidOut (by kernel_rfl) (of_decide_eq_true (by kernel_rfl)) k0 bel lt0) (trodAll_cons_mk (Below.trod laidOut (by kernel_rfl) (of_decide_eq_true (by kernel_rfl)) k1 bel lt1) trodAll_mk0)), rfl, bel.frame _, fun h => by cases h⟩

theorem over : Rows.fnExactEvaluateBijectionsRow.holds Try.pinned (OpenSpec.ofChange Rows.fnExactEvaluateBijectionsSpec) :=
  OpenClaim.holds_of_wide 5 Try.f5 rfl rfl rfl rfl rfl rfl rfl ⟨rfl, rfl, rfl, rfl, rfl⟩ rfl rfl rfl rfl rfl (by kernel_rfl) Try.func5 (by kernel_rfl)
    (of_decide_eq_true (by kernel_rfl)) (by unfold Func.isWrapper; first | (rw [if_pos (by decide +kernel)]; kernel_rfl) | (rw [if_neg (by decide +kernel)]; exact ⟨rfl, rfl⟩))
    (fun os started H enc _ => lifted os started H enc)

/-- The given statement. -/
theorem proved : Rows.FnExactEvaluateBijectionsSaid := over
#print axioms proved
end Go.Proofs.Ytodlagikdofjfaa.fnExactEvaluateBijections
