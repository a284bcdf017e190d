/-
  What the row's list and the world's shape give the walk: the table of powers (numbers are written as numerals), the cell of bytealg.MaxLen.
-/
import Derived.Test.YtnedihpppbjmdaaGreatDoorWrp
import Derived.Test.YtnedihpppbjmdaaGreatDoorAgh
import Derived.Stop.LaidErr
import Derived.Shelf.Vars
import Derived.MakeChecks
import Derived.LaidLaws
import Derived.Lib.LaidTab
namespace Go.Proofs.YtnedihpppbjmdaaGreatDoor
set_option linter.unusedVariables false
set_option linter.unusedSimpArgs false
set_option maxRecDepth 100000
open Go Go.RowKit

--== strconv.FormatInt
theorem max_of {W : World} (hs : W.ShapedOpen Tryz.prog) : MaxL W :=
  cell_of_shapedOpen_int (t := 3) (zero := #[.int .i64 0]) hs (of_decide_eq_true (by kernel_rfl)) (by kernel_rfl) rfl (by kernel_rfl) (by kernel_rfl) Tryz.underlying3
theorem tab_eq : (Rows.laid_internal_strconv_uint64pow10 : DataW Unit) = Lib.tabData .u64 Lib.pow10Tab := by kernel_rfl
set_option maxRecDepth 100000 in
/-- numbers are written as numerals where the table of powers lies -/
theorem fmt_of {W : World} (hL : laidMetH Tryz.prog Rows.fnPrimaryRow.laid W) : FmtOK W := by
  rw [MakeChecks.laidMetH_plain _ _ _ (by kernel_rfl)] at hL
  have h : laidMet Tryz.prog (_ :: _ :: (_, Rows.laid_internal_strconv_uint64pow10) :: _) W := hL
  have h2 := h.tail.tail
  rw [tab_eq] at h2
  have ht := Lib.tabIs_of_head (g := 2) (t := 136) (e := 88) (n := 20) (by kernel_rfl) (by kernel_rfl) Tryz.underlying136 Tryz.underlying88 (by kernel_rfl) (by kernel_rfl) h2
  intro wx hb f hf
  have hc : Calls Tryz.prog 37 #[.int .i64 (f : Int), .int .i64 10] wx fun e w' => e = .returned (.string ⟨(Lib.itoa (f : Int)).toArray⟩) ∧ ∃ k os, w' = Go.Sort.grow (wx.drewN k) os :=
    Any.strconv_FormatInt_10 Tryz.laysM173 (f : Int) (by omega) (by omega) wx (tab_below (g := 2) (by kernel_rfl) ht hb)
  refine hc.mono ?_
  rintro e w' ⟨rfl, k, os, rfl⟩
  exact ⟨_, rfl, by rw [ba_of, Lib.itoa_nonneg], below_grow wx k os⟩
end Go.Proofs.YtnedihpppbjmdaaGreatDoor
