/-
  What the row's list and the world's shape give a walk: the errors' cells, the cell of bytealg.MaxLen.
-/
import Derived.Test.YtgcmhkihonadmaaGreatDoorWrp
import Derived.Test.YtgcmhkihonadmaaGreatDoorShf
import Derived.Stop.LaidErr
import Derived.Shelf.Vars
import Derived.MakeChecks
import Derived.LaidLaws
namespace Go.Proofs.YtgcmhkihonadmaaGreatDoor
set_option linter.unusedVariables false
set_option linter.unusedSimpArgs false
set_option maxRecDepth 100000
open Go Go.RowKit

/-- the three cells that the library's functions read -/
structure Cel (w : World) : Prop where
  e0 : ∃ te pe, w.cell? ⟨0, 0, none⟩ = some (.iface te pe)
  e1 : ∃ te pe, w.cell? ⟨1, 0, none⟩ = some (.iface te pe)
  m2 : ∃ m, w.cell? ⟨2, 0, none⟩ = some (.int .i64 m)
theorem Cel.below {w w' : World} (h : Cel w) (hb : Below w.heap.size w w') : Cel w' := by
  obtain ⟨a, b, h0⟩ := h.e0
  obtain ⟨c, d, h1⟩ := h.e1
  obtain ⟨m, h2⟩ := h.m2
  exact ⟨⟨a, b, (hb.cell (World.block_lt_of_cell? w _ h0)).trans h0⟩, ⟨c, d, (hb.cell (World.block_lt_of_cell? w _ h1)).trans h1⟩, ⟨m, (hb.cell (World.block_lt_of_cell? w _ h2)).trans h2⟩⟩
set_option maxRecDepth 100000 in
theorem cel_of {W : World} (hL : laidMetH Tryz.prog Rows.fnExactParsePresentationRow.laid W) (hs : W.ShapedOpen Tryz.prog) : Cel W := by
  rw [MakeChecks.laidMetH_plain _ _ _ (by kernel_rfl)] at hL
  have hL4 := hL.tail.tail.tail.tail
  obtain ⟨a1, t1, hv1, _⟩ := laid_sentinel (g := 1) hL4 (by kernel_rfl) (by kernel_rfl) Tryz.underlying63 (fun u h => typeName_ptr_named (nm := "errors.errorString") (tp := 115) (by kernel_rfl) (by kernel_rfl) (by decide) u (h.trans (congrArg some (by decide)))) Tryz.underlying115 Tryz.underlying117 rfl rfl Tryz.underlying9 (by kernel_rfl) (by kernel_rfl)
  obtain ⟨a0, t0, hv0, _⟩ := laid_sentinel (g := 0) hL4.tail (by kernel_rfl) (by kernel_rfl) Tryz.underlying63 (fun u h => typeName_ptr_named (nm := "errors.errorString") (tp := 115) (by kernel_rfl) (by kernel_rfl) (by decide) u (h.trans (congrArg some (by decide)))) Tryz.underlying115 Tryz.underlying117 rfl rfl Tryz.underlying9 (by kernel_rfl) (by kernel_rfl)
  have g1 : Tryz.prog.globalNamed "strconv.ErrRange" = some 1 := by kernel_rfl
  have g0 : Tryz.prog.globalNamed "strconv.ErrSyntax" = some 0 := by kernel_rfl
  have c0 : W.cell? ⟨0, 0, none⟩ = some (.iface 115 (.pointer (some a0))) := by simpa using World.var?_cell g0 hv0 0
  have c1 : W.cell? ⟨1, 0, none⟩ = some (.iface 115 (.pointer (some a1))) := by simpa using World.var?_cell g1 hv1 0
  exact ⟨⟨_, _, c0⟩, ⟨_, _, c1⟩, cell_of_shapedOpen_int (t := 3) (zero := #[.int .i64 0]) hs (of_decide_eq_true (by kernel_rfl)) (by kernel_rfl) rfl (by kernel_rfl) (by kernel_rfl) Tryz.underlying3⟩
end Go.Proofs.YtgcmhkihonadmaaGreatDoor
