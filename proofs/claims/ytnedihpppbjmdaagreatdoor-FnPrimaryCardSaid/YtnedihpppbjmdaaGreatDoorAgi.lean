/-
  The draw of a group.
-/
import Derived.Test.YtnedihpppbjmdaaGreatDoorAga
namespace Go.Proofs.YtnedihpppbjmdaaGreatDoor
set_option linter.unusedVariables false
set_option linter.unusedSimpArgs false
set_option maxRecDepth 100000
open Go.RowKit

/-- a group that a draw leaves -/
def OneP (w : World) (e : Ending) (w' : World) : Prop := ∃ v fs r, e = .returned (.agg #[v, .int .i64 r]) ∧ fs.length ≤ 10 ∧ (∀ f ∈ fs, f ≤ 2000000) ∧ -1 ≤ r ∧ r ≤ 11 ∧ Rd w' v (nI fs) ∧ Below w.heap.size w w'
--== spec.DrawPrimaryParts
set_option maxHeartbeats 4000000 in
theorem s_DrawPrimary (v : Value) (n : Nat) (w : World) (h : RdU w v n) (hn : n ≤ 1000000) : Calls Tryz.prog 5 #[v] w (OneP w) := by
  have hbl0 := below_alloc w (.cells #[.slice none 0 0, .int .i64 0] 26)
  have HFR := Lib.hid (s_l01From v n _ (h.below hbl0 (Nat.le_refl _)) hn)
  have HBL0 := Lib.hid hbl0
  obtain ⟨ac, cc, rfl, _, _, _⟩ := h
  clear hbl0
  go_enter Tryz.func5, Tryz.ntmps5
  go_wp2_with fail
  refine HFR.out.mono ?_
  rintro e w1 ⟨b, rfl, hS1⟩
  have hx0 : B2 w1 w.heap.size (.slice none 0 0) (.int .i64 0) := (B2.new w _ _).below hS1.be (by simp)
  have hbe := HBL0.out.trans (hS1.be.mono HBL0.out.size)
  have ho0 : w.heap.size + 1 ≤ b := by have := hS1.lo; simp at this; omega
  have HS1 := Lib.hid hS1
  have HX0 := Lib.hid hx0
  have HBE := Lib.hid hbe
  have hb1 := hS1.lt
  clear hS1 hx0 hbe HFR HBL0
  go_wp2_with fail
  refine (s_l05Great _ HS1.out).mono ?_
  rintro e w2 ⟨u, fs, r, rfl, hfl, hfs, hr1, hr2, hI, hS2, hC2⟩
  obtain ⟨au, cu, hu, _, _⟩ := rd_formN hI.rd (nI_length fs)
  subst hu
  have hx2 : B2 w2 w.heap.size (.slice none 0 0) (.int .i64 0) := (hC2.block _ HX0.out.lt (by omega)).trans HX0.out
  have hbe2 : Below w.heap.size w w2 := ⟨hC2.os.trans HBE.out.os, hC2.tape.trans HBE.out.tape, hC2.output.trans HBE.out.output, Nat.le_trans HBE.out.size hC2.size, fun k hk => (hC2.block k (Nat.lt_of_lt_of_le hk HBE.out.size) (by omega)).trans (HBE.out.block k hk)⟩
  have z0 := hx2.c0
  have z1 := hx2.c1
  have f0 := hx2.f 0
  have f1 := hx2.f 1
  have q := hx2.set (.slice au fs.length cu) (.int .i64 r)
  have q0 := q.c0
  have q1 := q.c1
  have HI := Lib.hid hI
  have HBE2 := Lib.hid hbe2
  clear hI hS2 hC2 hx2 hbe2 q
  go_wp2_with fail
  refine bodyPost_ret (v := .agg #[.slice au fs.length cu, .int .i64 r]) (by simp [results, Tryz.results5, go_sem, q0, q1]) rfl ?_
  exact ⟨_, fs, r, rfl, hfl, hfs, hr1, hr2, (HI.out.chg (chg_set2 _ _ _ _) fun g hg => .inr (by have := (HI.out.lt g hg).1; omega)).rd, below_set2 HBE2.out (Nat.le_refl _) _ _⟩
end Go.Proofs.YtnedihpppbjmdaaGreatDoor
