/-
  The library's functions at the words of a group's text: strings.Split, strings.CutPrefix, strconv.ParseInt.
-/
import Derived.Test.YtnedihpppbjmdaaGreatDoorAgd
import Derived.Lib.SplitLaws
import Derived.Lib.SmallJoins
namespace Go.Proofs.YtnedihpppbjmdaaGreatDoor
set_option linter.unusedVariables false
set_option linter.unusedSimpArgs false
set_option maxRecDepth 100000
open Go.RowKit Go.PlainAid

/-- the cell of the least length at which a search changes its way holds a number -/
def MaxL (w : World) : Prop := ∃ m : Int, w.cell? ⟨3, 0, none⟩ = some (.int .i64 m)
theorem MaxL.below {w w' : World} (h : MaxL w) (hb : Below w.heap.size w w') : MaxL w' := by
  obtain ⟨m, hm⟩ := h
  exact ⟨m, (hb.cell (World.block_lt_of_cell? w _ hm)).trans hm⟩
--== contracts
theorem f_SplitX {w : World} (hc : MaxL w) (s sep : ByteArray) (hs : s.size ≤ 4000000) (h1 : 1 ≤ sep.size) :
    Calls Tryz.prog 22 #[.string s, .string sep] w (RetStrs w (Lib.split s.data.toList sep.data.toList)) := by
  obtain ⟨m, hm⟩ := hc
  refine (Tryz.strings_Split s sep m w (by omega) hm h1).mono ?_
  rintro e w' ⟨rfl, rfl⟩
  have hl := Lib.splitB_all sep h1 0 _ s rfl
  refine ⟨_, Lib.splitB sep 0 (Lib.countB s sep) s, rfl, ?_, Lib.splitB_data sep 0 _ s, below_alloc _ _⟩
  show w.alloc _ |>.ownsRow _ _ _ _ _ _
  rw [hl]
  have hb : Lib.countB s sep ≤ s.size := Lib.countB_le sep h1 s.size s (Nat.le_refl _)
  refine ⟨by simp [hl], .inr ⟨w.heap.size, Lib.countB s sep + 1, _, rfl, Nat.le_refl _, heap_alloc_new w _, Nat.le_refl _, by simp [maxLen]; omega, by simp [hl], ?_⟩⟩
  rw [Nat.mul_one]
  exact List.take_of_length_le (by simp [hl])
theorem below_grow (w : World) (k : Nat) (os : Array Obj) : Below w.heap.size w (Go.Sort.grow (w.drewN k) os) :=
  ⟨rfl, rfl, rfl, by unfold Go.Sort.grow; simp, fun i hi => by unfold Go.Sort.grow; simp [Array.getElem?_append, hi]⟩
theorem tab_below {n : String} {g : Nat} {k : IntKind} {zs : List Int} {w w' : World} (hg : Tryz.prog.globalNamed n = some g) (h : Lib.TabIs Tryz.prog w n k zs) (hb : Below w.heap.size w w') : Lib.TabIs Tryz.prog w' n k zs := by
  unfold Lib.TabIs World.var? at *
  rw [hg] at h ⊢
  simp only [Option.bind_some] at h ⊢
  have hlt : g < w.heap.size := by
    apply Classical.byContradiction
    intro hc
    rw [Array.getElem?_eq_none (by omega)] at h
    simp at h
  rw [hb.block g hlt]
  exact h
/-- "C" and a numeral: the numeral is left -/
theorem f_CutC (s : ByteArray) (f : Nat) (hs : s.data.toList = 67 :: Lib.decDigits f) (w : World) :
    Calls Tryz.prog 23 #[.string s, .string ⟨#[67]⟩] w fun e w' => ∃ t : ByteArray, e = .returned (.tuple #[.string t, .bool true]) ∧ t.data.toList = Lib.decDigits f ∧ Below w.heap.size w w' := by
  refine (Tryz.strings_CutPrefix s ⟨#[67]⟩ w).mono ?_
  rintro e w' ⟨rfl, rfl⟩
  have h := cutC f
  refine ⟨⟨(Lib.decDigits f).toArray⟩, ?_, ba_of _, Below.refl _ _⟩
  rw [hs]
  show _ = _
  rw [show (⟨#[67]⟩ : ByteArray).data.toList = [67] from rfl, h.1, h.2]
/-- a numeral is read -/
theorem f_ParseDec (s : ByteArray) (f : Nat) (hf : f ≤ 1000000) (hs : s.data.toList = Lib.decDigits f) (w : World) :
    Calls Tryz.prog 24 #[.string s, .int .i64 10, .int .i64 64] w fun e w' => e = .returned (.tuple #[.int .i64 (f : Int), .nilIface]) ∧ Below w.heap.size w w' := by
  have hz : s.size ≤ 7 := by rw [ba_size, hs]; exact dec_len8 hf
  refine (Tryz.strconv_ParseInt_10_at64_ok s (by omega) (f : Int) (by rw [hs]; exact parse_dec (by omega)) w).mono ?_
  rintro e w' ⟨rfl, hw⟩
  refine ⟨rfl, ?_⟩
  rcases hw with rfl | ⟨t, rfl⟩
  · exact Below.refl _ _
  · exact Joins.below_bytesWorld _ _ _ _ (Nat.le_refl _)
end Go.Proofs.YtnedihpppbjmdaaGreatDoor
