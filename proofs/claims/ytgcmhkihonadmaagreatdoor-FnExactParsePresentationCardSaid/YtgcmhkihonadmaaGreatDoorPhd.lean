/-
  The library's functions, in this claim's words: strings.Split, strings.Cut, strconv.ParseInt.
-/
import Derived.Test.YtgcmhkihonadmaaGreatDoorPhc
import Derived.Test.YtgcmhkihonadmaaGreatDoorPpg
import Derived.Lib.SplitLaws
import Derived.Lib.SmallJoins
namespace Go.Proofs.YtgcmhkihonadmaaGreatDoor
set_option linter.unusedVariables false
set_option linter.unusedSimpArgs false
set_option maxRecDepth 100000
open Go.RowKit Go.PlainAid

theorem belowN {w : World} (n : Nat) : Below w.heap.size w (w.drewN n) := below_drewN (Below.refl _ _) n
theorem f_Split {w : World} (hc : Cel w) (s sep : ByteArray) (hs : s.size ≤ 4000000) (h1 : 1 ≤ sep.size) :
    Calls Tryz.prog 40 #[.string s, .string sep] w (RetStrs w (Lib.split s.data.toList sep.data.toList)) := by
  obtain ⟨m, hm⟩ := hc.m2
  refine (Tryz.strings_Split s sep m w (by omega) hm h1).mono ?_
  rintro e w' ⟨rfl, rfl⟩
  have hl := Lib.splitB_all sep h1 0 _ s rfl
  refine ⟨_, Lib.splitB sep 0 (Lib.countB s sep) s, rfl, ?_, Lib.splitB_data sep 0 _ s, below_alloc _ _⟩
  show w.alloc _ |>.ownsRow _ _ _ _ _ _
  rw [hl]
  have hb : Lib.countB s sep ≤ s.size := Lib.countB_le sep h1 s.size s (Nat.le_refl _)
  refine ⟨by simp [hl], .inr ⟨w.heap.size, Lib.countB s sep + 1, _, rfl, Nat.le_refl _, heap_alloc_new w _, Nat.le_refl _, by simp [maxLen]; omega, by simp [hl], ?_⟩⟩
  rw [Nat.mul_one]
  exact List.take_of_length_le (by simp [hl])
theorem f_Cut {w : World} (hc : Cel w) (s sep : ByteArray) (hs : s.size ≤ 4000000) :
    Calls Tryz.prog 43 #[.string s, .string sep] w fun e w' => ∃ (a b : ByteArray) (f : Bool), e = .returned (.tuple #[.string a, .string b, .bool f]) ∧ (a.data.toList, b.data.toList, f) = Lib.cut s.data.toList sep.data.toList ∧ Below w.heap.size w w' := by
  obtain ⟨m, hm⟩ := hc.m2
  refine (Tryz.strings_Cut s sep m w (by omega) hm).mono ?_
  rintro e w' ⟨rfl, n, rfl⟩
  exact ⟨_, _, _, rfl, by simp, belowN n⟩
theorem f_ParseInt {w : World} (hc : Cel w) (s : ByteArray) (hs : s.size ≤ 4000000) :
    Calls Tryz.prog 41 #[.string s, .int .i64 10, .int .i64 64] w fun e w' => ∃ v : Int,
      ((e = .returned (.tuple #[.int .i64 v, .nilIface]) ∧ Lib.parseIntB 64 s.data.toList = .ok v) ∨ (∃ te pe, e = .returned (.tuple #[.int .i64 v, .iface te pe]) ∧ ∀ u, Lib.parseIntB 64 s.data.toList ≠ .ok u)) ∧ Below w.heap.size w w' := by
  obtain ⟨t0, p0, h0⟩ := hc.e0
  obtain ⟨t1, p1, h1⟩ := hc.e1
  cases h : Lib.parseIntB 64 s.data.toList
  case ok v =>
    refine (Tryz.strconv_ParseInt_10_at64_ok s (by omega) v h w).mono ?_
    rintro e w' ⟨rfl, hw⟩
    refine ⟨v, .inl ⟨rfl, rfl⟩, ?_⟩
    rcases hw with rfl | ⟨t, rfl⟩
    · exact Below.refl _ _
    · exact Joins.below_bytesWorld _ _ _ _ (Nat.le_refl _)
  case range =>
    refine (Tryz.strconv_ParseInt_10_at64_range s (by omega) h _ w h1 (Or.inr ⟨t1, p1, rfl⟩)).mono ?_
    rintro e w' ⟨N, rfl, _, _, hb⟩
    exact ⟨_, .inr ⟨_, _, rfl, fun u e => by cases e⟩, hb⟩
  all_goals
    have hc : Calls Tryz.prog 41 #[.string s, .int .i64 10, .int .i64 64] w _ := Any.strconv_ParseInt_10_at64_syntax Tryz.laysC174 s (by omega) h _ w h0 (Or.inr ⟨t0, p0, rfl⟩)
    refine hc.mono ?_
    rintro e w' ⟨N, rfl, _, _, hb⟩
    exact ⟨0, .inr ⟨_, _, rfl, fun u e => by cases e⟩, hb⟩
/-- a digit is read as its number -/
theorem parse_dg {o : Int} (h0 : 0 ≤ o) (h1 : o < 10) : Lib.parseIntB 64 (dg o) = .ok o := by
  rw [dg_small h0 h1]
  rcases (show o = 0 ∨ o = 1 ∨ o = 2 ∨ o = 3 ∨ o = 4 ∨ o = 5 ∨ o = 6 ∨ o = 7 ∨ o = 8 ∨ o = 9 by omega) with rfl | rfl | rfl | rfl | rfl | rfl | rfl | rfl | rfl | rfl <;> rfl
end Go.Proofs.YtgcmhkihonadmaaGreatDoor
