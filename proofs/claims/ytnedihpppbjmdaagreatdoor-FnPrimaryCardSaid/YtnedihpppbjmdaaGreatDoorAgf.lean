/-
  The primary parts of groups, on both sides.
-/
import Derived.Test.YtnedihpppbjmdaaGreatDoorAbe
import Derived.Test.YtnedihpppbjmdaaGreatDoorAbh
import Derived.Test.YtnedihpppbjmdaaGreatDoorAbd
namespace Go.Proofs.YtnedihpppbjmdaaGreatDoor
set_option linter.unusedVariables false
set_option linter.unusedSimpArgs false
set_option maxRecDepth 100000
open Go.RowKit

/-- a call that hands back primary parts and a code -/
def RetPk (w : World) (fs : List Nat) (r : Int) (e : Ending) (w' : World) : Prop := ∃ v ps k, e = .returned (.tuple #[v, .int .i64 k]) ∧ Ints w' w.heap.size v (nI ps) ∧ ((abP fs r ∧ ps = sortP (parts fs) ∧ k = 0) ∨ (¬ abP fs r ∧ ps = [] ∧ k = 1)) ∧ Below w.heap.size w w'
theorem pk_uniq {fs ps ps' : List Nat} {r k k' : Int} (h : (abP fs r ∧ ps = sortP (parts fs) ∧ k = 0) ∨ (¬ abP fs r ∧ ps = [] ∧ k = 1)) (h' : (abP fs r ∧ ps' = sortP (parts fs) ∧ k' = 0) ∨ (¬ abP fs r ∧ ps' = [] ∧ k' = 1)) : ps' = ps ∧ k' = k := by
  rcases h with ⟨a, b, c⟩ | ⟨a, b, c⟩ <;> rcases h' with ⟨a', b', c'⟩ | ⟨a', b', c'⟩
  · exact ⟨b'.trans b.symm, c'.trans c.symm⟩
  · exact (a' a).elim
  · exact (a a').elim
  · exact ⟨b'.trans b.symm, c'.trans c.symm⟩
--== impl.PrimaryParts
set_option maxHeartbeats 4000000 in
theorem i_PrimaryParts (v : Value) (fs : List Nat) (r : Int) (w : World) (hv : Rd w v (nI fs)) (hf : ∀ f ∈ fs, f ≤ 1000000000) (hn : fs.length ≤ 1000) (hr1 : -1000 ≤ r) (hr2 : r ≤ 1000) : Calls Tryz.prog 6 #[.agg #[v, .int .i64 r]] w (RetPk w fs r) := by
  have HIS : Hid (∀ wx, Below w.heap.size w wx → Calls Tryz.prog 16 #[.agg #[v, .int .i64 r]] wx (RetB wx (abP fs r))) := fun wx hb => i_IsAbelian v fs r wx (hv.below hb) hf (by omega) hr1 hr2
  have HTX : Hid (abP fs r → ∀ wx, Below w.heap.size w wx → Calls Tryz.prog 17 #[.agg #[v, .int .i64 r]] wx (RetInts wx (nI (sortP (parts fs))))) := fun h wx hb => by
    have h1 := h.1
    have h2 := h.2.1
    exact i_primaryParts v fs r wx (hv.below hb) h.chn.1 (by omega)
  obtain ⟨ao, cap, rfl, _, _⟩ := hv.form
  rw [nI_length] at *
  have HB0 := Lib.hid (below_alloc w (.cells #[.slice ao fs.length cap, .int .i64 r] 26))
  generalize fs.length = n at *
  clear hv hf
  go_enter Tryz.func6, Tryz.ntmps6
  go_wp2_with fail
  refine (HIS.out _ HB0.out).mono ?_
  rintro e w1 ⟨b, rfl, hb, hB1⟩
  have HBB := Lib.hid hb
  have HB1 := Lib.hid (below_size HB0.out hB1)
  have hx : B2 w1 w.heap.size (.slice ao n cap) (.int .i64 r) := (B2.new w _ _).below hB1 (by simp)
  have c0 := hx.c0
  have c1 := hx.c1
  clear hb hB1 hx HIS
  cases b
  · go_wp2_with fail
    refine bodyPost_ret (v := .tuple #[.slice none 0 0, .int .i64 1]) (by simp [results, Tryz.results6, go_sem]) rfl ?_
    exact ⟨_, [], 1, rfl, Ints.nil _ _, .inr ⟨fun h => by simpa using HBB.out.2 h, rfl, rfl⟩, HB1.out⟩
  · have hab : abP fs r := by simpa using HBB.out
    have HT := Lib.hid (HTX.out hab _ HB1.out)
    have HAB := Lib.hid hab
    clear hab HTX
    go_wp2_with fail
    refine HT.out.mono ?_
    rintro e w2 ⟨u, rfl, hI, hB2⟩
    obtain ⟨au, nu, cu, rfl⟩ : ∃ a n c, u = Value.slice a n c := by obtain ⟨ao, c, e, _⟩ := hI.form; exact ⟨_, _, _, e⟩
    have HI := Lib.hid (hI.mono HB1.out.size)
    have HB2 := Lib.hid (below_size HB1.out hB2)
    clear hI hB2
    go_wp2_with fail
    refine bodyPost_ret (v := .tuple #[.slice au nu cu, .int .i64 0]) (by simp [results, Tryz.results6, go_sem]) rfl ?_
    exact ⟨_, _, 0, rfl, HI.out, .inl ⟨HAB.out, rfl, rfl⟩, HB2.out⟩
--== spec.PrimaryParts
set_option maxHeartbeats 4000000 in
theorem s_PrimaryParts (v : Value) (fs : List Nat) (r : Int) (w : World) (hv : Rd w v (nI fs)) (hf : ∀ f ∈ fs, f ≤ 1000000000) (hn : fs.length ≤ 1000) (hr1 : -1000 ≤ r) (hr2 : r ≤ 1000) : Calls Tryz.prog 7 #[.agg #[v, .int .i64 r]] w (RetPk w fs r) := by
  have HIS : Hid (∀ wx, Below w.heap.size w wx → Calls Tryz.prog 18 #[.agg #[v, .int .i64 r]] wx (RetB wx (abP fs r))) := fun wx hb => s_IsAbelian v fs r wx (hv.below hb) hf (by omega) hr1 hr2
  have HTX : Hid (abP fs r → ∀ wx, Below w.heap.size w wx → Calls Tryz.prog 19 #[v] wx (RetInts wx (nI (sortP (parts fs))))) := fun h wx hb => by
    have h1 := h.1
    have h2 := h.2.1
    exact s_l05Parts v fs wx (hv.below hb) h.chn.1 (by omega)
  obtain ⟨ao, cap, rfl, _, _⟩ := hv.form
  rw [nI_length] at *
  have HB0 := Lib.hid (below_alloc w (.cells #[.slice ao fs.length cap, .int .i64 r] 26))
  generalize fs.length = n at *
  clear hv hf
  go_enter Tryz.func7, Tryz.ntmps7
  go_wp2_with fail
  refine (HIS.out _ HB0.out).mono ?_
  rintro e w1 ⟨b, rfl, hb, hB1⟩
  have HBB := Lib.hid hb
  have HB1 := Lib.hid (below_size HB0.out hB1)
  have hx : B2 w1 w.heap.size (.slice ao n cap) (.int .i64 r) := (B2.new w _ _).below hB1 (by simp)
  have c0 := hx.c0
  have c1 := hx.c1
  clear hb hB1 hx HIS
  cases b
  · go_wp2_with fail
    refine bodyPost_ret (v := .tuple #[.slice none 0 0, .int .i64 1]) (by simp [results, Tryz.results7, go_sem]) rfl ?_
    exact ⟨_, [], 1, rfl, Ints.nil _ _, .inr ⟨fun h => by simpa using HBB.out.2 h, rfl, rfl⟩, HB1.out⟩
  · have hab : abP fs r := by simpa using HBB.out
    have HT := Lib.hid (HTX.out hab _ HB1.out)
    have HAB := Lib.hid hab
    clear hab HTX
    go_wp2_with fail
    refine HT.out.mono ?_
    rintro e w2 ⟨u, rfl, hI, hB2⟩
    obtain ⟨au, nu, cu, rfl⟩ : ∃ a n c, u = Value.slice a n c := by obtain ⟨ao, c, e, _⟩ := hI.form; exact ⟨_, _, _, e⟩
    have HI := Lib.hid (hI.mono HB1.out.size)
    have HB2 := Lib.hid (below_size HB1.out hB2)
    clear hI hB2
    go_wp2_with fail
    refine bodyPost_ret (v := .tuple #[.slice au nu cu, .int .i64 0]) (by simp [results, Tryz.results7, go_sem]) rfl ?_
    exact ⟨_, _, 0, rfl, HI.out, .inl ⟨HAB.out, rfl, rfl⟩, HB2.out⟩
end Go.Proofs.YtnedihpppbjmdaaGreatDoor
