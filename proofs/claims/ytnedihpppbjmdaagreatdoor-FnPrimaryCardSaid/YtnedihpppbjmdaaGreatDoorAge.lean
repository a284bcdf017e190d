/-
  The texts of abelian groups, on both sides.
-/
import Derived.Test.YtnedihpppbjmdaaGreatDoorAgd
import Derived.Test.YtnedihpppbjmdaaGreatDoorAbh
namespace Go.Proofs.YtnedihpppbjmdaaGreatDoor
set_option linter.unusedVariables false
set_option linter.unusedSimpArgs false
set_option maxRecDepth 100000
open Go.RowKit

/-- a call that hands back a text and a code -/
def RetTxK (w : World) (fs : List Nat) (r : Int) (e : Ending) (w' : World) : Prop := ∃ s k, e = .returned (.tuple #[.string s, .int .i64 k]) ∧ ((abP fs r ∧ s.data.toList = atx fs r.toNat ∧ k = 0) ∨ (¬ abP fs r ∧ s = ⟨#[]⟩ ∧ k = 1)) ∧ Below w.heap.size w w'
theorem txk_uniq {fs : List Nat} {r : Int} {s s' : ByteArray} {k k' : Int} (h : (abP fs r ∧ s.data.toList = atx fs r.toNat ∧ k = 0) ∨ (¬ abP fs r ∧ s = ⟨#[]⟩ ∧ k = 1)) (h' : (abP fs r ∧ s'.data.toList = atx fs r.toNat ∧ k' = 0) ∨ (¬ abP fs r ∧ s' = ⟨#[]⟩ ∧ k' = 1)) : s' = s ∧ k' = k := by
  rcases h with ⟨a, b, c⟩ | ⟨a, b, c⟩ <;> rcases h' with ⟨a', b', c'⟩ | ⟨a', b', c'⟩
  · exact ⟨ba_ext (b'.trans b.symm), c'.trans c.symm⟩
  · exact (a' a).elim
  · exact (a a').elim
  · exact ⟨b'.trans b.symm, c'.trans c.symm⟩
--== impl.AbelianText
set_option maxHeartbeats 4000000 in
theorem i_AbelianText (v : Value) (fs : List Nat) (r : Int) (w : World) (hv : Rd w v (nI fs)) (hf : ∀ f ∈ fs, f ≤ 1000000000) (hF : FmtOK w) (hn : fs.length ≤ 1000) (hr1 : -1000 ≤ r) (hr2 : r ≤ 1000) : Calls Tryz.prog 8 #[.agg #[v, .int .i64 r]] w (RetTxK w fs r) := by
  have HIS : Hid (∀ wx, Below w.heap.size w wx → Calls Tryz.prog 16 #[.agg #[v, .int .i64 r]] wx (RetB wx (abP fs r))) := fun wx hb => i_IsAbelian v fs r wx (hv.below hb) hf (by omega) hr1 hr2
  have HTX : Hid (abP fs r → ∀ wx, Below w.heap.size w wx → Calls Tryz.prog 20 #[.agg #[v, .int .i64 r]] wx (RetTx wx (atx fs r.toNat))) := fun h wx hb => by
    have h1 := h.1
    have h2 := h.2.1
    obtain ⟨k, rfl⟩ : ∃ k : Nat, r = (k : Int) := ⟨r.toNat, by omega⟩
    rw [Int.toNat_natCast]
    exact i_abelianText v fs k wx (hv.below hb) (fun f hf => (h.chn.1 f hf).2) (hF.below hb) (by omega) (by omega)
  obtain ⟨ao, cap, rfl, _, _⟩ := hv.form
  rw [nI_length] at *
  have HB0 := Lib.hid (below_alloc w (.cells #[.slice ao fs.length cap, .int .i64 r] 26))
  generalize fs.length = n at *
  clear hv hf
  go_enter Tryz.func8, Tryz.ntmps8
  go_wp2_with fail
  refine (HIS.out _ HB0.out).mono ?_
  rintro e w1 ⟨b, rfl, hb, hB1⟩
  have HBB := Lib.hid hb
  have HB1 := Lib.hid (below_size HB0.out hB1)
  have hx : B2 w1 w.heap.size (.slice ao n cap) (.int .i64 r) := (B2.new w _ _).below hB1 (by simp)
  have c0 := hx.c0
  have c1 := hx.c1
  clear hb hB1 hx HIS
  cases b
  · go_wp2_with fail
    refine bodyPost_ret (v := .tuple #[.string ⟨#[]⟩, .int .i64 1]) (by simp [results, Tryz.results8, go_sem]) rfl ?_
    exact ⟨_, 1, rfl, .inr ⟨fun h => by simpa using HBB.out.2 h, rfl, rfl⟩, HB1.out⟩
  · have hab : abP fs r := by simpa using HBB.out
    have HT := Lib.hid (HTX.out hab _ HB1.out)
    have HAB := Lib.hid hab
    clear hab HTX
    go_wp2_with fail
    refine HT.out.mono ?_
    rintro e w2 ⟨s, rfl, hs, hB2⟩
    have HS := Lib.hid hs
    have HB2 := Lib.hid (below_size HB1.out hB2)
    clear hs hB2
    go_wp2_with fail
    refine bodyPost_ret (v := .tuple #[.string s, .int .i64 0]) (by simp [results, Tryz.results8, go_sem]) rfl ?_
    exact ⟨_, 0, rfl, .inl ⟨HAB.out, HS.out, rfl⟩, HB2.out⟩
--== spec.AbelianText
set_option maxHeartbeats 4000000 in
theorem s_AbelianText (v : Value) (fs : List Nat) (r : Int) (w : World) (hv : Rd w v (nI fs)) (hf : ∀ f ∈ fs, f ≤ 1000000000) (hn : fs.length ≤ 1000) (hr1 : -1000 ≤ r) (hr2 : r ≤ 1000) : Calls Tryz.prog 9 #[.agg #[v, .int .i64 r]] w (RetTxK w fs r) := by
  have HIS : Hid (∀ wx, Below w.heap.size w wx → Calls Tryz.prog 18 #[.agg #[v, .int .i64 r]] wx (RetB wx (abP fs r))) := fun wx hb => s_IsAbelian v fs r wx (hv.below hb) hf (by omega) hr1 hr2
  have HTX : Hid (abP fs r → ∀ wx, Below w.heap.size w wx → Calls Tryz.prog 21 #[.agg #[v, .int .i64 r]] wx (RetTx wx (atx fs r.toNat))) := fun h wx hb => by
    have h1 := h.1
    have h2 := h.2.1
    obtain ⟨k, rfl⟩ : ∃ k : Nat, r = (k : Int) := ⟨r.toNat, by omega⟩
    rw [Int.toNat_natCast]
    exact s_l05Text v fs k wx (hv.below hb) (fun f hf => (h.chn.1 f hf).2) (by omega) (by omega)
  obtain ⟨ao, cap, rfl, _, _⟩ := hv.form
  rw [nI_length] at *
  have HB0 := Lib.hid (below_alloc w (.cells #[.slice ao fs.length cap, .int .i64 r] 26))
  generalize fs.length = n at *
  clear hv hf
  go_enter Tryz.func9, Tryz.ntmps9
  go_wp2_with fail
  refine (HIS.out _ HB0.out).mono ?_
  rintro e w1 ⟨b, rfl, hb, hB1⟩
  have HBB := Lib.hid hb
  have HB1 := Lib.hid (below_size HB0.out hB1)
  have hx : B2 w1 w.heap.size (.slice ao n cap) (.int .i64 r) := (B2.new w _ _).below hB1 (by simp)
  have c0 := hx.c0
  have c1 := hx.c1
  clear hb hB1 hx HIS
  cases b
  · go_wp2_with fail
    refine bodyPost_ret (v := .tuple #[.string ⟨#[]⟩, .int .i64 1]) (by simp [results, Tryz.results9, go_sem]) rfl ?_
    exact ⟨_, 1, rfl, .inr ⟨fun h => by simpa using HBB.out.2 h, rfl, rfl⟩, HB1.out⟩
  · have hab : abP fs r := by simpa using HBB.out
    have HT := Lib.hid (HTX.out hab _ HB1.out)
    have HAB := Lib.hid hab
    clear hab HTX
    go_wp2_with fail
    refine HT.out.mono ?_
    rintro e w2 ⟨s, rfl, hs, hB2⟩
    have HS := Lib.hid hs
    have HB2 := Lib.hid (below_size HB1.out hB2)
    clear hs hB2
    go_wp2_with fail
    refine bodyPost_ret (v := .tuple #[.string s, .int .i64 0]) (by simp [results, Tryz.results9, go_sem]) rfl ?_
    exact ⟨_, 0, rfl, .inl ⟨HAB.out, HS.out, rfl⟩, HB2.out⟩
end Go.Proofs.YtnedihpppbjmdaaGreatDoor
