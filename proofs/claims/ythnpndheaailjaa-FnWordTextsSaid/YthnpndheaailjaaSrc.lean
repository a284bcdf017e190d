/-
  The source of drawn inputs: that it goes on, and in which bounds its numbers lie.
-/
import Derived.Test.YthnpndheaailjaaRel
import Derived.Test.YthnpndheaailjaaText
import Derived.IntWalk
import Derived.Outline
namespace Go.Proofs.Ythnpndheaailjaa
set_option linter.unusedVariables false
set_option linter.unusedSimpArgs false
set_option maxRecDepth 100000
open Go.RowKit

/-- v reads as n bytes -/
def RdU (w : World) (v : Value) (n : Nat) : Prop :=
  ∃ ao cap, v = .slice ao n cap ∧ n ≤ cap ∧ cap ≤ 9223372036854775807 ∧ (n = 0 ∨ ∃ b off, ao = some ⟨b, off, none⟩ ∧ ∀ j, j < n → ∃ z : Nat, z < 256 ∧ w.cell? ⟨b, off + j, none⟩ = some (.int .u8 z))
theorem RdU.below {w w' : World} {v : Value} {n B : Nat} (h : RdU w v n) (hb : Below B w w') (hB : w.heap.size ≤ B) : RdU w' v n := by
  obtain ⟨ao, cap, rfl, h1, h2, h3⟩ := h
  refine ⟨ao, cap, rfl, h1, h2, h3.imp id ?_⟩
  rintro ⟨b, off, rfl, hc⟩
  refine ⟨b, off, rfl, fun j hj => ?_⟩
  obtain ⟨z, hz, hcz⟩ := hc j hj
  exact ⟨z, hz, (hb.cell (Nat.lt_of_lt_of_le (World.block_lt_of_cell? w _ hcz) hB)).trans hcz⟩
--== the source
/-- box b is a source that reads the bytes vc -/
structure Src (w0 : World) (vc : Value) (n b : Nat) (w : World) : Prop where
  rd : RdU w0 vc n
  n9 : n ≤ 1000000
  lo : w0.heap.size ≤ b
  be : Below w0.heap.size w0 w
  box : ∃ a s : Nat, a ≤ n ∧ s < 2147483647 ∧ w.heap[b]? = some (.cells #[vc, .int .i64 a, .int .i64 s] 152 (0, 0))
theorem Src.lt {w0 w : World} {vc : Value} {n b : Nat} (h : Src w0 vc n b w) : b < w.heap.size := by
  obtain ⟨a, s, _, _, hb⟩ := h.box
  exact (Array.getElem?_eq_some_iff.1 hb).1
theorem Src.below {w0 w w' : World} {vc : Value} {n b : Nat} (h : Src w0 vc n b w) (hb : Below w.heap.size w w') : Src w0 vc n b w' := by
  refine ⟨h.rd, h.n9, h.lo, h.be.trans (hb.mono h.be.size), ?_⟩
  obtain ⟨a, s, h1, h2, h3⟩ := h.box
  exact ⟨a, s, h1, h2, (hb.block b h.lt).trans h3⟩
/-- what a number drawn leaves -/
def Nxt (w0 : World) (vc : Value) (n b : Nat) (w : World) (m : Int) (e : Ending) (w' : World) : Prop :=
  ∃ r : Int, e = .returned (.int .i64 r) ∧ 0 ≤ r ∧ (r = 0 ∨ r < m) ∧ Src w0 vc n b w' ∧ Chg b (b + 1) w w'
theorem src_set1 {w : World} {b : Nat} {v1 v2 v3 : Value} {T : TypeId} (h : w.heap[b]? = some (.cells #[v1, v2, v3] T (0, 0))) (y : Value) : (w.setCell ⟨b, 1, none⟩ y).heap[b]? = some (.cells #[v1, y, v3] T (0, 0)) := by
  have := heap_setCell_same w b 1 #[v1, v2, v3] _ y h
  simpa using this
theorem src_set2 {w : World} {b : Nat} {v1 v2 v3 : Value} {T : TypeId} (h : w.heap[b]? = some (.cells #[v1, v2, v3] T (0, 0))) (y : Value) : (w.setCell ⟨b, 2, none⟩ y).heap[b]? = some (.cells #[v1, v2, y] T (0, 0)) := by
  have := heap_setCell_same w b 2 #[v1, v2, v3] _ y h
  simpa using this
theorem chg_set (w : World) (b o : Nat) (y : Value) : Chg b (b + 1) w (w.setCell ⟨b, o, none⟩ y) :=
  ⟨rfl, rfl, rfl, Nat.le_of_eq (by simp), fun k _ hk => heap_setCell_other w ⟨b, o, none⟩ k y (by show k ≠ b; omega)⟩
theorem Chg.drew {lo hi : Nat} {w w' : World} (h : Chg lo hi w w') (k : Nat) : Chg lo hi w (w'.drewN k) := ⟨h.os, h.tape, h.output, h.size, h.block⟩
theorem Src.chg {w0 w w' : World} {vc : Value} {n b a s : Nat} (h : Src w0 vc n b w) (hc : Chg b (b + 1) w w') (ha : a ≤ n) (hs : s < 2147483647) (hb : w'.heap[b]? = some (.cells #[vc, .int .i64 a, .int .i64 s] 152 (0, 0))) : Src w0 vc n b w' :=
  ⟨h.rd, h.n9, h.lo, h.be.trans (hc.below h.lo h.be.size), a, s, ha, hs, hb⟩
theorem nxt_of {w0 w w' : World} {vc : Value} {n b a s : Nat} {m r : Int} (h : Src w0 vc n b w) (hc : Chg b (b + 1) w w') (ha : a ≤ n) (hs : s < 2147483647) (hb : w'.heap[b]? = some (.cells #[vc, .int .i64 a, .int .i64 s] 152 (0, 0)))
    (h0 : 0 ≤ r) (h1 : r < m) : Nxt w0 vc n b w m (.returned (.int .i64 r)) w' := ⟨r, rfl, h0, .inr h1, h.chg hc ha hs hb, hc⟩
theorem src_setN {w : World} {b : Nat} {v1 v2 v3 : Value} {T : TypeId} (h : w.heap[b]? = some (.cells #[v1, v2, v3] T (0, 0))) (k : Nat) : (w.setCell ⟨b, 1, none⟩ (.int .i64 ((k : Int) + 1))).heap[b]? = some (.cells #[v1, .int .i64 ((k + 1 : Nat) : Int), v3] T (0, 0)) := by
  have := src_set1 h (.int .i64 ((k : Int) + 1))
  rw [this, Int.natCast_add]; rfl
--== spec.l01Next
set_option maxHeartbeats 4000000 in
theorem s_l01Next {w0 : World} {vc : Value} {n b : Nat} (w : World) (h : Src w0 vc n b w) (m : Int) (hm1 : -1000000000000 ≤ m) (hm2 : m ≤ 1000000000000) :
    Calls Try.prog 117 #[.pointer (some ⟨b, 0, none⟩), .int .i64 m] w (Nxt w0 vc n b w m) := by
  by_cases hm : m ≤ 1
  · go_enter Try.func117, Try.ntmps117
    go_wp2
    go_ret
    exact ⟨0, rfl, Int.le_refl _, .inl rfl, h, Chg.refl _ _ _⟩
  have HS := Lib.hid h
  obtain ⟨a, s, ha, hs, hbx⟩ := h.box
  have hn9 := h.n9
  obtain ⟨t, ht, hte⟩ : ∃ t : Nat, t < 2147483647 ∧ ((s : Int) * 48271 + 71) % 2147483647 = (t : Int) := ⟨(((s : Int) * 48271 + 71) % 2147483647).toNat, by omega, by omega⟩
  obtain ⟨q, hq, hqe⟩ : ∃ q : Nat, q < 2147483647 ∧ (t : Int) / 47 = (q : Int) := ⟨((t : Int) / 47).toNat, by omega, by omega⟩
  have hr0 : (0 : Int) ≤ m := by omega
  have hrd := h.rd
  obtain ⟨ao, cap, rfl, hc1, hc2, hby⟩ := h.rd
  have hbx2 := src_set2 hbx (.int .i64 (t : Int))
  have HX := Lib.hid hbx
  have HX2 := Lib.hid hbx2
  have hC2 := chg_set w b 2 (.int .i64 (t : Int))
  have p0 : w.cell? ⟨b, 0, none⟩ = some (.slice ao n cap) := by simp [World.cell?, hbx]
  have p1 : w.cell? ⟨b, 1, none⟩ = some (.int .i64 (a : Int)) := by simp [World.cell?, hbx]
  have p2 : w.cell? ⟨b, 2, none⟩ = some (.int .i64 (s : Int)) := by simp [World.cell?, hbx]
  have f2 : w.frozen? ⟨b, 2, none⟩ = false := by simp [World.frozen?, hbx]
  have f1 : w.frozen? ⟨b, 1, none⟩ = false := by simp [World.frozen?, hbx]
  clear hbx hbx2 h
  by_cases hat : a < n
  · rcases hby with h0 | ⟨g, off, rfl, hby⟩
    · omega
    obtain ⟨z, hz, hcz0⟩ := hby a hat
    have hcz : w.cell? ⟨g, off + a, none⟩ = some (.int .u8 (z : Int)) := (HS.out.be.cell (World.block_lt_of_cell? _ _ hcz0)).trans hcz0
    have hgl := World.block_lt_of_cell? _ _ hcz0
    have hlo := HS.out.lo
    have hgb : ¬ g = b := by have : g < w0.heap.size := hgl; omega
    have hgb2 : ¬ b = g := fun e => hgb e.symm
    clear hgl hlo
    have hi1 : (0 : Int) ≤ (a : Int) := by omega
    have hi2 : (a : Int) < (n : Int) := by omega
    clear hcz0 hby hrd
    by_cases h256 : m ≤ 256
    · by_cases hpar : ((a : Int) + 1) % 2 = 0
      · go_enter Try.func117, Try.ntmps117
        go_wp2
        go_quiet (fail)
        go_wp2
        have W1 : IntKind.i64.wrap ((q : Int) + (z : Int)) = (q : Int) + z := IntWalk.i64_in _ (by omega)
        go_quiet (fail)
        clear W1
        go_wp2
        have W2 : IntKind.i64.wrap ((a : Int) + 1 - 1) = (a : Int) := by rw [IntKind.wrap_i64]; omega
        go_quiet (fail)
        clear W2
        go_wp2
        go_ret
        exact nxt_of HS.out ((((hC2.drew _).trans (chg_set _ b 1 _) (Nat.le_refl _) (Nat.le_refl _) (Nat.le_refl _) (Nat.le_refl _))).drew _) (a := a + 1) (by omega) ht (src_setN HX2.out a) (Int.emod_nonneg _ (by omega)) (Int.emod_lt_of_pos _ (by omega))
      · have hpar2 : ((((a : Int) + 1) % 2) == 0) = false := by simpa using hpar
        go_enter Try.func117, Try.ntmps117
        go_wp2
        go_quiet (fail)
        go_wp2
        have W1 : IntKind.i64.wrap ((q : Int) + (z : Int)) = (q : Int) + z := IntWalk.i64_in _ (by omega)
        go_quiet (fail)
        clear W1
        go_wp2
        go_ret
        exact nxt_of HS.out (((hC2.drew _).trans (chg_set _ b 1 _) (Nat.le_refl _) (Nat.le_refl _) (Nat.le_refl _) (Nat.le_refl _))) (a := a + 1) (by omega) ht (src_setN HX2.out a) (Int.emod_nonneg _ (by omega)) (Int.emod_lt_of_pos _ (by omega))
    · go_enter Try.func117, Try.ntmps117
      go_wp2
      go_quiet (fail)
      go_wp2
      have W1 : IntKind.i64.wrap ((q : Int) + (z : Int)) = (q : Int) + z := IntWalk.i64_in _ (by omega)
      go_quiet (fail)
      clear W1
      go_wp2
      go_ret
      exact nxt_of HS.out (((hC2.drew _).trans (chg_set _ b 1 _) (Nat.le_refl _) (Nat.le_refl _) (Nat.le_refl _) (Nat.le_refl _))) (a := a + 1) (by omega) ht (src_setN HX2.out a) (Int.emod_nonneg _ (by omega)) (Int.emod_lt_of_pos _ (by omega))
  · obtain rfl : a = n := by omega
    clear hrd hby
    go_enter Try.func117, Try.ntmps117
    go_wp2
    go_quiet (fail)
    go_wp2
    go_ret
    exact nxt_of HS.out (hC2.drew _) (a := a) (Nat.le_refl _) ht HX2.out (Int.emod_nonneg _ (by omega)) (Int.emod_lt_of_pos _ (by omega))
end Go.Proofs.Ythnpndheaailjaa
