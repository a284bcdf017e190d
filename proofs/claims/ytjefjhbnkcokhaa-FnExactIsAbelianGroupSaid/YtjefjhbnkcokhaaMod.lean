/-
  Modules and matrices: a struct of two integers and a nested list in a box; unit matrices.
-/
import Derived.Test.YtjefjhbnkcokhaaGro
import Derived.Test.YtjefjhbnkcokhaaRow
import Derived.Deep.DeepCutAuto
import Derived.Deep.DrawnRows
namespace Go.Proofs.Ytjefjhbnkcokhaa
set_option linter.unusedVariables false
set_option linter.unusedSimpArgs false
set_option maxRecDepth 100000
open Go.RowKit

/-! ### three cells of any struct -/
def Bt (T : TypeId) (w : World) (b : Nat) (v1 v2 v3 : Value) : Prop := w.heap[b]? = some (.cells #[v1, v2, v3] T (0, 0))
section
variable {T : TypeId} {w w' : World} {b : Nat} {v1 v2 v3 : Value}
theorem Bt.lt (h : Bt T w b v1 v2 v3) : b < w.heap.size := (Array.getElem?_eq_some_iff.1 h).1
theorem Bt.c0 (h : Bt T w b v1 v2 v3) : w.cell? ⟨b, 0, none⟩ = some v1 := by unfold Bt at h; simp [World.cell?, h]
theorem Bt.c1 (h : Bt T w b v1 v2 v3) : w.cell? ⟨b, 1, none⟩ = some v2 := by unfold Bt at h; simp [World.cell?, h]
theorem Bt.c2 (h : Bt T w b v1 v2 v3) : w.cell? ⟨b, 2, none⟩ = some v3 := by unfold Bt at h; simp [World.cell?, h]
theorem Bt.fr (h : Bt T w b v1 v2 v3) (o : Nat) : w.frozen? ⟨b, o, none⟩ = false := by unfold Bt at h; simp [World.frozen?, h]
theorem Bt.below {B : Nat} (h : Bt T w b v1 v2 v3) (hb : Below B w w') (hB : b < B) : Bt T w' b v1 v2 v3 := (hb.block b hB).trans h
theorem Bt.chg {S : Nat → Prop} (h : Bt T w b v1 v2 v3) (hc : ChgS S w w') (hS : ¬ S b) : Bt T w' b v1 v2 v3 := (hc.block b h.lt hS).trans h
theorem Bt.new (T : TypeId) (w : World) (v1 v2 v3 : Value) : Bt T (w.alloc (.cells #[v1, v2, v3] T)) w.heap.size v1 v2 v3 := heap_alloc_new w _
theorem Bt.old (h : Bt T w b v1 v2 v3) (o : Obj) : Bt T (w.alloc o) b v1 v2 v3 := (Below.heap_alloc w o b h.lt).trans h
theorem Bt.other (h : Bt T w b v1 v2 v3) {c : Nat} (hc : b ≠ c) (o : Nat) (y : Value) : Bt T (w.setCell ⟨c, o, none⟩ y) b v1 v2 v3 := (heap_setCell_other w ⟨c, o, none⟩ b y hc).trans h
theorem Bt.set2 (h : Bt T w b v1 v2 v3) (y : Value) : Bt T (w.setCell ⟨b, 2, none⟩ y) b v1 v2 y := by
  have := heap_setCell_same w b 2 _ _ y h
  unfold Bt
  rw [this]; simp
theorem Bt.drew (h : Bt T w b v1 v2 v3) : Bt T w.drew b v1 v2 v3 := h
end
/-- what lies in the boxes b2 (the result's, empty yet) and b4, and what b4's list owns from block B on -/
def MInv {α : Type} (T : TypeId) (O : World → (Nat → Prop) → Value → List α → Prop) (B b2 b4 : Nat) (x y : Value) (d : List α) (wx : World) : Prop :=
  ∃ v, Bt T wx b2 (.int .i64 0) (.int .i64 0) (.slice none 0 0) ∧ Bt T wx b4 x y v ∧ O wx (fun k => B ≤ k ∧ k ≠ b2 ∧ k ≠ b4) v d
theorem MInv.grow {α : Type} {O : World → (Nat → Prop) → Value → List α → Prop} (hO : Local O) {e t T : TypeId} (ty : TypeId) {i : TypeInfo} (ht : Try.prog.underlying t = some (.slice e)) (hi : Try.prog.info? e = some i) (hz : i.zero = some (.slice none 0 0)) (hsz : i.size = 1) (hby : i.bytes = 24)
    {wx w3 : World} {B b2 b4 : Nat} {x y v : Value} {ds : List (List α)} (x2 : Bt T wx b2 (.int .i64 0) (.int .i64 0) (.slice none 0 0)) (x4 : Bt T wx b4 x y v) (hd : ON e O wx (fun k => B ≤ k ∧ k ≠ b2 ∧ k ≠ b4) v ds) (hbx : B ≤ wx.heap.size) (hb4 : B ≤ b4) (hne : b2 ≠ b4)
    (hB : Below wx.heap.size wx w3) {u : Value} {d : List α} (hu : O w3 (fun k => wx.heap.size ≤ k) u d) (hone : u.oneCell' = true) (hn : ds.length ≤ 1000000) :
    ∃ a' c' w4, (Builtin.append_ #[t, t] ty #[v, .slice (some ⟨w3.heap.size, 0, none⟩) 1 1]).run Try.prog (w3.alloc (.cells #[u] e)) = .ok (.slice a' (ds.length + 1) c') w4 ∧
      w3.cell? ⟨b4, 2, none⟩ = some v ∧ b4 < w3.heap.size ∧ w4.cell? ⟨b4, 2, none⟩ = some v ∧ w4.frozen? ⟨b4, 2, none⟩ = false ∧ MInv T (ON e O) B b2 b4 x y (ds ++ [d]) (w4.setCell ⟨b4, 2, none⟩ (.slice a' (ds.length + 1) c')) ∧ Below B wx (w4.setCell ⟨b4, 2, none⟩ (.slice a' (ds.length + 1) c')) := by
  have l2 := x2.lt
  have l4 := x4.lt
  have sz := hB.size
  have hd3 : ON e O w3 (fun k => (B ≤ k ∧ k ≠ b2 ∧ k ≠ b4) ∧ k < wx.heap.size) v ds := (local_ON hO).below ((local_ON hO).cut hd) hB
  obtain ⟨v', w4, hr, hO4, hC4⟩ := run_appO hO w3 t ty i ht hi hz hsz hby _ _ v ds hd3 u d hu hone (fun k hk hh => by have h1 : wx.heap.size ≤ k := hk; omega) (by omega)
  have sz4 := hC4.size
  obtain ⟨a', c', rfl, _, _⟩ := ON.form hO4
  rw [show (ds ++ [d]).length = ds.length + 1 by simp] at hr hO4
  have X2 := (x2.below hB l2).chg hC4 (fun hh => hh.1.1.2.1 rfl)
  have X4 := (x4.below hB l4).chg hC4 (fun hh => hh.1.1.2.2 rfl)
  refine ⟨a', c', w4, hr, (x4.below hB l4).c2, by omega, X4.c2, X4.fr 2, ⟨_, X2.other hne 2 _, X4.set2 _, (local_ON hO).mono ((local_ON hO).sets hO4 (b := b4) ?_ 2 _) (fun k hk hh => ?_)⟩, ?_⟩
  · rintro (⟨hh | hh, h5⟩ | ⟨h5, _⟩)
    · exact hh.1.2.2 rfl
    · have h1 : wx.heap.size ≤ b4 := hh; omega
    · omega
  · rcases hh with ⟨hh | hh, h5⟩ | ⟨h5, _⟩
    · exact hh.1
    · have h1 : wx.heap.size ≤ k := hh
      exact ⟨by omega, by omega, by omega⟩
    · exact ⟨by omega, by omega, by omega⟩
  · exact ((hB.mono hbx).trans (hC4.below (fun k hk => hk.1.1.1) (by omega))).setCell (p := ⟨b4, 2, none⟩) hb4 _
/-- the unit matrix's first rows -/
def unitR (n j : Nat) : List (List Int) := (List.range j).map (unitL n)
theorem unitR_succ (n j : Nat) : unitR n (j + 1) = unitR n j ++ [unitL n j] := by simp [unitR, List.range_succ]
theorem unitR_len (n j : Nat) : (unitR n j).length = j := by simp [unitR]
--== spec.l02Unit
set_option maxHeartbeats 2000000 in
theorem s_l02Unit (n : Nat) (w : World) (hn : n ≤ 1000) : Calls Try.prog 94 #[.int .i64 n] w (RetL2 w (unitR n n)) := by
  obtain ⟨i0, hi, hz0, hz1, hz2⟩ := info_parts Try.info2
  have hO0 : O2 (w.alloc (Obj.cells #[] 22)) (win w.heap.size (w.alloc (Obj.cells #[] 22)).heap.size) (.slice (some ⟨w.heap.size, 0, none⟩) 0 0) [] :=
    ⟨[], fun _ _ => False, ⟨rfl, .inr ⟨w.heap.size, 0, #[], rfl, Nat.zero_le _, heap_alloc_new w _, Nat.le_refl _, by simp [maxLen], rfl, rfl⟩⟩, fun g hg => by
      obtain rfl : w.heap.size = g := by simpa [Value.ownBlock] using hg
      exact ⟨Nat.le_refl _, by simp⟩, fun i hi => by simp at hi, fun i hi => by simp at hi, fun i j hi => by simp at hi⟩
  have HO0 := Lib.hid hO0
  clear hO0
  go_enter Try.func94, Try.ntmps94
  go_wp2_with fail
  go_loopw [3, 4] (fun u i wr => ∃ j : Nat, j ≤ n ∧ i = .int .i64 j ∧ O2 wr (win w.heap.size wr.heap.size) u (unitR n j) ∧ Below w.heap.size w wr) (fun _ i _ => n - (intOf i).toNat)
  case atStart => exact ⟨0, Nat.zero_le _, rfl, HO0.out, below_alloc _ _⟩
  case round =>
    clear HO0
    obtain ⟨j, hj, rfl, hO, hB⟩ := hrel
    obtain ⟨a6, c6, rfl, _, _⟩ := hO.formN (unitR_len n j)
    have HLn := Lib.hid (unitR_len n j)
    have sB := hB.size
    by_cases hlt : j < n
    · have HS := Lib.hid (unitR_succ n j)
      obtain ⟨R, hR⟩ : ∃ R, unitR n j = R := ⟨_, rfl⟩
      rw [hR] at hO HLn HS
      have HR := Lib.hid hR
      clear hR
      go_wp2_with (at_make; refine wp_mkInts _ rfl _ _ rfl i0 Try.underlying22 hi hz0 hz1 hz2 _ _ _ _ n rfl rfl rfl rfl (by omega) ?_)
      intro w1 hI hB1 hlt1
      obtain ⟨g, cap, he, _, _, _, _, hcell, hfr⟩ := hI.open (by simp; omega)
      simp only [List.length_replicate, Value.slice.injEq, Option.some.injEq, Addr.mk.injEq, and_true, true_and] at he hcell
      obtain ⟨rfl, rfl⟩ := he
      have hc := hcell j hlt
      have hf := hfr j
      obtain ⟨hI2, hC2⟩ := hI.set (by simp) j 1
      have hI3 : Ints (w1.setCell ⟨wr.heap.size, j, none⟩ (.int .i64 1)) wr.heap.size (.slice (some ⟨wr.heap.size, 0, none⟩) n n) (unitL n j) := hI2
      have hB3 := hB1.trans (hC2.below (Nat.le_refl _) (Nat.le_of_lt hlt1))
      obtain ⟨v6, w6, hr6, hO6, hB6⟩ := step_rows hO hB.size hI3 rfl hB3 (by rw [HLn.out]; omega)
      rw [show (w1.setCell ⟨wr.heap.size, j, none⟩ (.int .i64 1)).heap.size = w1.heap.size by simp] at hr6
      have hB7 := (hB.trans (hB3.mono hB.size)).trans hB6
      clear hcell hfr hI hI2 hI3 hC2 hB1 hB3 hB6 hO hB
      go_wp2_with (at_builtin; refine wp_of_run _ rfl _ _ _ rfl _ _ rfl rfl _ _ hr6 ?_)
      go_roundw
      case rel => exact ⟨j + 1, by omega, by go_num, by rw [HS.out]; exact hO6, hB7⟩
      case measure => simp [intOf]; omega
    · obtain rfl : j = n := by omega
      go_wp2_with fail
      go_ret
      exact ⟨_, rfl, hO, hB⟩
