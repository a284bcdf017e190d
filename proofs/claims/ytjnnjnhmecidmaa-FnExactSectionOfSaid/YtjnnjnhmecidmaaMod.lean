/-
  Modules and matrices: a struct of two integers and a nested list in a box; unit matrices.
-/
import Derived.Test.YtjnnjnhmecidmaaGro
import Derived.Test.YtjnnjnhmecidmaaRow
import Derived.Deep.DeepCutAuto
import Derived.Deep.DrawnRows
namespace Go.Proofs.Ytjnnjnhmecidmaa
set_option linter.unusedVariables false
set_option linter.unusedSimpArgs false
set_option maxRecDepth 100000
open Go.RowKit

/-! ### three cells of any struct -/
def Bt (T : TypeId) (w : World) (b : Nat) (v1 v2 v3 : Value) : Prop := w.heap[b]? = some (.cells #[v1, v2, v3] T (0, 0))
section
variable {T : TypeId} {w w' : World} {b : Nat} {v1 v2 v3 : Value}
theorem Bt.lt (h : Bt T w b v1 v2 v3) : b < w.heap.size := (Array.getElem?_eq_some_iff.1 h).1
theorem Bt.c0 (h : Bt T w b v1 v2 v3) : w.cell? ⟨b, 0, none⟩ = some v1 := by unfold Bt at h; simp [World.cell?, h]
theorem Bt.c1 (h : Bt T w b v1 v2 v3) : w.cell? ⟨b, 1, none⟩ = some v2 := by unfold Bt at h; simp [World.cell?, h]
theorem Bt.c2 (h : Bt T w b v1 v2 v3) : w.cell? ⟨b, 2, none⟩ = some v3 := by unfold Bt at h; simp [World.cell?, h]
theorem Bt.fr (h : Bt T w b v1 v2 v3) (o : Nat) : w.frozen? ⟨b, o, none⟩ = false := by unfold Bt at h; simp [World.frozen?, h]
theorem Bt.below {B : Nat} (h : Bt T w b v1 v2 v3) (hb : Below B w w') (hB : b < B) : Bt T w' b v1 v2 v3 := (hb.block b hB).trans h
theorem Bt.chg {S : Nat → Prop} (h : Bt T w b v1 v2 v3) (hc : ChgS S w w') (hS : ¬ S b) : Bt T w' b v1 v2 v3 := (hc.block b h.lt hS).trans h
theorem Bt.new (T : TypeId) (w : World) (v1 v2 v3 : Value) : Bt T (w.alloc (.cells #[v1, v2, v3] T)) w.heap.size v1 v2 v3 := heap_alloc_new w _
theorem Bt.old (h : Bt T w b v1 v2 v3) (o : Obj) : Bt T (w.alloc o) b v1 v2 v3 := (Below.heap_alloc w o b h.lt).trans h
theorem Bt.other (h : Bt T w b v1 v2 v3) {c : Nat} (hc : b ≠ c) (o : Nat) (y : Value) : Bt T (w.setCell ⟨c, o, none⟩ y) b v1 v2 v3 := (heap_setCell_other w ⟨c, o, none⟩ b y hc).trans h
theorem Bt.set2 (h : Bt T w b v1 v2 v3) (y : Value) : Bt T (w.setCell ⟨b, 2, none⟩ y) b v1 v2 y := by
  have := heap_setCell_same w b 2 _ _ y h
  unfold Bt
  rw [this]; simp
theorem Bt.drew (h : Bt T w b v1 v2 v3) : Bt T w.drew b v1 v2 v3 := h
end
/-- what lies in the boxes b2 (the result's, empty yet) and b4, and what b4's list owns from block B on -/
def MInv {α : Type} (T : TypeId) (O : World → (Nat → Prop) → Value → List α → Prop) (B b2 b4 : Nat) (x y : Value) (d : List α) (wx : World) : Prop :=
  ∃ v, Bt T wx b2 (.int .i64 0) (.int .i64 0) (.slice none 0 0) ∧ Bt T wx b4 x y v ∧ O wx (fun k => B ≤ k ∧ k ≠ b2 ∧ k ≠ b4) v d
theorem MInv.grow {α : Type} {O : World → (Nat → Prop) → Value → List α → Prop} (hO : Local O) {e t T : TypeId} (ty : TypeId) {i : TypeInfo} (ht : Try.prog.underlying t = some (.slice e)) (hi : Try.prog.info? e = some i) (hz : i.zero = some (.slice none 0 0)) (hsz : i.size = 1) (hby : i.bytes = 24)
    {wx w3 : World} {B b2 b4 : Nat} {x y v : Value} {ds : List (List α)} (x2 : Bt T wx b2 (.int .i64 0) (.int .i64 0) (.slice none 0 0)) (x4 : Bt T wx b4 x y v) (hd : ON e O wx (fun k => B ≤ k ∧ k ≠ b2 ∧ k ≠ b4) v ds) (hbx : B ≤ wx.heap.size) (hb4 : B ≤ b4) (hne : b2 ≠ b4)
    (hB : Below wx.heap.size wx w3) {u : Value} {d : List α} (hu : O w3 (fun k => wx.heap.size ≤ k) u d) (hone : u.oneCell' = true) (hn : ds.length ≤ 1000000) :
    ∃ a' c' w4, (Builtin.append_ #[t, t] ty #[v, .slice (some ⟨w3.heap.size, 0, none⟩) 1 1]).run Try.prog (w3.alloc (.cells #[u] e)) = .ok (.slice a' (ds.length + 1) c') w4 ∧
      w3.cell? ⟨b4, 2, none⟩ = some v ∧ b4 < w3.heap.size ∧ w4.cell? ⟨b4, 2, none⟩ = some v ∧ w4.frozen? ⟨b4, 2, none⟩ = false ∧ MInv T (ON e O) B b2 b4 x y (ds ++ [d]) (w4.setCell ⟨b4, 2, none⟩ (.slice a' (ds.length + 1) c')) ∧ Below B wx (w4.setCell ⟨b4, 2, none⟩ (.slice a' (ds.length + 1) c')) := by
  have l2 := x2.lt
  have l4 := x4.lt
  have sz := hB.size
  have hd3 : ON e O w3 (fun k => (B ≤ k ∧ k ≠ b2 ∧ k ≠ b4) ∧ k < wx.heap.size) v ds := (local_ON hO).below ((local_ON hO).cut hd) hB
  obtain ⟨v', w4, hr, hO4, hC4⟩ := run_appO hO w3 t ty i ht hi hz hsz hby _ _ v ds hd3 u d hu hone (fun k hk hh => by have h1 : wx.heap.size ≤ k := hk; omega) (by omega)
  have sz4 := hC4.size
  obtain ⟨a', c', rfl, _, _⟩ := ON.form hO4
  rw [show (ds ++ [d]).length = ds.length + 1 by simp] at hr hO4
  have X2 := (x2.below hB l2).chg hC4 (fun hh => hh.1.1.2.1 rfl)
  have X4 := (x4.below hB l4).chg hC4 (fun hh => hh.1.1.2.2 rfl)
  refine ⟨a', c', w4, hr, (x4.below hB l4).c2, by omega, X4.c2, X4.fr 2, ⟨_, X2.other hne 2 _, X4.set2 _, (local_ON hO).mono ((local_ON hO).sets hO4 (b := b4) ?_ 2 _) (fun k hk hh => ?_)⟩, ?_⟩
  · rintro (⟨hh | hh, h5⟩ | ⟨h5, _⟩)
    · exact hh.1.2.2 rfl
    · have h1 : wx.heap.size ≤ b4 := hh; omega
    · omega
  · rcases hh with ⟨hh | hh, h5⟩ | ⟨h5, _⟩
    · exact hh.1
    · have h1 : wx.heap.size ≤ k := hh
      exact ⟨by omega, by omega, by omega⟩
    · exact ⟨by omega, by omega, by omega⟩
  · exact ((hB.mono hbx).trans (hC4.below (fun k hk => hk.1.1.1) (by omega))).setCell (p := ⟨b4, 2, none⟩) hb4 _
/-- the unit matrix's first rows -/
def unitR (n j : Nat) : List (List Int) := (List.range j).map (unitL n)
theorem unitR_succ (n j : Nat) : unitR n (j + 1) = unitR n j ++ [unitL n j] := by simp [unitR, List.range_succ]
theorem unitR_len (n j : Nat) : (unitR n j).length = j := by simp [unitR]
--== spec.l02Unit
set_option maxHeartbeats 2000000 in
theorem s_l02Unit (n : Nat) (w : World) (hn : n ≤ 1000) : Calls Try.prog 152 #[.int .i64 n] w (RetL2 w (unitR n n)) := by
  obtain ⟨i0, hi, hz0, hz1, hz2⟩ := info_parts Try.info2
  have hO0 : O2 (w.alloc (Obj.cells #[] 22)) (win w.heap.size (w.alloc (Obj.cells #[] 22)).heap.size) (.slice (some ⟨w.heap.size, 0, none⟩) 0 0) [] :=
    ⟨[], fun _ _ => False, ⟨rfl, .inr ⟨w.heap.size, 0, #[], rfl, Nat.zero_le _, heap_alloc_new w _, Nat.le_refl _, by simp [maxLen], rfl, rfl⟩⟩, fun g hg => by
      obtain rfl : w.heap.size = g := by simpa [Value.ownBlock] using hg
      exact ⟨Nat.le_refl _, by simp⟩, fun i hi => by simp at hi, fun i hi => by simp at hi, fun i j hi => by simp at hi⟩
  have HO0 := Lib.hid hO0
  clear hO0
  go_enter Try.func152, Try.ntmps152
  go_wp2_with fail
  go_loopw [3, 4] (fun u i wr => ∃ j : Nat, j ≤ n ∧ i = .int .i64 j ∧ O2 wr (win w.heap.size wr.heap.size) u (unitR n j) ∧ Below w.heap.size w wr) (fun _ i _ => n - (intOf i).toNat)
  case atStart => exact ⟨0, Nat.zero_le _, rfl, HO0.out, below_alloc _ _⟩
  case round =>
    clear HO0
    obtain ⟨j, hj, rfl, hO, hB⟩ := hrel
    obtain ⟨a6, c6, rfl, _, _⟩ := hO.formN (unitR_len n j)
    have HLn := Lib.hid (unitR_len n j)
    have sB := hB.size
    by_cases hlt : j < n
    · have HS := Lib.hid (unitR_succ n j)
      obtain ⟨R, hR⟩ : ∃ R, unitR n j = R := ⟨_, rfl⟩
      rw [hR] at hO HLn HS
      have HR := Lib.hid hR
      clear hR
      go_wp2_with (at_make; refine wp_mkInts _ rfl _ _ rfl i0 Try.underlying22 hi hz0 hz1 hz2 _ _ _ _ n rfl rfl rfl rfl (by omega) ?_)
      intro w1 hI hB1 hlt1
      obtain ⟨g, cap, he, _, _, _, _, hcell, hfr⟩ := hI.open (by simp; omega)
      simp only [List.length_replicate, Value.slice.injEq, Option.some.injEq, Addr.mk.injEq, and_true, true_and] at he hcell
      obtain ⟨rfl, rfl⟩ := he
      have hc := hcell j hlt
      have hf := hfr j
      obtain ⟨hI2, hC2⟩ := hI.set (by simp) j 1
      have hI3 : Ints (w1.setCell ⟨wr.heap.size, j, none⟩ (.int .i64 1)) wr.heap.size (.slice (some ⟨wr.heap.size, 0, none⟩) n n) (unitL n j) := hI2
      have hB3 := hB1.trans (hC2.below (Nat.le_refl _) (Nat.le_of_lt hlt1))
      obtain ⟨v6, w6, hr6, hO6, hB6⟩ := step_rows hO hB.size hI3 rfl hB3 (by rw [HLn.out]; omega)
      rw [show (w1.setCell ⟨wr.heap.size, j, none⟩ (.int .i64 1)).heap.size = w1.heap.size by simp] at hr6
      have hB7 := (hB.trans (hB3.mono hB.size)).trans hB6
      clear hcell hfr hI hI2 hI3 hC2 hB1 hB3 hB6 hO hB
      go_wp2_with (at_builtin; refine wp_of_run _ rfl _ _ _ rfl _ _ rfl rfl _ _ hr6 ?_)
      go_roundw
      case rel => exact ⟨j + 1, by omega, by go_num, by rw [HS.out]; exact hO6, hB7⟩
      case measure => simp [intOf]; omega
    · obtain rfl : j = n := by omega
      go_wp2_with fail
      go_ret
      exact ⟨_, rfl, hO, hB⟩
--== impl.identityOf
set_option maxHeartbeats 4000000 in
theorem i_identityOf (x : Int) (n : Nat) (w : World) (hn : n ≤ 1000) :
    Calls Try.prog 94 #[.int .i64 x, .int .i64 n] w fun e w' => ∃ v, e = .returned (.agg #[.int .i64 x, .int .i64 n, v]) ∧ O2 w' (fun k => w.heap.size ≤ k) v (unitR n n) ∧ Below w.heap.size w w' := by
  obtain ⟨i0, hi, hz0, hz1, hz2⟩ := info_parts Try.info2
  obtain ⟨ir, hri, hrz0, hrz1, hrz2⟩ := info_parts Try.infoRow
  have g0 := Lib.hid (below_allocs2 w (Obj.cells #[.int .i64 0, .int .i64 0, .slice none 0 0] 107) (Obj.cells #[.int .i64 x, .int .i64 n, .slice none 0 0] 107))
  have x2 := (Bt.new 107 w (.int .i64 0) (.int .i64 0) (.slice none 0 0)).old (Obj.cells #[.int .i64 x, .int .i64 n, .slice none 0 0] 107)
  have x4 := Bt.new 107 (w.alloc (Obj.cells #[.int .i64 0, .int .i64 0, .slice none 0 0] 107)) (.int .i64 x) (.int .i64 n) (.slice none 0 0)
  rw [show (w.alloc (Obj.cells #[.int .i64 0, .int .i64 0, .slice none 0 0] 107)).heap.size = w.heap.size + 1 by simp] at x4
  have HI0 : Hid (MInv 107 O2 w.heap.size w.heap.size (w.heap.size + 1) (.int .i64 x) (.int .i64 n) (unitR n 0) ((w.alloc (Obj.cells #[.int .i64 0, .int .i64 0, .slice none 0 0] 107)).alloc (Obj.cells #[.int .i64 x, .int .i64 n, .slice none 0 0] 107))) :=
    ⟨_, x2, x4, local_O2.nil _ _⟩
  clear x2 x4
  go_enter Try.func94, Try.ntmps94
  go_wp2_with fail
  go_loopw [12] (fun i wr => ∃ j : Nat, j ≤ n ∧ i = .int .i64 j ∧ MInv 107 O2 w.heap.size w.heap.size (w.heap.size + 1) (.int .i64 x) (.int .i64 n) (unitR n j) wr ∧ Below w.heap.size w wr) (fun i _ => n - (intOf i).toNat)
  case atStart => exact ⟨0, Nat.zero_le _, rfl, HI0.out, g0.out⟩
  case round =>
    clear HI0 g0
    obtain ⟨j, hj, rfl, ⟨v, x2, x4, hO⟩, hB⟩ := hrel
    obtain ⟨a6, c6, rfl, _, _⟩ := hO.formN (unitR_len n j)
    have HLn := Lib.hid (unitR_len n j)
    have sB := hB.size
    have l4 := x4.lt
    by_cases hlt : j < n
    · have HS := Lib.hid (unitR_succ n j)
      obtain ⟨R, hR⟩ : ∃ R, unitR n j = R := ⟨_, rfl⟩
      rw [hR] at hO HLn HS
      have HR := Lib.hid hR
      clear hR
      have HO := Lib.hid hO
      have HX2 := Lib.hid x2
      have HX4 := Lib.hid x4
      clear hO x2 x4
      go_wp2_with (at_make; refine wp_mkInts _ rfl _ _ rfl i0 Try.underlying22 hi hz0 hz1 hz2 _ _ _ _ n rfl rfl rfl rfl (by omega) ?_)
      intro w1 hI hB1 hlt1
      obtain ⟨g, cap, he, _, _, _, _, hcell, hfr⟩ := hI.open (by simp; omega)
      simp only [List.length_replicate, Value.slice.injEq, Option.some.injEq, Addr.mk.injEq, and_true, true_and] at he hcell
      obtain ⟨rfl, rfl⟩ := he
      have hc := hcell j hlt
      have hf := hfr j
      obtain ⟨hI2, hC2⟩ := hI.set (by simp) j 1
      have hI3 : Ints (w1.setCell ⟨wr.heap.size, j, none⟩ (.int .i64 1)) wr.heap.size (.slice (some ⟨wr.heap.size, 0, none⟩) n n) (unitL n j) := hI2
      have hB3 := hB1.trans (hC2.below (Nat.le_refl _) (Nat.le_of_lt hlt1))
      have hO3 : O1 (w1.setCell ⟨wr.heap.size, j, none⟩ (.int .i64 1)) (fun k => wr.heap.size ≤ k) (.slice (some ⟨wr.heap.size, 0, none⟩) n n) (unitL n j) := ⟨hI3.mono (Nat.zero_le _), fun g hg => (hI3.lt g hg).1⟩
      have hsl : R.length ≤ 1000000 := by rw [HLn.out]; omega
      obtain ⟨a', c', w4, hr, q1, q2, q3, q4, hM, hBM⟩ := MInv.grow local_O1 23 Try.underlying23 hri hrz0 hrz1 hrz2 HX2.out HX4.out HO.out sB (by omega) (by omega) hB3 hO3 rfl hsl
      rw [show (w1.setCell ⟨wr.heap.size, j, none⟩ (.int .i64 1)).heap.size = w1.heap.size by simp] at hr q2
      rw [HLn.out] at hr hM hBM
      have hB7 := hB.trans hBM
      clear hcell hfr hI hI2 hI3 hC2 hB1 hB3 hB hO3 hBM
      go_wp2_with (at_builtin; refine wp_of_run _ rfl _ _ _ rfl _ _ rfl rfl _ _ hr ?_)
      go_roundw
      case rel => exact ⟨j + 1, by omega, by go_num, by rw [HS.out]; exact hM, hB7⟩
      case measure => simp [intOf]; omega
    · obtain rfl : j = n := by omega
      have m0 := x4.c0
      have m1 := x4.c1
      have m2 := x4.c2
      have p0 := x2.c0
      have p1 := x2.c1
      have p2 := x2.c2
      have q0 := x2.fr 0
      have q1 := x2.fr 1
      have q2 := x2.fr 2
      go_wp2_with fail
      refine bodyPost_ret (v := .agg #[.int .i64 x, .int .i64 j, .slice a6 j c6]) (by simp [results, Try.results94, go_sem, p0, p1, p2]) rfl ⟨_, rfl, ?_, ?_⟩
      · exact local_O2.mono (local_O2.sets (local_O2.sets (local_O2.sets hO (b := w.heap.size) (fun h => h.2.1 rfl) 0 _) (b := w.heap.size) (fun h => h.2.1 rfl) 1 _) (b := w.heap.size) (fun h => h.2.1 rfl) 2 _) fun k _ h => h.1
      · exact ((hB.setCell (p := ⟨w.heap.size, 0, none⟩) (Nat.le_refl _) _).setCell (p := ⟨w.heap.size, 1, none⟩) (Nat.le_refl _) _).setCell (p := ⟨w.heap.size, 2, none⟩) (Nat.le_refl _) _
end Go.Proofs.Ytjnnjnhmecidmaa
