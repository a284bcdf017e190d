/-
  Picked out of the other texts for a seat that has no presentations.
-/
import Derived.Test.YtnedihpppbjmdaaGreatDoorFad
import Derived.Test.YtnedihpppbjmdaaGreatDoorWordsD
import Derived.Deep.RegionHeld3
import Derived.Deep.RegionLaw
import Derived.Deep.OwnRows
import Derived.Laws.Cover3
import Derived.IntWalk
import Derived.Outline
namespace Go.Proofs.YtnedihpppbjmdaaGreatDoor
set_option linter.unusedVariables false
set_option linter.unusedSimpArgs false
set_option maxRecDepth 100000
open Go.RowKit

set_option maxHeartbeats 1000000 in
theorem s_l01Own (v : Value) (xs : List Int) (w : World) (hv : Rd w v xs) (hs : xs.length ≤ 100000000) :
    Calls Tryz.prog 51 #[v] w (RetInts w xs) := by
  obtain ⟨i0, hi, hz0, hz1, hz2⟩ := info_parts Tryz.info2
  go_enter Tryz.func51, Tryz.ntmps51
  have hE := Ints.empty w
  have hv' := hv.below (below_alloc w (.cells #[] 2))
  go_wp2_with (at_builtin; refine wp_appN _ rfl _ _ rfl w.heap.size i0 Tryz.underlying24 hi hz0 hz1 hz2 _ _ rfl hE _ xs rfl hv' (by simp) (by omega) (by simp) ?_)
  intro v' w2 hI1 hG hB1
  go_wp2
  go_ret
  exact ⟨_, rfl, by simpa using hI1, (below_alloc w _).trans hB1⟩
theorem Rd.drewN {w : World} {n : Nat} {v : Value} {xs : List Int} (h : Rd w v xs) : Rd (w.drewN n) v xs := h
theorem Rd.at {w : World} {ao : Option Addr} {n cap : Nat} {xs : List Int} (h : Rd w (.slice ao n cap) xs) {j : Nat} (hj : j < xs.length) :
    ∃ b off, ao = some ⟨b, off, none⟩ ∧ w.cell? ⟨b, off + j, none⟩ = some (.int .i64 (xs.getD j 0)) := by
  obtain ⟨ao', cap', he, h1, h2, h3, h4⟩ := h
  simp only [Value.slice.injEq] at he
  obtain ⟨rfl, rfl, rfl⟩ := he
  rcases h4 with h4 | ⟨b, off, rfl, h4⟩
  · omega
  · exact ⟨b, off, rfl, h4 j hj⟩
/-- an append whose run is known -/
theorem wp_of_run {P : Program} (w : World) {ops : Array Oper} {rest : List Oper} {o : Oper} {a : Act} {Q : Exit → Act → World → Prop} (hgd : o.guard = none) (s x : Operand) (t : TypeId)
    (ho : o.op = .call { callee := .builtin .append, args := #[s, x], argTypes := #[t, t] }) (v vx : Value) (hs : a.eval s = v) (hx : a.eval x = vx) (v' : Value) (w' : World)
    (hr : (Builtin.append_ #[t, t] o.type #[v, vx]).run P w = .ok v' w') (h : wpList P ops Q rest (a.put o.dst v') w') : wpList P ops Q (o :: rest) a w := by
  refine wpList_plain hgd fun K hK' => ?_
  unfold Oper.wp execOp
  simp only [ho, resolve, invoke, builtin, Sem.run_bind, Sem.run_pure, Result.andThen_ok, List.map_toArray, List.map_cons, List.map_nil, hs, hx, hr]
  exact hK' _ _ h
theorem step_of_run {P : Program} {w : World} {ops : Array Oper} {o : Oper} {a : Act} {K : Act → World → Prop} {Q : Exit → Act → World → Prop} {E : Prop} (hgd : o.guard = none) (s x : Operand) (t : TypeId)
    (ho : o.op = .call { callee := .builtin .append, args := #[s, x], argTypes := #[t, t] }) (v vx : Value) (hs : a.eval s = v) (hx : a.eval x = vx) (v' : Value) (w' : World)
    (hr : (Builtin.append_ #[t, t] o.type #[v, vx]).run P w = .ok v' w') (h : K (a.put o.dst v') w') : if Region.wanted o (yielded ops a.tmps) = true then Oper.wp P o a w K Q else E := by
  rw [if_pos (by simp [Region.wanted, hgd])]
  unfold Oper.wp execOp
  simp only [ho, resolve, invoke, builtin, Sem.run_bind, Sem.run_pure, Result.andThen_ok, List.map_toArray, List.map_cons, List.map_nil, hs, hx, hr]
  exact h
/-- the ways through a region meet in one state -/
def MeetAt (a' : Act) (w' : World) : Exit → Act → World → Prop
  | .normal, a, w => a = a' ∧ w = w'
  | _, _, _ => False
theorem via {P : Program} {c : Code} {Q : Exit → Act → World → Prop} {a : Act} {w : World} (a' : Act) (w' : World) (h : Code.wp P c (MeetAt a' w') a w) (hQ : Q .normal a' w') : Code.wp P c Q a w :=
  Code.wp_mono (fun e b u hb => by
    cases e with
    | normal => obtain ⟨rfl, rfl⟩ := hb; exact hQ
    | _ => exact hb.elim) h
theorem Ints.heap {w w' : World} {B : Nat} {v : Value} {xs : List Int} (h : Ints w B v xs) (he : w'.heap = w.heap) : Ints w' B v xs := own_of_block h fun g _ => by rw [he]
theorem Rd.heap {w w' : World} {v : Value} {xs : List Int} (h : Rd w v xs) (he : w'.heap = w.heap) : Rd w' v xs := h.of_cells fun a u ha => by
  rw [← ha]; unfold World.cell?; rw [he]
theorem run_appI (w : World) (ty : TypeId) (B : Nat) (v : Value) (xs : List Int) (hown : Ints w B v xs) (vx : Value) (ys : List Int) (hrd : Rd w vx ys) (hn : xs.length ≤ 1000000000) (hm : ys.length ≤ 1000000000) (hB : B ≤ w.heap.size) :
    ∃ v' w', (Builtin.append_ #[24, 24] ty #[v, vx]).run Tryz.prog w = .ok v' w' ∧ Ints w' B v' (xs ++ ys) ∧ Below B w w' := by
  obtain ⟨i0, hi, hz0, hz1, hz2⟩ := info_parts Tryz.info2
  obtain ⟨v', w', hr, h1, h2, h3⟩ := run_app w B 24 ty 2 i0 (.int .i64 0) 8 Tryz.underlying24 hi hz0 hz1 hz2 rfl v xs.length (xs.map (Value.int .i64)) hown vx (ys.map (Value.int .i64)) hrd.cells (ints_oneCell _ _) (by simp [maxLen]; omega) (by simp; omega) hB
  have hg : Grew w w' v v' := ⟨h2, h3⟩
  refine ⟨v', w', hr, ?_, hg.below hB fun g hg => (hown.lt g hg).1⟩
  unfold Ints
  rw [List.length_append, List.map_append]
  simpa using h1
theorem Rd.litI (w : World) (xs : List Int) (h : xs.length ≤ 1000) : Rd (w.alloc (.cells (xs.map (Value.int .i64)).toArray 2)) (.slice (some ⟨w.heap.size, 0, none⟩) xs.length xs.length) xs := by
  refine ⟨_, _, rfl, Nat.le_refl _, by omega, fun h => by (cases h), ?_⟩
  by_cases h0 : xs.length = 0
  · exact .inl h0
  · refine .inr ⟨_, _, rfl, fun j hj => ?_⟩
    have : (xs.map (Value.int .i64))[j]? = some (.int .i64 (xs.getD j 0)) := getD_map_int xs j hj
    simp [hj]
theorem Rd.lit1 (w : World) (x : Int) : Rd (w.alloc (.cells #[.int .i64 x] 2)) (.slice (some ⟨w.heap.size, 0, none⟩) 1 1) [x] :=
  ⟨_, 1, rfl, by simp, by simp, fun h => by (cases h), .inr ⟨_, _, rfl, fun j hj => by
    obtain rfl : j = 0 := by simpa using hj
    simp⟩⟩
theorem Rd.drew {w : World} {v : Value} {xs : List Int} (h : Rd w v xs) : Rd w.drew v xs := h
/-- v reads as n bytes -/
def RdU (w : World) (v : Value) (n : Nat) : Prop :=
  ∃ ao cap, v = .slice ao n cap ∧ n ≤ cap ∧ cap ≤ 9223372036854775807 ∧ (n = 0 ∨ ∃ b off, ao = some ⟨b, off, none⟩ ∧ ∀ j, j < n → ∃ z : Nat, z < 256 ∧ w.cell? ⟨b, off + j, none⟩ = some (.int .u8 z))
theorem RdU.below {w w' : World} {v : Value} {n B : Nat} (h : RdU w v n) (hb : Below B w w') (hB : w.heap.size ≤ B) : RdU w' v n := by
  obtain ⟨ao, cap, rfl, h1, h2, h3⟩ := h
  refine ⟨ao, cap, rfl, h1, h2, h3.imp id ?_⟩
  rintro ⟨b, off, rfl, hc⟩
  refine ⟨b, off, rfl, fun j hj => ?_⟩
  obtain ⟨z, hz, hcz⟩ := hc j hj
  exact ⟨z, hz, (hb.cell (Nat.lt_of_lt_of_le (World.block_lt_of_cell? w _ hcz) hB)).trans hcz⟩
/-- box b is a source that reads the bytes vc -/
structure Src (w0 : World) (vc : Value) (n b : Nat) (w : World) : Prop where
  rd : RdU w0 vc n
  n9 : n ≤ 1000000
  lo : w0.heap.size ≤ b
  be : Below w0.heap.size w0 w
  box : ∃ a s : Nat, a ≤ n ∧ s < 2147483647 ∧ w.heap[b]? = some (.cells #[vc, .int .i64 a, .int .i64 s] 58 (0, 0))
theorem Src.lt {w0 w : World} {vc : Value} {n b : Nat} (h : Src w0 vc n b w) : b < w.heap.size := by
  obtain ⟨a, s, _, _, hb⟩ := h.box
  exact (Array.getElem?_eq_some_iff.1 hb).1
theorem Src.below {w0 w w' : World} {vc : Value} {n b : Nat} (h : Src w0 vc n b w) (hb : Below w.heap.size w w') : Src w0 vc n b w' := by
  refine ⟨h.rd, h.n9, h.lo, h.be.trans (hb.mono h.be.size), ?_⟩
  obtain ⟨a, s, h1, h2, h3⟩ := h.box
  exact ⟨a, s, h1, h2, (hb.block b h.lt).trans h3⟩
/-- what a number drawn leaves -/
def Nxt (w0 : World) (vc : Value) (n b : Nat) (w : World) (m : Int) (e : Ending) (w' : World) : Prop :=
  ∃ r : Int, e = .returned (.int .i64 r) ∧ 0 ≤ r ∧ (r = 0 ∨ r < m) ∧ Src w0 vc n b w' ∧ Chg b (b + 1) w w'
theorem src_set1 {w : World} {b : Nat} {v1 v2 v3 : Value} {T : TypeId} (h : w.heap[b]? = some (.cells #[v1, v2, v3] T (0, 0))) (y : Value) : (w.setCell ⟨b, 1, none⟩ y).heap[b]? = some (.cells #[v1, y, v3] T (0, 0)) := by
  have := heap_setCell_same w b 1 #[v1, v2, v3] _ y h
  simpa using this
theorem src_set2 {w : World} {b : Nat} {v1 v2 v3 : Value} {T : TypeId} (h : w.heap[b]? = some (.cells #[v1, v2, v3] T (0, 0))) (y : Value) : (w.setCell ⟨b, 2, none⟩ y).heap[b]? = some (.cells #[v1, v2, y] T (0, 0)) := by
  have := heap_setCell_same w b 2 #[v1, v2, v3] _ y h
  simpa using this
theorem chg_set (w : World) (b o : Nat) (y : Value) : Chg b (b + 1) w (w.setCell ⟨b, o, none⟩ y) :=
  ⟨rfl, rfl, rfl, Nat.le_of_eq (by simp), fun k _ hk => heap_setCell_other w ⟨b, o, none⟩ k y (by show k ≠ b; omega)⟩
theorem Chg.drew {lo hi : Nat} {w w' : World} (h : Chg lo hi w w') (k : Nat) : Chg lo hi w (w'.drewN k) := ⟨h.os, h.tape, h.output, h.size, h.block⟩
theorem Src.chg {w0 w w' : World} {vc : Value} {n b a s : Nat} (h : Src w0 vc n b w) (hc : Chg b (b + 1) w w') (ha : a ≤ n) (hs : s < 2147483647) (hb : w'.heap[b]? = some (.cells #[vc, .int .i64 a, .int .i64 s] 58 (0, 0))) : Src w0 vc n b w' :=
  ⟨h.rd, h.n9, h.lo, h.be.trans (hc.below h.lo h.be.size), a, s, ha, hs, hb⟩
theorem nxt_of {w0 w w' : World} {vc : Value} {n b a s : Nat} {m r : Int} (h : Src w0 vc n b w) (hc : Chg b (b + 1) w w') (ha : a ≤ n) (hs : s < 2147483647) (hb : w'.heap[b]? = some (.cells #[vc, .int .i64 a, .int .i64 s] 58 (0, 0)))
    (h0 : 0 ≤ r) (h1 : r < m) : Nxt w0 vc n b w m (.returned (.int .i64 r)) w' := ⟨r, rfl, h0, .inr h1, h.chg hc ha hs hb, hc⟩
theorem src_setN {w : World} {b : Nat} {v1 v2 v3 : Value} {T : TypeId} (h : w.heap[b]? = some (.cells #[v1, v2, v3] T (0, 0))) (k : Nat) : (w.setCell ⟨b, 1, none⟩ (.int .i64 ((k : Int) + 1))).heap[b]? = some (.cells #[v1, .int .i64 ((k + 1 : Nat) : Int), v3] T (0, 0)) := by
  have := src_set1 h (.int .i64 ((k : Int) + 1))
  rw [this, Int.natCast_add]; rfl
set_option maxHeartbeats 4000000 in
theorem s_l01Next {w0 : World} {vc : Value} {n b : Nat} (w : World) (h : Src w0 vc n b w) (m : Int) (hm1 : -1000000000000 ≤ m) (hm2 : m ≤ 1000000000000) :
    Calls Tryz.prog 28 #[.pointer (some ⟨b, 0, none⟩), .int .i64 m] w (Nxt w0 vc n b w m) := by
  by_cases hm : m ≤ 1
  · go_enter Tryz.func28, Tryz.ntmps28
    go_wp2
    go_ret
    exact ⟨0, rfl, Int.le_refl _, .inl rfl, h, Chg.refl _ _ _⟩
  have HS := Lib.hid h
  obtain ⟨a, s, ha, hs, hbx⟩ := h.box
  have hn9 := h.n9
  obtain ⟨t, ht, hte⟩ : ∃ t : Nat, t < 2147483647 ∧ ((s : Int) * 48271 + 71) % 2147483647 = (t : Int) := ⟨(((s : Int) * 48271 + 71) % 2147483647).toNat, by omega, by omega⟩
  obtain ⟨q, hq, hqe⟩ : ∃ q : Nat, q < 2147483647 ∧ (t : Int) / 47 = (q : Int) := ⟨((t : Int) / 47).toNat, by omega, by omega⟩
  have hr0 : (0 : Int) ≤ m := by omega
  have hrd := h.rd
  obtain ⟨ao, cap, rfl, hc1, hc2, hby⟩ := h.rd
  have hbx2 := src_set2 hbx (.int .i64 (t : Int))
  have HX := Lib.hid hbx
  have HX2 := Lib.hid hbx2
  have hC2 := chg_set w b 2 (.int .i64 (t : Int))
  have p0 : w.cell? ⟨b, 0, none⟩ = some (.slice ao n cap) := by simp [World.cell?, hbx]
  have p1 : w.cell? ⟨b, 1, none⟩ = some (.int .i64 (a : Int)) := by simp [World.cell?, hbx]
  have p2 : w.cell? ⟨b, 2, none⟩ = some (.int .i64 (s : Int)) := by simp [World.cell?, hbx]
  have f2 : w.frozen? ⟨b, 2, none⟩ = false := by simp [World.frozen?, hbx]
  have f1 : w.frozen? ⟨b, 1, none⟩ = false := by simp [World.frozen?, hbx]
  clear hbx hbx2 h
  by_cases hat : a < n
  · rcases hby with h0 | ⟨g, off, rfl, hby⟩
    · omega
    obtain ⟨z, hz, hcz0⟩ := hby a hat
    have hcz : w.cell? ⟨g, off + a, none⟩ = some (.int .u8 (z : Int)) := (HS.out.be.cell (World.block_lt_of_cell? _ _ hcz0)).trans hcz0
    have hgl := World.block_lt_of_cell? _ _ hcz0
    have hlo := HS.out.lo
    have hgb : ¬ g = b := by have : g < w0.heap.size := hgl; omega
    have hgb2 : ¬ b = g := fun e => hgb e.symm
    clear hgl hlo
    have hi1 : (0 : Int) ≤ (a : Int) := by omega
    have hi2 : (a : Int) < (n : Int) := by omega
    clear hcz0 hby hrd
    by_cases h256 : m ≤ 256
    · by_cases hpar : ((a : Int) + 1) % 2 = 0
      · go_enter Tryz.func28, Tryz.ntmps28
        go_wp2
        go_quiet (fail)
        go_wp2
        have W1 : IntKind.i64.wrap ((q : Int) + (z : Int)) = (q : Int) + z := IntWalk.i64_in _ (by omega)
        go_quiet (fail)
        clear W1
        go_wp2
        have W2 : IntKind.i64.wrap ((a : Int) + 1 - 1) = (a : Int) := by rw [IntKind.wrap_i64]; omega
        go_quiet (fail)
        clear W2
        go_wp2
        go_ret
        exact nxt_of HS.out ((((hC2.drew _).trans (chg_set _ b 1 _) (Nat.le_refl _) (Nat.le_refl _) (Nat.le_refl _) (Nat.le_refl _))).drew _) (a := a + 1) (by omega) ht (src_setN HX2.out a) (Int.emod_nonneg _ (by omega)) (Int.emod_lt_of_pos _ (by omega))
      · have hpar2 : ((((a : Int) + 1) % 2) == 0) = false := by simpa using hpar
        go_enter Tryz.func28, Tryz.ntmps28
        go_wp2
        go_quiet (fail)
        go_wp2
        have W1 : IntKind.i64.wrap ((q : Int) + (z : Int)) = (q : Int) + z := IntWalk.i64_in _ (by omega)
        go_quiet (fail)
        clear W1
        go_wp2
        go_ret
        exact nxt_of HS.out (((hC2.drew _).trans (chg_set _ b 1 _) (Nat.le_refl _) (Nat.le_refl _) (Nat.le_refl _) (Nat.le_refl _))) (a := a + 1) (by omega) ht (src_setN HX2.out a) (Int.emod_nonneg _ (by omega)) (Int.emod_lt_of_pos _ (by omega))
    · go_enter Tryz.func28, Tryz.ntmps28
      go_wp2
      go_quiet (fail)
      go_wp2
      have W1 : IntKind.i64.wrap ((q : Int) + (z : Int)) = (q : Int) + z := IntWalk.i64_in _ (by omega)
      go_quiet (fail)
      clear W1
      go_wp2
      go_ret
      exact nxt_of HS.out (((hC2.drew _).trans (chg_set _ b 1 _) (Nat.le_refl _) (Nat.le_refl _) (Nat.le_refl _) (Nat.le_refl _))) (a := a + 1) (by omega) ht (src_setN HX2.out a) (Int.emod_nonneg _ (by omega)) (Int.emod_lt_of_pos _ (by omega))
  · obtain rfl : a = n := by omega
    clear hrd hby
    go_enter Tryz.func28, Tryz.ntmps28
    go_wp2
    go_quiet (fail)
    go_wp2
    go_ret
    exact nxt_of HS.out (hC2.drew _) (a := a) (Nat.le_refl _) ht HX2.out (Int.emod_nonneg _ (by omega)) (Int.emod_lt_of_pos _ (by omega))
theorem Rd.chg1 {w w' : World} {g b n c : Nat} {xs : List Int} (h : Rd w (.slice (some ⟨g, 0, none⟩) n c) xs) (hc : Chg b (b + 1) w w') (hg : g ≠ b) : Rd w' (.slice (some ⟨g, 0, none⟩) n c) xs := by
  obtain ⟨ao, cap, he, h1, h2, h0, h3⟩ := h
  simp only [Value.slice.injEq] at he
  obtain ⟨rfl, rfl, rfl⟩ := he
  refine ⟨_, _, rfl, h1, h2, h0, h3.imp id ?_⟩
  rintro ⟨b', off, e, hcell⟩
  cases e
  refine ⟨_, _, rfl, fun j hj => ?_⟩
  have hj' := hcell j hj
  have hl := World.block_lt_of_cell? w _ hj'
  rw [← hj']
  exact World.cell?_of_block (hc.block _ hl (by show g < b ∨ b + 1 ≤ g; omega))
theorem Chg.tr {b : Nat} {w w1 w2 : World} (h : Chg b (b + 1) w w1) (k : Chg b (b + 1) w1 w2) : Chg b (b + 1) w w2 := h.trans k (Nat.le_refl _) (Nat.le_refl _) (Nat.le_refl _) (Nat.le_refl _)
theorem Chg.bel {b : Nat} {w w1 w2 : World} (h : Chg b (b + 1) w w1) (k : Below w1.heap.size w1 w2) : Chg b (b + 1) w w2 := h.tr (Chg.of_below k _ _)
theorem Chg.belB {b : Nat} {w w1 w2 : World} (h : Chg b (b + 1) w w1) (k : Below w.heap.size w1 w2) : Chg b (b + 1) w w2 :=
  ⟨k.os.trans h.os, k.tape.trans h.tape, k.output.trans h.output, Nat.le_trans h.size k.size, fun i hi hh => (k.block i hi).trans (h.block i hi hh)⟩
theorem Src.belowB {w0 w w' : World} {vc : Value} {n b B : Nat} (h : Src w0 vc n b w) (hb : Below B w w') (hB : b < B) (h0 : w0.heap.size ≤ B) : Src w0 vc n b w' := by
  refine ⟨h.rd, h.n9, h.lo, h.be.trans (hb.mono h0), ?_⟩
  obtain ⟨a, s, h1, h2, h3⟩ := h.box
  exact ⟨a, s, h1, h2, (hb.block b hB).trans h3⟩
theorem Ints.chgb {w w' : World} {B b : Nat} {v : Value} {xs : List Int} (h : Ints w B v xs) (hc : Chg b (b + 1) w w') (hb : b < B) : Ints w' B v xs := h.chg hc fun g hg => .inr (by have := (h.lt g hg).1; omega)
def FromP (vc : Value) (n : Nat) (w : World) (e : Ending) (w' : World) : Prop := ∃ b, e = .returned (.pointer (some ⟨b, 0, none⟩)) ∧ Src w vc n b w'
set_option maxHeartbeats 2000000 in
theorem s_l01From (v : Value) (n : Nat) (w : World) (h : RdU w v n) (hn : n ≤ 1000000) : Calls Tryz.prog 15 #[v] w (FromP v n w) := by
  have HR := Lib.hid h
  obtain ⟨ao, cap, rfl, hc1, hc2, hby⟩ := h
  have g0 := below_alloc w (Obj.cells #[.slice ao n cap, .int .i64 0, .int .i64 76001] 58)
  have hS0 : Src w (.slice ao n cap) n w.heap.size (w.alloc (Obj.cells #[.slice ao n cap, .int .i64 0, .int .i64 76001] 58)) :=
    ⟨HR.out, hn, Nat.le_refl _, g0, 0, 76001, Nat.zero_le _, by omega, heap_alloc_new w _⟩
  have HS0 := Lib.hid hS0
  clear g0 hS0
  go_enter Tryz.func15, Tryz.ntmps15
  go_wp2_with fail
  go_loopw [4] (fun i wr => ∃ j : Nat, j ≤ n ∧ i = .int .i64 j ∧ Src w (.slice ao n cap) n w.heap.size wr) (fun i _ => n - (intOf i).toNat)
  case atStart => exact ⟨0, Nat.zero_le _, rfl, HS0.out⟩
  case round =>
    obtain ⟨j, hj, rfl, hS⟩ := hrel
    have HS := Lib.hid hS
    by_cases hlt : j < n ∧ j < 64
    · obtain ⟨h1, h2⟩ := hlt
      obtain ⟨a, s, ha, hs, hbx⟩ := hS.box
      obtain ⟨g, off, rfl, hby2⟩ := hby.resolve_left (by omega)
      obtain ⟨z, hz, hcz0⟩ := hby2 j h1
      have hcz : wr.cell? ⟨g, off + j, none⟩ = some (.int .u8 (z : Int)) := (hS.be.cell (World.block_lt_of_cell? _ _ hcz0)).trans hcz0
      obtain ⟨t, ht, hte⟩ : ∃ t : Nat, t < 2147483647 ∧ ((s : Int) * 71 + z) % 2147483647 = (t : Int) := ⟨(((s : Int) * 71 + z) % 2147483647).toNat, by omega, by omega⟩
      have hbx2 := src_set2 hbx (.int .i64 (t : Int))
      have HX2 := Lib.hid hbx2
      have hC2 := Lib.hid (chg_set wr w.heap.size 2 (.int .i64 (t : Int)))
      have p2 : wr.cell? ⟨w.heap.size, 2, none⟩ = some (.int .i64 (s : Int)) := by simp [World.cell?, hbx]
      have f2 : wr.frozen? ⟨w.heap.size, 2, none⟩ = false := by simp [World.frozen?, hbx]
      have W1 : IntKind.i64.wrap ((s : Int) * 71) = (s : Int) * 71 := IntWalk.i64_in _ (by omega)
      have W2 : IntKind.i64.wrap ((s : Int) * 71 + z) = (s : Int) * 71 + z := IntWalk.i64_in _ (by omega)
      have W3 : ((s : Int) * 71 + z).tmod 2147483647 = (t : Int) := by rw [Int.tmod_eq_emod_of_nonneg (by omega)]; exact hte
      have W4 : IntKind.i64.wrap (t : Int) = (t : Int) := IntWalk.i64_in _ (by omega)
      have W5 : IntKind.i64.wrap (z : Int) = (z : Int) := IntWalk.i64_in _ (by omega)
      have hi1 : (0 : Int) ≤ (j : Int) := by omega
      have hi2 : (j : Int) < (n : Int) := by omega
      clear hbx hbx2 hS hby hby2 hcz0 HS0
      go_wp2_with fail
      apply via
      case h =>
        go_region
        all_goals exact ⟨rfl, rfl⟩
      clear W1 W2 W3 W4 W5
      go_wp2_with fail
      go_roundw
      case rel => exact ⟨j + 1, by omega, by go_num, HS.out.chg ((hC2.out).drew 1) ha ht HX2.out⟩
      case measure => simp [intOf]; omega
    · go_wp2_with fail
      all_goals
        go_ret
        exact ⟨_, rfl, HS.out⟩
theorem lit_keep {b : Nat} {w : World} {vs : Array Value} {xs : List Int} {m : Nat} (hb : b < w.heap.size) (h : Rd (w.alloc (.cells vs 2)) (.slice (some ⟨w.heap.size, 0, none⟩) m m) xs) :
    ∀ w', Chg b (b + 1) (w.alloc (.cells vs 2)) w' → Rd w' (.slice (some ⟨w.heap.size, 0, none⟩) m m) xs := fun w' hc => h.chg1 hc (by omega)
theorem rd_formN {w : World} {v : Value} {xs : List Int} (h : Rd w v xs) {n : Nat} (e : xs.length = n) : ∃ ao cap, v = .slice ao n cap ∧ n ≤ cap ∧ cap ≤ 9223372036854775807 := by subst e; exact h.form
theorem l_big (v : Value) (n : Nat) (w : World) (h : RdU w v n) : Calls Tryz.prog 4 #[v] w fun e w' => e = .returned (.bool (decide (4096 < n))) ∧ w = w' := by
  obtain ⟨ao, cap, rfl, h1, h2, _⟩ := h
  by_cases hb : 4096 < n
  · rw [decide_eq_true hb]
    go_enter Tryz.func4, Tryz.ntmps4
    go_wp2
    go_ret
    exact ⟨ret_bool (decide_eq_true (by omega)), rfl⟩
  · rw [decide_eq_false hb]
    go_enter Tryz.func4, Tryz.ntmps4
    go_wp2
    go_ret
    exact ⟨ret_bool (decide_eq_false (by omega)), rfl⟩
set_option maxHeartbeats 400000 in
theorem l_likeInts (va vb : Value) (xs ys : List Int) (w : World) (ha : Rd w va xs) (hb : Rd w vb ys) :
    Calls Tryz.prog 10 #[va, vb] w (RetQuiet w (.bool (decide (xs = ys)))) := by
  obtain ⟨ao, cap, rfl, ha1, ha2, _, hA⟩ := ha
  obtain ⟨bo, cap', rfl, hb1, hb2, _, hB⟩ := hb
  by_cases hl : xs.length = ys.length
  · have HL := Lib.hid hl
    have hl1 : ((xs.length : Int) != ys.length) = false := by simp [hl]
    have hl2 : xs.length ≤ ys.length := by omega
    have hl3 : ys.length ≤ xs.length := by omega
    clear hl
    go_enter Tryz.func10, Tryz.ntmps10
    go_wp2
    go_loopw [5] (fun i wr => ∃ k : Nat, k ≤ xs.length ∧ i = .int .i64 k ∧ (∀ j, j < k → xs.getD j 0 = ys.getD j 0) ∧ ∃ n, wr = w.drewN n) (fun i _ => xs.length - (intOf i).toNat)
    case atStart => exact ⟨0, Nat.zero_le _, rfl, fun j h => by omega, 0, rfl⟩
    case round =>
      obtain ⟨k, hk, rfl, hpre, n, rfl⟩ := hrel
      have HP := Lib.hid hpre
      clear hpre
      by_cases hlt : k < xs.length
      · rcases hA with hA | ⟨b, off, rfl, hA⟩
        · omega
        rcases hB with hB | ⟨b', off', rfl, hB⟩
        · omega
        have hA' := hA k hlt
        have hB' := hB k (by omega)
        clear hA hB
        by_cases hab : xs.getD k 0 = ys.getD k 0
        · have HAB := Lib.hid hab
          rw [← hab] at hB'
          clear hab
          have HX : Hid (∀ j, j < k + 1 → xs.getD j 0 = ys.getD j 0) := fun j hj => by
            by_cases h : j < k
            · exact HP.out j h
            · obtain rfl : j = k := by omega
              exact HAB.out
          clear HP HAB
          generalize xs.getD k 0 = x at hA' hB'
          go_wp2
          go_quiet (fail)
          go_wp2
          go_roundw
          case rel => exact ⟨k + 1, by omega, by go_num, HX.out, by first | exact ⟨_, rfl⟩ | exact drewN_drewN _ _ _⟩
          case measure => simp [intOf]; omega
        · have HAB := Lib.hid hab
          have hab1 : (xs.getD k 0 != ys.getD k 0) = true := by simpa using hab
          clear hab HP
          have HX : Hid (decide (xs = ys) = false) := decide_eq_false fun e => HAB.out (by rw [e])
          clear HAB
          generalize xs.getD k 0 = x at hA' hab1
          generalize ys.getD k 0 = y at hB' hab1
          go_wp2
          go_quiet (fail)
          go_wp2
          go_ret
          exact ⟨ret_bool HX.out.symm, by first | exact ⟨_, rfl⟩ | exact drewN_drewN _ _ _⟩
      · go_wp2
        go_ret
        exact ⟨ret_bool (decide_eq_true (all_eq HL.out fun j hj => HP.out j (by omega))).symm, n, rfl⟩
  · have HL := Lib.hid hl
    have hl1 : ((xs.length : Int) != ys.length) = true := by simp; omega
    clear hl
    go_enter Tryz.func10, Tryz.ntmps10
    go_wp2
    go_ret
    exact ⟨ret_bool (decide_eq_false fun e => HL.out (by rw [e])).symm, 0, rfl⟩
theorem l_like (va vb : Value) (xs ys : List Int) (w : World) (ha : Rd w va xs) (hb : Rd w vb ys) : Calls Tryz.prog 10 #[va, vb] w (RetV w (.bool (decide (xs = ys)))) :=
  (l_likeInts va vb xs ys w ha hb).mono fun _ _ h => h.below
theorem l_like_same (va vb : Value) (xs : List Int) (w : World) (ha : Rd w va xs) (hb : Rd w vb xs) : Calls Tryz.prog 10 #[va, vb] w (RetV w (.bool true)) :=
  (l_like va vb xs xs w ha hb).mono fun _ _ h => by rwa [decide_eq_true rfl] at h
end Go.Proofs.YtnedihpppbjmdaaGreatDoor
