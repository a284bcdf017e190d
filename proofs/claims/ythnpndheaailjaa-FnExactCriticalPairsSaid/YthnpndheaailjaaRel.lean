/-
  PresentationRelators.
-/
import Derived.Test.YthnpndheaailjaaTriv
import Derived.Test.YthnpndheaailjaaPow
import Derived.Deep.RegionHeld3
import Derived.IntWalk
namespace Go.Proofs.Ythnpndheaailjaa
set_option linter.unusedVariables false
set_option linter.unusedSimpArgs false
set_option maxRecDepth 100000
open Go.RowKit

theorem run_appI (w : World) (ty : TypeId) (B : Nat) (v : Value) (xs : List Int) (hown : Ints w B v xs) (vx : Value) (ys : List Int) (hrd : Rd w vx ys) (hn : xs.length ≤ 1000000000) (hm : ys.length ≤ 1000000000) (hB : B ≤ w.heap.size) :
    ∃ v' w', (Builtin.append_ #[22, 22] ty #[v, vx]).run Try.prog w = .ok v' w' ∧ Ints w' B v' (xs ++ ys) ∧ Below B w w' := by
  obtain ⟨i0, hi, hz0, hz1, hz2⟩ := info_parts Try.info2
  obtain ⟨v', w', hr, h1, h2, h3⟩ := run_app w B 22 ty 2 i0 (.int .i64 0) 8 Try.underlying22 hi hz0 hz1 hz2 rfl v xs.length (xs.map (Value.int .i64)) hown vx (ys.map (Value.int .i64)) hrd.cells (ints_oneCell _ _) (by simp [maxLen]; omega) (by simp; omega) hB
  have hg : Grew w w' v v' := ⟨h2, h3⟩
  refine ⟨v', w', hr, ?_, hg.below hB fun g hg => (hown.lt g hg).1⟩
  unfold Ints
  rw [List.length_append, List.map_append]
  simpa using h1
theorem Rd.litI (w : World) (xs : List Int) (h : xs.length ≤ 1000) : Rd (w.alloc (.cells (xs.map (Value.int .i64)).toArray 2)) (.slice (some ⟨w.heap.size, 0, none⟩) xs.length xs.length) xs := by
  refine ⟨_, _, rfl, Nat.le_refl _, by omega, fun h => by (cases h), ?_⟩
  by_cases h0 : xs.length = 0
  · exact .inl h0
  · refine .inr ⟨_, _, rfl, fun j hj => ?_⟩
    have : (xs.map (Value.int .i64))[j]? = some (.int .i64 (xs.getD j 0)) := getD_map_int xs j hj
    simp [hj]
theorem balloc {w0 w : World} (h : Below w0.heap.size w0 w) (o : Obj) : Below w0.heap.size w0 (w.alloc o) := h.alloc h.size o
theorem Rd.lit1 (w : World) (x : Int) : Rd (w.alloc (.cells #[.int .i64 x] 2)) (.slice (some ⟨w.heap.size, 0, none⟩) 1 1) [x] :=
  ⟨_, 1, rfl, by simp, by simp, fun h => by (cases h), .inr ⟨_, _, rfl, fun j hj => by
    obtain rfl : j = 0 := by simpa using hj
    simp⟩⟩
theorem rep_single (x : Int) (m : Nat) : rep [x] m = List.replicate m x := by
  induction m with
  | zero => simp [rep, cat]
  | succ m ih => unfold rep cat at *; rw [List.replicate_succ, List.flatten_cons, ih]; rfl
theorem Ints.lit3 (w : World) (a b c : Int) : Ints (w.alloc (.cells #[.int .i64 a, .int .i64 b, .int .i64 c] 2)) w.heap.size (.slice (some ⟨w.heap.size, 0, none⟩) 3 3) [a, b, c] :=
  ⟨rfl, .inr ⟨w.heap.size, 3, #[.int .i64 a, .int .i64 b, .int .i64 c], rfl, Nat.le_refl _, heap_alloc_new w _, by simp, by simp [maxLen], by simp, by simp⟩⟩
theorem Rd.drew {w : World} {v : Value} {xs : List Int} (h : Rd w v xs) : Rd w.drew v xs := h
def rel1 (p : Pres) (i : Nat) : List Int := List.replicate (p.r i).toNat ((i : Int) + 1) ++ invW (nwL (p.P i))
def rel2 (p : Pres) (i k : Nat) : List Int := [-((i : Int) + 1), (i : Int) + k + 2, (i : Int) + 1] ++ invW (nwL ((p.conj.getD i []).getD k []))
def rels1 (p : Pres) (j : Nat) : List (List Int) := (List.range j).map (rel1 p)
def rels2 (p : Pres) (i m : Nat) : List (List Int) := (List.range m).map (rel2 p i)
def rels2s (p : Pres) (j : Nat) : List (List Int) := (List.range j).flatMap fun i => rels2 p i (p.conj.getD i []).length
def relL (p : Pres) : List (List Int) := rels1 p p.n ++ rels2s p p.n
theorem rels1_succ (p : Pres) (j : Nat) : rels1 p (j + 1) = rels1 p j ++ [rel1 p j] := by simp [rels1, List.range_succ]
theorem rels2_succ (p : Pres) (i m : Nat) : rels2 p i (m + 1) = rels2 p i m ++ [rel2 p i m] := by simp [rels2, List.range_succ]
theorem rels2s_succ (p : Pres) (j : Nat) : rels2s p (j + 1) = rels2s p j ++ rels2 p j (p.conj.getD j []).length := by simp [rels2s, List.range_succ]
theorem rels1_len (p : Pres) (j : Nat) : (rels1 p j).length = j := by simp [rels1]
theorem ValidP.smP {p : Pres} (h : ValidP p) {i : Nat} (hi : i < p.n) : SmE (p.P i) := tailB_sm (ordB_true h.ord).1 h.n6 (rowB_true (h.row i hi)).1
theorem ValidP.smC {p : Pres} (h : ValidP p) {i k : Nat} (hi : i < p.n) (hk : k < (p.conj.getD i []).length) : SmE ((p.conj.getD i []).getD k []) := tailB_sm (ordB_true h.ord).1 h.n6 ((rowB_true (h.row i hi)).2.2 k hk)
theorem rels2s_len {p : Pres} (h : ValidP p) (j : Nat) (hj : j ≤ p.n) : (rels2s p j).length ≤ 6 * j := by
  induction j with
  | zero => simp [rels2s]
  | succ j ih =>
    have := ih (by omega)
    have := h.clen j (by omega)
    have := h.n6
    rw [rels2s_succ, List.length_append]
    have e : (rels2 p j (p.conj.getD j []).length).length = (p.conj.getD j []).length := by simp [rels2]
    omega
--== impl.PresentationRelators, the first loop's round
set_option maxHeartbeats 8000000 in
theorem i_PresentationRelators' (v1 v2 v3 : Value) (p : Pres) (w : World) (hp : RdP w v1 v2 v3 p) (hV : validB p = true) :
    Calls Try.prog 28 #[.agg #[v1, v2, v3]] w fun e w' => ∃ v, e = .returned (.tuple #[v, .int .i64 0]) ∧ O2 w' (win w.heap.size w'.heap.size) v (relL p) ∧ Below w.heap.size w w' := by
  obtain ⟨i0, hi, hz0, hz1, hz2⟩ := info_parts Try.infoRow
  have HP := Lib.hid hp
  obtain ⟨a1, c1, rfl, hq1, hq2⟩ := hp.1.form
  obtain ⟨a2, c2, rfl, hq3, hq4⟩ := hp.2.1.form
  obtain ⟨a3, c3, rfl, hq5, hq6⟩ := hp.2.2.form
  have HVd := Lib.hid (validB_true.1 hV)
  have hn6 : p.orders.length ≤ 6 := HVd.out.n6
  have HPl : Hid (p.powers.length = p.orders.length) := HVd.out.pl
  have HCl : Hid (p.conj.length = p.orders.length) := HVd.out.cl
  have g0 := below_alloc w (Obj.cells #[Value.slice a1 p.orders.length c1, Value.slice a2 p.powers.length c2, Value.slice a3 p.conj.length c3] 32)
  have B0 := Bx.new w (Value.slice a1 p.orders.length c1) (Value.slice a2 p.powers.length c2) (Value.slice a3 p.conj.length c3)
  clear hp
  go_enter Try.func28, Try.ntmps28
  go_wp2_with fail
  refine (i_IsPresentation _ _ _ p _ (HP.out.below g0)).mono ?_
  rintro e w1 ⟨rfl, hb⟩
  rw [hV]
  have g1 := below_size g0 hb
  have B1 := B0.below hb (by simp)
  have m0 := B1.c0
  clear hb hV B0
  go_wp2_with fail
  go_loopw [4, 18] (fun u i wr => ∃ j : Nat, j ≤ p.orders.length ∧ i = .int .i64 j ∧ O2 wr (win (w.heap.size + 1) wr.heap.size) u (rels1 p j) ∧ Below w.heap.size w wr ∧ Bx wr w.heap.size (Value.slice a1 p.orders.length c1) (Value.slice a2 p.powers.length c2) (Value.slice a3 p.conj.length c3)) (fun _ i _ => p.orders.length - (intOf i).toNat)
  case atStart => exact ⟨0, Nat.zero_le _, rfl, local_O2.nil _ _, g1, B1⟩
  case round =>
    clear m0 g1 B1
    obtain ⟨j, hj, rfl, hO, hB, hX⟩ := hrel
    have hS := hB.size
    have hXl := hX.lt
    by_cases hlt : j < p.orders.length
    · obtain ⟨bo, offo, rfl, hco⟩ := (HP.out.1.below hB).at hlt
      obtain ⟨bp, offp, r, rfl, hcp, hr⟩ := (HP.out.2.1.below hB).at (show j < p.powers.length by rw [HPl.out]; exact hlt)
      have hpl : j < p.powers.length := by rw [HPl.out]; exact hlt
      obtain ⟨ar, cr, rfl, _, _⟩ := hr.form
      have hbp : bp < w.heap.size + 1 := by
        obtain ⟨b', off', r', he, hc', _⟩ := HP.out.2.1.at hpl
        cases he
        have := World.block_lt_of_cell? w _ hc'
        show bp < _; simp at this; omega
      have hob := HVd.out.rk j hlt
      obtain ⟨m, hm⟩ : ∃ m : Nat, p.orders.getD j 0 = (m : Int) := ⟨(p.orders.getD j 0).toNat, by unfold Pres.r at hob; omega⟩
      rw [hm] at hco
      have hm7 : m ≤ 7 := by unfold Pres.r at hob; omega
      have HS := Lib.hid (rels1_succ p j)
      have HE : Hid (rel1 p j = List.replicate m ((j : Int) + 1) ++ invW (nwL (p.powers.getD j []))) := by show rel1 p j = _; unfold rel1 Pres.r Pres.P; rw [hm, Int.toNat_natCast]
      have hsm : SmE (p.powers.getD j []) := HVd.out.smP hlt
      have HSm := Lib.hid hsm
      have hll : (rels1 p j).length ≤ 1000 := by rw [rels1_len]; omega
      have m1 := hX.c1
      clear hm hob hsm
      generalize p.powers.getD j [] = y at *
      generalize rels1 p j = R at *
      have W1 : IntKind.i64.wrap ((j : Int) + 1) = (j : Int) + 1 := IntWalk.i64_in _ (by omega)
      go_wp2_with fail
      have KEEP : Hid (∀ wx, Below (w.heap.size + 1) wr wx → wx.cell? ⟨w.heap.size, 1, none⟩ = some (Value.slice (some ⟨bp, offp, none⟩) p.powers.length c2) ∧ wx.cell? ⟨bp, offp + j, none⟩ = some (Value.slice ar y.length cr)) :=
        fun wx hb => ⟨(hb.cell (p := ⟨w.heap.size, 1, none⟩) (Nat.lt_succ_self _)).trans m1, (hb.cell (p := ⟨bp, offp + j, none⟩) hbp).trans hcp⟩
      have KB : Hid (∀ wx, Below wr.heap.size wr wx → wx.cell? ⟨w.heap.size, 1, none⟩ = some (Value.slice (some ⟨bp, offp, none⟩) p.powers.length c2) ∧ wx.cell? ⟨bp, offp + j, none⟩ = some (Value.slice ar y.length cr)) :=
        fun wx hb => KEEP.out wx (hb.mono hXl)
      have HO := Lib.hid hO
      go_region_held3 (fun wx => wx.cell? ⟨w.heap.size, 1, none⟩ = some (Value.slice (some ⟨bp, offp, none⟩) p.powers.length c2) ∧ wx.cell? ⟨bp, offp + j, none⟩ = some (Value.slice ar y.length cr))
        (first
          | exact KB.out _ (Below.refl _ _).drew
          | exact KB.out _ (below_alloc wr _).drew
          | exact KEEP.out _ hK6
          | exact KB.out _ hK5
          | exact KB.out _ (balloc hK5 _)
          | exact KB.out _ hK4
          | exact KB.out _ hK3
          | exact KB.out _ hK2)
        (first
          | ((go_at_call 77); (refine (f_Repeat _ [(j : Int) + 1] m _ (Rd.drew (Rd.lit1 wr ((j : Int) + 1))) (by simp) (by omega)).mono ?_); (rintro e w2 ⟨v2, rfl, hI2', hB2⟩); (have hK2 : Below wr.heap.size wr w2 := below_size (below_alloc wr _).drew hB2); (have hI2 := hI2'.mono (B' := wr.heap.size) (by simp)); (clear hI2'); (obtain ⟨a2', c2', rfl, _, _⟩ := hI2.form))
          | ((go_at_call 93); (refine (i_normalWord _ y _ (hr.below hK2) HSm.out).mono ?_); (rintro e w3 ⟨v3, rfl, hI3, hB3⟩); (have hI2b := hI2.below hB3); (have hK3 : Below wr.heap.size wr w3 := below_size hK2 hB3))
          | ((go_at_call 74); (refine (i_invertWord _ (nwL y) _ hI3.rd (by have := nwL_len HSm.out; omega) (nwL_small HSm.out)).mono ?_); (rintro e w4 ⟨v4, rfl, hI4, hB4⟩); (have hI2c := hI2b.below hB4); (have hK4 : Below wr.heap.size wr w4 := below_size hK3 hB4))
          | (obtain ⟨v5, w5, hr5, hI5, hB5⟩ := run_appI w4 22 _ _ _ hI2c _ _ hI4.rd (by rw [rep_length]; simp; omega) (by rw [invW_length]; have := nwL_len HSm.out; omega) hK4.size
             have hK5 : Below wr.heap.size wr w5 := hK4.trans hB5
             obtain ⟨a5, c5, e5, _, _⟩ := hI5.form
             rw [List.length_append] at e5
             subst e5
             refine step_of_run rfl (.tmp 28) (.tmp 35) 22 rfl _ _ (by simp [Act.eval, Act.put]) (by simp [Act.eval, Act.put]) _ _ hr5 ?_)
          | (have hO5 := local_O2.below HO.out hK5
             obtain ⟨v6, w6, hr6, hO6, hC6⟩ := run_appO local_O1 w5 29 29 i0 Try.underlying29 hi hz0 hz1 hz2 _ _ _ _ hO5 _ _ hI5.o1 rfl (fun k hk h => by have h1 := hk.1; have h2 := h.2; omega) (by omega)
             have hK6 : Below (w.heap.size + 1) wr w6 := (hK5.mono hXl).trans (hC6.below (fun k hk => hk.1.1) (Nat.le_trans hXl hK5.size))
             refine step_of_run rfl (.tmp 23) (.tmp 37) 29 rfl _ _ (by simp [Act.eval, Act.put]) (by simp [Act.eval, Act.put]) _ _ hr6 ?_))
      have hO6' : O2 w6 (win (w.heap.size + 1) w6.heap.size) v6 (R ++ [rep [(j : Int) + 1] m ++ invW (nwL y)]) := local_O2.mono hO6 (fun k hk h => ⟨by
        rcases h with ⟨h | h, _⟩ | h
        · exact h.1
        · have h1 := h.1; omega
        · have h1 := h.1; have h2 := hK5.size; omega, hk⟩)
      have hB6 : Below w.heap.size w w6 := hB.trans (hK6.mono (Nat.le_succ _))
      have hX6 := hX.below hK6 (Nat.lt_succ_self _)
      clear hO6 hC6 hI5 hI2 hI2b hI2c hI3 hI4 hK2 hK3 hK4 hK5 hK6 KEEP KB hX hB hr5 hr6 hB2 hB3 hB4 hB5 hO5 W1
      go_wp2_with fail
      go_roundw
      case rel => exact ⟨j + 1, by omega, by go_num, by rw [HS.out, HE.out, ← rep_single]; exact hO6', hB6, hX6⟩
      case measure => simp [intOf]; omega
    · obtain rfl : j = p.orders.length := by omega
      have n0 := hX.c0
      go_wp2_with fail
      clear n0
      go_loopw [4, 43] (fun u i wr => ∃ j : Nat, j ≤ p.orders.length ∧ i = .int .i64 j ∧ O2 wr (win (w.heap.size + 1) wr.heap.size) u (rels1 p p.orders.length ++ rels2s p j) ∧ Below w.heap.size w wr ∧ Bx wr w.heap.size (Value.slice a1 p.orders.length c1) (Value.slice a2 p.powers.length c2) (Value.slice a3 p.conj.length c3)) (fun _ i _ => p.orders.length - (intOf i).toNat)
      case atStart => exact ⟨0, Nat.zero_le _, rfl, by rw [show rels2s p 0 = [] from rfl, List.append_nil]; exact hO, hB, hX⟩
      case round =>
        clear hO hB hX hS hXl hj hlt
        obtain ⟨j, hj, rfl, hO, hB, hX⟩ := hrel
        by_cases hlt : j < p.orders.length
        · obtain ⟨bp, offp, r, rfl, hcp, hr⟩ := (HP.out.2.2.below hB).at (show j < p.conj.length by rw [HCl.out]; exact hlt)
          have hpl : j < p.conj.length := by rw [HCl.out]; exact hlt
          obtain ⟨ar, cr, rfl, _, _⟩ := hr.form
          have n2 := hX.c2
          have hlen := HVd.out.clen j hlt
          unfold Pres.n at hlen
          have hll : (rels1 p p.orders.length ++ rels2s p j).length ≤ 100 := by
            have h1 := rels2s_len HVd.out j (Nat.le_of_lt hlt)
            rw [List.length_append, rels1_len]; omega
          have HS := Lib.hid (rels2s_succ p j)
          have HSm : Hid (∀ k, k < (p.conj.getD j []).length → SmE ((p.conj.getD j []).getD k [])) := fun k hk => HVd.out.smC hlt hk
          have HR2 : Hid (∀ k, rel2 p j k = [-((j : Int) + 1), (j : Int) + k + 2, (j : Int) + 1] ++ invW (nwL ((p.conj.getD j []).getD k []))) := fun k => rfl
          have HRr : Hid (Rd2 w (.slice ar (p.conj.getD j []).length cr) (p.conj.getD j [])) := by
            obtain ⟨b', off', r', he, hc', hr'⟩ := HP.out.2.2.at hpl
            cases he
            have hc2 := (hB.cell (World.block_lt_of_cell? w _ hc')).trans hc'
            rw [hcp] at hc2
            cases hc2
            exact hr'
          have HSk := Lib.hid (fun m => rels2_succ p j m)
          have HL2 : Hid (∀ m, (rels2 p j m).length = m) := fun m => by simp [rels2]
          have HZ : Hid (rels2 p j 0 = []) := rfl
          have HS' : Hid (rels1 p p.orders.length ++ rels2s p (j + 1) = rels1 p p.orders.length ++ rels2s p j ++ rels2 p j (p.conj.getD j []).length) := by show _ = _; rw [HS.out, List.append_assoc]
          clear HS
          generalize rels1 p p.orders.length ++ rels2s p j = R0 at *
          generalize rels2 p j = R2 at *
          generalize rel2 p j = r2 at *
          generalize p.conj.getD j [] = cj at *
          go_wp2_with fail
          go_loopw [4, 52] (fun u i wr => ∃ k : Nat, k ≤ cj.length ∧ i = .int .i64 k ∧ O2 wr (win (w.heap.size + 1) wr.heap.size) u (R0 ++ R2 k) ∧ Below w.heap.size w wr ∧ Bx wr w.heap.size (Value.slice a1 p.orders.length c1) (Value.slice a2 p.powers.length c2) (Value.slice (some ⟨bp, offp, none⟩) p.conj.length c3)) (fun _ i _ => cj.length - (intOf i).toNat)
          case atStart => exact ⟨0, Nat.zero_le _, rfl, by rw [HZ.out, List.append_nil]; exact hO, hB, hX⟩
          case round =>
            clear hO hB hX hcp hr n2
            obtain ⟨k, hk, rfl, hO, hB, hX⟩ := hrel
            have hXl := hX.lt
            by_cases hkl : k < cj.length
            · obtain ⟨bq, offq, r, rfl, hcq, hrq⟩ := (HRr.out.below hB).at hkl
              obtain ⟨ar', cr', rfl, _, _⟩ := hrq.form
              have HSy := Lib.hid (HSm.out k hkl)
              have HR2k := Lib.hid (HR2.out k)
              have HSkk := Lib.hid (HSk.out k)
              have hlk : (R0 ++ R2 k).length ≤ 1000 := by rw [List.length_append, HL2.out]; omega
              generalize cj.getD k [] = y at *
              go_wp2_with fail
              refine (i_normalWord _ y _ (hrq.below (below_alloc wr _)) HSy.out).mono ?_
              rintro e w3 ⟨v3, rfl, hI3, hB3⟩
              have hK3 : Below wr.heap.size wr w3 := below_size (below_alloc wr _) hB3
              have hI2 := (Ints.lit3 wr (-((j : Int) + 1)) ((j : Int) + k + 2) ((j : Int) + 1)).below hB3
              clear hB3
              go_wp2_with fail
              refine (i_invertWord _ (nwL y) _ hI3.rd (by have := nwL_len HSy.out; omega) (nwL_small HSy.out)).mono ?_
              rintro e w4 ⟨v4, rfl, hI4, hB4⟩
              have hK4 : Below wr.heap.size wr w4 := below_size hK3 hB4
              have hI2c := hI2.below hB4
              clear hB4 hI2
              obtain ⟨v5, w5, hr5, hI5, hB5⟩ := run_appI w4 22 _ _ _ hI2c _ _ hI4.rd (by simp) (by rw [invW_length]; have := nwL_len HSy.out; omega) hK4.size
              have hK5 : Below wr.heap.size wr w5 := hK4.trans hB5
              obtain ⟨a5, c5, e5, _, _⟩ := hI5.form
              rw [List.length_append] at e5
              subst e5
              have hO5 := local_O2.below hO hK5
              obtain ⟨v6, w6, hr6, hO6, hC6⟩ := run_appO local_O1 w5 29 29 i0 Try.underlying29 hi hz0 hz1 hz2 _ _ _ _ hO5 _ _ hI5.o1 rfl (fun k hk h => by have h1 := hk.1; have h2 := h.2; omega) (by omega)
              have hK6 : Below (w.heap.size + 1) wr w6 := (hK5.mono hXl).trans (hC6.below (fun k hk => hk.1.1) (Nat.le_trans hXl hK5.size))
              have hO6' : O2 w6 (win (w.heap.size + 1) w6.heap.size) v6 (R0 ++ R2 k ++ [[-((j : Int) + 1), (j : Int) + k + 2, (j : Int) + 1] ++ invW (nwL y)]) := local_O2.mono hO6 (fun k hk h => ⟨by
                rcases h with ⟨h | h, _⟩ | h
                · exact h.1
                · have h1 := h.1; omega
                · have h1 := h.1; have h2 := hK5.size; omega, hk⟩)
              have hB6 : Below w.heap.size w w6 := hB.trans (hK6.mono (Nat.le_succ _))
              have hX6 := hX.below hK6 (Nat.lt_succ_self _)
              have HF : Hid (R0 ++ R2 (k + 1) = R0 ++ R2 k ++ [[-((j : Int) + 1), (j : Int) + k + 2, (j : Int) + 1] ++ invW (nwL y)]) := by show _ = _; rw [HSkk.out, HR2k.out, List.append_assoc]
              clear hO6 hC6 hI5 hI2c hI3 hI4 hK3 hK4 hK5 hK6 hX hB hB5 hO5 hO
              generalize R0 ++ R2 k = Rk at *
              go_wp2_with (first | (at_builtin; refine wp_of_run _ rfl _ _ _ rfl _ _ rfl rfl _ _ hr5 ?_) | (at_builtin; refine wp_of_run _ rfl _ _ _ rfl _ _ rfl rfl _ _ hr6 ?_))
              go_roundw
              case rel => exact ⟨k + 1, by omega, by go_num, by rw [HF.out]; exact hO6', hB6, hX6⟩
              case measure => simp [intOf]; omega
            · obtain rfl : k = cj.length := by omega
              go_wp2_with fail
              go_roundw
              case rel => exact ⟨j + 1, by omega, by go_num, by rw [HS'.out]; exact hO, hB, hX⟩
              case measure => simp [intOf]; omega
        · obtain rfl : j = p.orders.length := by omega
          go_wp2_with fail
          go_ret2
          exact ⟨_, rfl, local_O2.mono hO (fun k _ hk => ⟨by have := hk.1; omega, hk.2⟩), hB⟩
--== spec.l07Relators
set_option maxHeartbeats 8000000 in
theorem s_l07Relators (v1 v2 v3 : Value) (p : Pres) (w : World) (hp : RdP w v1 v2 v3 p) (hV : validB p = true) :
    Calls Try.prog 90 #[.agg #[v1, v2, v3]] w (RetO O2 w (relL p)) := by
  obtain ⟨i0, hi, hz0, hz1, hz2⟩ := info_parts Try.infoRow
  obtain ⟨j0, ji, jz0, jz1, jz2⟩ := info_parts Try.info2
  have HP := Lib.hid hp
  obtain ⟨a1, c1, rfl, hq1, hq2⟩ := hp.1.form
  obtain ⟨a2, c2, rfl, hq3, hq4⟩ := hp.2.1.form
  obtain ⟨a3, c3, rfl, hq5, hq6⟩ := hp.2.2.form
  have HVd := Lib.hid (validB_true.1 hV)
  have hn6 : p.orders.length ≤ 6 := HVd.out.n6
  have HPl : Hid (p.powers.length = p.orders.length) := HVd.out.pl
  have HCl : Hid (p.conj.length = p.orders.length) := HVd.out.cl
  have g0 := below_alloc w (Obj.cells #[Value.slice a1 p.orders.length c1, Value.slice a2 p.powers.length c2, Value.slice a3 p.conj.length c3] 32)
  have B0 := Bx.new w (Value.slice a1 p.orders.length c1) (Value.slice a2 p.powers.length c2) (Value.slice a3 p.conj.length c3)
  have E0 : O2 ((w.alloc (Obj.cells #[Value.slice a1 p.orders.length c1, Value.slice a2 p.powers.length c2, Value.slice a3 p.conj.length c3] 32)).alloc (.cells #[] 22)) (win (w.heap.size + 1) (w.heap.size + 1 + 1)) (.slice (some ⟨w.heap.size + 1, 0, none⟩) 0 0) [] := by
    have h := local_O2.mono (ON.empty (e := 22) (O := O1) (w.alloc (Obj.cells #[Value.slice a1 p.orders.length c1, Value.slice a2 p.powers.length c2, Value.slice a3 p.conj.length c3] 32))) (S' := win (w.heap.size + 1) (w.heap.size + 1 + 1)) (fun k _ hk => ⟨by simp at hk; omega, by simp at hk; omega⟩)
    simpa using h
  have g0' := g0.alloc (by simp) (.cells #[] 22)
  have B0' := B0.old (.cells #[] 22)
  clear hp hV g0 B0
  go_enter Try.func90, Try.ntmps90
  go_wp2_with fail
  go_loopw [3, 5] (fun u i wr => ∃ j : Nat, j ≤ p.orders.length ∧ i = .int .i64 j ∧ O2 wr (win (w.heap.size + 1) wr.heap.size) u (rels1 p j) ∧ Below w.heap.size w wr ∧ Bx wr w.heap.size (Value.slice a1 p.orders.length c1) (Value.slice a2 p.powers.length c2) (Value.slice a3 p.conj.length c3)) (fun _ i _ => p.orders.length - (intOf i).toNat)
  case atStart => exact ⟨0, Nat.zero_le _, rfl, by rw [show rels1 p 0 = [] from rfl]; simpa using E0, g0', B0'⟩
  case round =>
    clear g0' B0' E0
    obtain ⟨j, hj, rfl, hO, hB, hX⟩ := hrel
    have hXl := hX.lt
    by_cases hlt : j < p.orders.length
    · obtain ⟨bo, offo, rfl, hco⟩ := (HP.out.1.below hB).at hlt
      obtain ⟨bp, offp, r, rfl, hcp, hr⟩ := (HP.out.2.1.below hB).at (show j < p.powers.length by rw [HPl.out]; exact hlt)
      have hpl : j < p.powers.length := by rw [HPl.out]; exact hlt
      obtain ⟨ar, cr, rfl, _, _⟩ := hr.form
      have hob := HVd.out.rk j hlt
      obtain ⟨m, hm⟩ : ∃ m : Nat, p.orders.getD j 0 = (m : Int) := ⟨(p.orders.getD j 0).toNat, by unfold Pres.r at hob; omega⟩
      rw [hm] at hco
      have hm7 : m ≤ 7 := by unfold Pres.r at hob; omega
      have HS := Lib.hid (rels1_succ p j)
      have HE : Hid (rel1 p j = List.replicate m ((j : Int) + 1) ++ invW (nwL (p.powers.getD j []))) := by show rel1 p j = _; unfold rel1 Pres.r Pres.P; rw [hm, Int.toNat_natCast]
      have HSy : Hid (SmE (p.powers.getD j [])) := HVd.out.smP hlt
      have hll : (rels1 p j).length ≤ 1000 := by rw [rels1_len]; omega
      clear hm hob
      generalize p.powers.getD j [] = y at *
      generalize rels1 p j = R at *
      obtain ⟨wo, hwo⟩ : ∃ x, x = wr := ⟨_, rfl⟩
      subst hwo
      have hco' := hco
      have m0 := hX.c0
      go_wp2_with fail
      go_loopw [6, 7] (fun u t wr2 => ∃ k : Nat, k ≤ m ∧ t = .int .i64 k ∧ Ints wr2 wo.heap.size u (List.replicate k ((j : Int) + 1)) ∧ Below wo.heap.size wo wr2) (fun _ t _ => m - (intOf t).toNat)
      case atStart => exact ⟨0, Nat.zero_le _, rfl, Ints.empty wo, below_alloc wo _⟩
      case round =>
        clear hco' m0
        obtain ⟨k, hk, rfl, hI2c0, hBi⟩ := hrel
        have n0 : wr.cell? ⟨w.heap.size, 0, none⟩ = some (Value.slice (some ⟨bo, offo, none⟩) p.orders.length c1) := (hBi.cell (p := ⟨w.heap.size, 0, none⟩) hXl).trans hX.c0
        have nco : wr.cell? ⟨bo, offo + j, none⟩ = some (.int .i64 (m : Int)) := (hBi.cell (p := ⟨bo, offo + j, none⟩) (World.block_lt_of_cell? wo _ hco)).trans hco
        have hSi := hBi.size
        by_cases hkm : k < m
        · have hl : (List.replicate k ((j : Int) + 1)).length ≤ 1000000000 := by simp; omega
          have HR := Lib.hid (rep_snoc [] k ((j : Int) + 1))
          simp only [List.nil_append] at HR
          generalize List.replicate k ((j : Int) + 1) = Q at *
          go_wp2_with (at_builtin; refine wp_app1 _ rfl _ _ rfl wo.heap.size j0 Try.underlying22 ji jz0 jz1 jz2 _ _ rfl hI2c0 ((j : Int) + 1) rfl hl (by omega) ?_)
          intro v' w1 hI1 hG hB1
          go_wp2_with fail
          go_roundw
          case rel => exact ⟨k + 1, by omega, by go_num, by rw [← HR.out]; exact hI1, hBi.trans hB1⟩
          case measure => simp [intOf]; omega
        · obtain rfl : k = m := by omega
          have n1 : wr.cell? ⟨w.heap.size, 1, none⟩ = some (Value.slice (some ⟨bp, offp, none⟩) p.powers.length c2) := (hBi.cell (p := ⟨w.heap.size, 1, none⟩) hXl).trans hX.c1
          have ncp : wr.cell? ⟨bp, offp + j, none⟩ = some (Value.slice ar y.length cr) := (hBi.cell (p := ⟨bp, offp + j, none⟩) (World.block_lt_of_cell? wo _ hcp)).trans hcp
          go_wp2_with fail
          refine (s_l07Word _ y _ (hr.below hBi) HSy.out).mono ?_
          rintro e w3 ⟨v3, rfl, hI3, hB3⟩
          have hK3 : Below wo.heap.size wo w3 := below_size hBi hB3
          have hI2 := hI2c0.below hB3
          clear hB3
          go_wp2_with fail
          refine (s_l06Invert _ (nwL y) _ hI3.rd (by have := nwL_len HSy.out; omega) (nwL_small HSy.out)).mono ?_
          rintro e w4 ⟨v4, rfl, hI4, hB4⟩
          have hK4 : Below wo.heap.size wo w4 := below_size hK3 hB4
          have hI2c := hI2.below hB4
          clear hB4 hI2
          obtain ⟨v5, w5, hr5, hI5, hB5⟩ := run_appI w4 22 _ _ _ hI2c _ _ hI4.rd (by simp; omega) (by rw [invW_length]; have := nwL_len HSy.out; omega) hK4.size
          have hK5 : Below wo.heap.size wo w5 := hK4.trans hB5
          obtain ⟨a5, c5, e5, _, _⟩ := hI5.form
          rw [List.length_append, List.length_replicate] at e5
          subst e5
          have hO5 := local_O2.below hO hK5
          obtain ⟨v6, w6, hr6, hO6, hC6⟩ := run_appO local_O1 w5 29 29 i0 Try.underlying29 hi hz0 hz1 hz2 _ _ _ _ hO5 _ _ hI5.o1 rfl (fun k hk h => by have h1 := hk.1; have h2 := h.2; omega) (by omega)
          have hK6 : Below (w.heap.size + 1) wo w6 := (hK5.mono hXl).trans (hC6.below (fun k hk => hk.1.1) (Nat.le_trans hXl hK5.size))
          have hO6' : O2 w6 (win (w.heap.size + 1) w6.heap.size) v6 (R ++ [List.replicate k ((j : Int) + 1) ++ invW (nwL y)]) := local_O2.mono hO6 (fun k hk h => ⟨by
            rcases h with ⟨h | h, _⟩ | h
            · exact h.1
            · have h1 := h.1; omega
            · have h1 := h.1; have h2 := hK5.size; omega, hk⟩)
          have hB6 : Below w.heap.size w w6 := hB.trans (hK6.mono (Nat.le_succ _))
          have hX6 := hX.below hK6 (Nat.lt_succ_self _)
          clear hO6 hC6 hI5 hI2c hI2c0 hI3 hI4 hK3 hK4 hK5 hK6 hX hB hB5 hO5 hO hBi n0 nco n1 ncp
          go_wp2_with (first | (at_builtin; refine wp_of_run _ rfl _ _ _ rfl _ _ rfl rfl _ _ hr5 ?_) | (at_builtin; refine wp_of_run _ rfl _ _ _ rfl _ _ rfl rfl _ _ hr6 ?_))
          go_roundw
          case rel => exact ⟨j + 1, by omega, by go_num, by rw [HS.out, HE.out]; exact hO6', hB6, hX6⟩
          case measure => simp [intOf]; omega
    · obtain rfl : j = p.orders.length := by omega
      go_wp2_with fail
      go_loopw [3, 8] (fun u i wr => ∃ j : Nat, j ≤ p.orders.length ∧ i = .int .i64 j ∧ O2 wr (win (w.heap.size + 1) wr.heap.size) u (rels1 p p.orders.length ++ rels2s p j) ∧ Below w.heap.size w wr ∧ Bx wr w.heap.size (Value.slice a1 p.orders.length c1) (Value.slice a2 p.powers.length c2) (Value.slice a3 p.conj.length c3)) (fun _ i _ => p.orders.length - (intOf i).toNat)
      case atStart => exact ⟨0, Nat.zero_le _, rfl, by rw [show rels2s p 0 = [] from rfl, List.append_nil]; exact hO, hB, hX⟩
      case round =>
        clear hO hB hX hXl hj hlt
        obtain ⟨j, hj, rfl, hO, hB, hX⟩ := hrel
        by_cases hlt : j < p.orders.length
        · have hpl : j < p.conj.length := by rw [HCl.out]; exact hlt
          obtain ⟨bp, offp, r, rfl, hcp0, hr⟩ := HP.out.2.2.at hpl
          obtain ⟨ar, cr, rfl, _, _⟩ := hr.form
          have hlen := HVd.out.clen j hlt
          unfold Pres.n at hlen
          have hll : (rels1 p p.orders.length ++ rels2s p j).length ≤ 100 := by
            have h1 := rels2s_len HVd.out j (Nat.le_of_lt hlt)
            rw [List.length_append, rels1_len]; omega
          have HSm : Hid (∀ k, k < (p.conj.getD j []).length → SmE ((p.conj.getD j []).getD k [])) := fun k hk => HVd.out.smC hlt hk
          have HR2 : Hid (∀ k, rel2 p j k = [-(j : Int) - 1, (j : Int) + 1 + k + 1, (j : Int) + 1] ++ invW (nwL ((p.conj.getD j []).getD k []))) := fun (k : Nat) => by
            show rel2 p j k = _
            unfold rel2
            rw [show -((j : Int) + 1) = -(j : Int) - 1 by omega, show (j : Int) + k + 2 = (j : Int) + 1 + k + 1 by omega]
          have HRr := Lib.hid hr
          have HCp := Lib.hid hcp0
          have HSk := Lib.hid (fun m => rels2_succ p j m)
          have HL2 : Hid (∀ m, (rels2 p j m).length = m) := fun m => by simp [rels2]
          have HZ : Hid (rels2 p j 0 = []) := rfl
          have HS' : Hid (rels1 p p.orders.length ++ rels2s p (j + 1) = rels1 p p.orders.length ++ rels2s p j ++ rels2 p j (p.conj.getD j []).length) := by show _ = _; rw [rels2s_succ, List.append_assoc]
          clear hr hcp0
          generalize rels1 p p.orders.length ++ rels2s p j = R0 at *
          generalize rels2 p j = R2 at *
          generalize rel2 p j = r2 at *
          generalize p.conj.getD j [] = cj at *
          have HLn := Lib.hid hlen
          have hlen1 : cj.length + 1 + j ≤ p.orders.length := by omega
          have hlen2 : p.orders.length ≤ cj.length + 1 + j := by omega
          clear hlen
          go_wp2_with fail
          go_loopw [3, 9] (fun u i wr => ∃ k : Nat, k ≤ cj.length ∧ i = .int .i64 ((j : Int) + 1 + k) ∧ O2 wr (win (w.heap.size + 1) wr.heap.size) u (R0 ++ R2 k) ∧ Below w.heap.size w wr ∧ Bx wr w.heap.size (Value.slice a1 p.orders.length c1) (Value.slice a2 p.powers.length c2) (Value.slice (some ⟨bp, offp, none⟩) p.conj.length c3)) (fun _ i _ => p.orders.length - (intOf i).toNat)
          case atStart => exact ⟨0, Nat.zero_le _, by go_num, by rw [HZ.out, List.append_nil]; exact hO, hB, hX⟩
          case round =>
            clear hO hB hX
            obtain ⟨k, hk, rfl, hO, hB, hX⟩ := hrel
            have hXl := hX.lt
            have n2 := hX.c2
            have ncp : wr.cell? ⟨bp, offp + j, none⟩ = some (Value.slice ar cj.length cr) := (hB.cell (World.block_lt_of_cell? w _ HCp.out)).trans HCp.out
            by_cases hkl : k < cj.length
            · obtain ⟨bq, offq, r, rfl, hcq, hrq⟩ := (HRr.out.below hB).at hkl
              obtain ⟨ar', cr', rfl, _, _⟩ := hrq.form
              have HSy := Lib.hid (HSm.out k hkl)
              have HR2k := Lib.hid (HR2.out k)
              have HSkk := Lib.hid (HSk.out k)
              have hlk : (R0 ++ R2 k).length ≤ 1000 := by rw [List.length_append, HL2.out]; omega
              have hidx : (j : Int) + 1 + k - j - 1 = k := by omega
              have hbp : bp < wr.heap.size := World.block_lt_of_cell? wr _ ncp
              have hbq : bq < wr.heap.size := World.block_lt_of_cell? wr _ hcq
              have hin : (j : Int) + 1 + k < p.orders.length := by omega
              generalize cj.getD k [] = y at *
              go_wp2_with fail
              refine (s_l07Word _ y _ (hrq.below (below_alloc wr _)) HSy.out).mono ?_
              rintro e w3 ⟨v3, rfl, hI3, hB3⟩
              have hK3 : Below wr.heap.size wr w3 := below_size (below_alloc wr _) hB3
              have hI2 := (Ints.lit3 wr (-(j : Int) - 1) ((j : Int) + 1 + k + 1) ((j : Int) + 1)).below hB3
              clear hB3
              go_wp2_with fail
              refine (s_l06Invert _ (nwL y) _ hI3.rd (by have := nwL_len HSy.out; omega) (nwL_small HSy.out)).mono ?_
              rintro e w4 ⟨v4, rfl, hI4, hB4⟩
              have hK4 : Below wr.heap.size wr w4 := below_size hK3 hB4
              have hI2c := hI2.below hB4
              clear hB4 hI2
              obtain ⟨v5, w5, hr5, hI5, hB5⟩ := run_appI w4 22 _ _ _ hI2c _ _ hI4.rd (by simp) (by rw [invW_length]; have := nwL_len HSy.out; omega) hK4.size
              have hK5 : Below wr.heap.size wr w5 := hK4.trans hB5
              obtain ⟨a5, c5, e5, _, _⟩ := hI5.form
              rw [List.length_append] at e5
              subst e5
              have hO5 := local_O2.below hO hK5
              obtain ⟨v6, w6, hr6, hO6, hC6⟩ := run_appO local_O1 w5 29 29 i0 Try.underlying29 hi hz0 hz1 hz2 _ _ _ _ hO5 _ _ hI5.o1 rfl (fun k hk h => by have h1 := hk.1; have h2 := h.2; omega) (by omega)
              have hK6 : Below (w.heap.size + 1) wr w6 := (hK5.mono hXl).trans (hC6.below (fun k hk => hk.1.1) (Nat.le_trans hXl hK5.size))
              have hO6' : O2 w6 (win (w.heap.size + 1) w6.heap.size) v6 (R0 ++ R2 k ++ [[-(j : Int) - 1, (j : Int) + 1 + k + 1, (j : Int) + 1] ++ invW (nwL y)]) := local_O2.mono hO6 (fun k hk h => ⟨by
                rcases h with ⟨h | h, _⟩ | h
                · exact h.1
                · have h1 := h.1; omega
                · have h1 := h.1; have h2 := hK5.size; omega, hk⟩)
              have hB6 : Below w.heap.size w w6 := hB.trans (hK6.mono (Nat.le_succ _))
              have hX6 := hX.below hK6 (Nat.lt_succ_self _)
              have HF : Hid (R0 ++ R2 (k + 1) = R0 ++ R2 k ++ [[-(j : Int) - 1, (j : Int) + 1 + k + 1, (j : Int) + 1] ++ invW (nwL y)]) := by show _ = _; rw [HSkk.out, HR2k.out, List.append_assoc]
              clear hO6 hC6 hI5 hI2c hI3 hI4 hK3 hK4 hK5 hK6 hX hB hB5 hO5 hO n2 ncp hidx
              generalize R0 ++ R2 k = Rk at *
              go_wp2_with (first | (at_builtin; refine wp_of_run _ rfl _ _ _ rfl _ _ rfl rfl _ _ hr5 ?_) | (at_builtin; refine wp_of_run _ rfl _ _ _ rfl _ _ rfl rfl _ _ hr6 ?_))
              go_roundw
              case rel => exact ⟨k + 1, by omega, by go_num, by rw [HF.out]; exact hO6', hB6, hX6⟩
              case measure => simp [intOf]; omega
            · obtain rfl : k = cj.length := by omega
              have hout : ¬ ((j : Int) + 1 + cj.length < p.orders.length) := by omega
              go_wp2_with fail
              go_roundw
              case rel => exact ⟨j + 1, by omega, by go_num, by rw [HS'.out]; exact hO, hB, hX⟩
              case measure => simp [intOf]; omega
        · obtain rfl : j = p.orders.length := by omega
          go_wp2_with fail
          go_ret
          exact ⟨_, rfl, local_O2.mono hO (fun k _ hk => ⟨by have := hk.1; omega, hk.2⟩), hB⟩
--== exported
def okXX (c : Bool) (xs : List (List Int)) : List (List Int) := if c then xs else []
/-- what a call leaves that returns a list of lists and a code -/
def RetO2c (w : World) (d : List (List Int)) (c : Int) (e : Ending) (w' : World) : Prop := ∃ v, e = .returned (.tuple #[v, .int .i64 c]) ∧ O2 w' (win w.heap.size w'.heap.size) v d ∧ Below w.heap.size w w'
--== impl.PresentationRelators
set_option maxHeartbeats 2000000 in
theorem i_PresentationRelators (v1 v2 v3 : Value) (p : Pres) (w : World) (hp : RdP w v1 v2 v3 p) :
    Calls Try.prog 28 #[.agg #[v1, v2, v3]] w (RetO2c w (okXX (validB p) (relL p)) (cod1 (validB p))) := by
  by_cases hV : validB p = true
  case neg =>
    have hV' : validB p = false := by simpa using hV
    rw [hV']
    have HP := Lib.hid hp
    obtain ⟨ao1, cap1, rfl, _, _⟩ := hp.1.form
    obtain ⟨ao2, cap2, rfl, _, _⟩ := hp.2.1.form
    obtain ⟨ao3, cap3, rfl, _, _⟩ := hp.2.2.form
    have g0 := below_alloc w (Obj.cells #[Value.slice ao1 p.orders.length cap1, Value.slice ao2 p.powers.length cap2, Value.slice ao3 p.conj.length cap3] 32)
    clear hp hV
    go_enter Try.func28, Try.ntmps28
    go_wp2_with fail
    refine (i_IsPresentation _ _ _ p _ (HP.out.below g0)).mono ?_
    rintro e w1 ⟨rfl, hb⟩
    have g1 := below_size g0 hb
    rw [hV']
    clear hb hV'
    go_wp2_with fail
    go_ret2
    exact ⟨_, rfl, local_O2.nil _ _, g1⟩
  rw [hV]
  exact i_PresentationRelators' v1 v2 v3 p w hp hV
--== spec.PresentationRelators
set_option maxHeartbeats 2000000 in
theorem s_PresentationRelators (v1 v2 v3 : Value) (p : Pres) (w : World) (hp : RdP w v1 v2 v3 p) :
    Calls Try.prog 26 #[.agg #[v1, v2, v3]] w (RetO2c w (okXX (validB p) (relL p)) (cod1 (validB p))) := by
  by_cases hV : validB p = true
  case neg =>
    have hV' : validB p = false := by simpa using hV
    rw [hV']
    have HP := Lib.hid hp
    obtain ⟨ao1, cap1, rfl, _, _⟩ := hp.1.form
    obtain ⟨ao2, cap2, rfl, _, _⟩ := hp.2.1.form
    obtain ⟨ao3, cap3, rfl, _, _⟩ := hp.2.2.form
    have g0 := below_alloc w (Obj.cells #[Value.slice ao1 p.orders.length cap1, Value.slice ao2 p.powers.length cap2, Value.slice ao3 p.conj.length cap3] 32)
    clear hp hV
    go_enter Try.func26, Try.ntmps26
    go_wp2_with fail
    refine (s_IsPresentation _ _ _ p _ (HP.out.below g0)).mono ?_
    rintro e w1 ⟨rfl, hb⟩
    have g1 := below_size g0 hb
    rw [hV']
    clear hb hV'
    go_wp2_with fail
    go_ret2
    exact ⟨_, rfl, local_O2.nil _ _, g1⟩
  have HP := Lib.hid hp
  obtain ⟨ao1, cap1, rfl, _, _⟩ := hp.1.form
  obtain ⟨ao2, cap2, rfl, _, _⟩ := hp.2.1.form
  obtain ⟨ao3, cap3, rfl, _, _⟩ := hp.2.2.form
  have g0 := below_alloc w (Obj.cells #[Value.slice ao1 p.orders.length cap1, Value.slice ao2 p.powers.length cap2, Value.slice ao3 p.conj.length cap3] 32)
  have B0 := Bx.new w (Value.slice ao1 p.orders.length cap1) (Value.slice ao2 p.powers.length cap2) (Value.slice ao3 p.conj.length cap3)
  have HV := Lib.hid hV
  rw [hV]
  clear hp
  go_enter Try.func26, Try.ntmps26
  go_wp2_with fail
  refine (s_IsPresentation _ _ _ p _ (HP.out.below g0)).mono ?_
  rintro e w1 ⟨rfl, hb⟩
  have g1 := below_size g0 hb
  have B1 := B0.below hb (by simp)
  have m0 := B1.c0
  have m1 := B1.c1
  have m2 := B1.c2
  have s1 := g1.size
  rw [hV]
  clear hb hV
  go_wp2_with fail
  refine (s_l07Relators _ _ _ p _ (HP.out.below g1) HV.out).mono ?_
  rintro e w2 ⟨v, rfl, hO, hb⟩
  have g2 := below_size g1 hb
  clear hb
  go_wp2_with fail
  go_ret2
  exact ⟨_, rfl, local_O2.mono hO (fun k _ hk => ⟨by have := hk.1; omega, hk.2⟩), g2⟩
theorem cat_snoc (l : List (List Int)) (x : List Int) : (cat (l ++ [x])).length = (cat l).length + x.length := by unfold cat; rw [List.flatten_append, List.length_append]; simp
theorem len_PresentationRelators (p : Pres) : size2 (okXX (validB p) (relL p)) ≤ 1000000000 := by
  by_cases hV : validB p = true
  case neg =>
    have hV' : validB p = false := by simpa using hV
    rw [hV']; simp [okXX, size2, cat]
  have hp := validB_true.1 hV
  rw [hV]
  show size2 (relL p) ≤ _
  have h6 := hp.n6
  have b1 : ∀ i, i < p.n → (rel1 p i).length ≤ 200 := fun i hi => by
    unfold rel1
    have h1 := nwL_len (hp.smP hi)
    have h2 := hp.rk i hi
    rw [List.length_append, List.length_replicate, invW_length]; omega
  have b2 : ∀ i k, i < p.n → k < (p.conj.getD i []).length → (rel2 p i k).length ≤ 200 := fun i k hi hk => by
    unfold rel2
    have h1 := nwL_len (hp.smC hi hk)
    rw [List.length_append, invW_length]; show 3 + _ ≤ 200; omega
  have c1 : ∀ j, j ≤ p.n → (cat (rels1 p j)).length ≤ 200 * j := by
    intro j
    induction j with
    | zero => intro _; simp [cat, rels1]
    | succ j ih => intro hj; have := ih (by omega); have := b1 j (by omega); rw [rels1_succ, cat_snoc]; omega
  have c2 : ∀ i, i < p.n → ∀ m, m ≤ (p.conj.getD i []).length → (cat (rels2 p i m)).length ≤ 200 * m := by
    intro i hi m
    induction m with
    | zero => intro _; simp [cat, rels2]
    | succ m ih => intro hm; have := ih (by omega); have := b2 i m hi (by omega); rw [rels2_succ, cat_snoc]; omega
  have c3 : ∀ j, j ≤ p.n → (cat (rels2s p j)).length ≤ 1200 * j := by
    intro j
    induction j with
    | zero => intro _; simp [cat, rels2s]
    | succ j ih =>
      intro hj
      have h1 := ih (by omega)
      have h2 := c2 j (by omega) _ (Nat.le_refl _)
      have h3 := hp.clen j (by omega)
      rw [rels2s_succ]
      have e : cat (rels2s p j ++ rels2 p j (p.conj.getD j []).length) = cat (rels2s p j) ++ cat (rels2 p j (p.conj.getD j []).length) := by unfold cat; rw [List.flatten_append]
      rw [e, List.length_append]; omega
  have h1 := c1 p.n (Nat.le_refl _)
  have h3 := c3 p.n (Nat.le_refl _)
  have h4 := rels2s_len hp p.n (Nat.le_refl _)
  unfold size2 relL
  have e : cat (rels1 p p.n ++ rels2s p p.n) = cat (rels1 p p.n) ++ cat (rels2s p p.n) := by unfold cat; rw [List.flatten_append]
  rw [e, List.length_append, List.length_append, rels1_len]; omega
end Go.Proofs.Ythnpndheaailjaa
