/-
  CriticalPairs and CriticalPairsJoin: both sides.
-/
import Derived.Test.YthnpndheaailjaaCrf
import Derived.Test.YthnpndheaailjaaLevI
namespace Go.Proofs.Ythnpndheaailjaa
set_option linter.unusedVariables false
set_option linter.unusedSimpArgs false
set_option maxRecDepth 100000
open Go.RowKit

--== plain
/-- what CriticalPairs returns: how many, their parts, the code -/
def cpN (p : Pres) : Nat := if validB p = true then (cpL p).length else 0
def cpF (p : Pres) : List (List Int) := if validB p = true then flC p (cpL p) else []
def cpK (p : Pres) : Int := if validB p = true then 0 else 1
theorem cp_yes {p : Pres} (h : validB p = true) : cpN p = (cpL p).length ∧ cpF p = flC p (cpL p) ∧ cpK p = 0 := ⟨if_pos h, if_pos h, if_pos h⟩
theorem cp_not {p : Pres} (h : validB p = false) : cpN p = 0 ∧ cpF p = [] ∧ cpK p = 1 := by unfold cpN cpF cpK; rw [h]; exact ⟨rfl, rfl, rfl⟩
/-- the join of a list of items: index and code -/
def jnC (p : Pres) (m : Nat) : List Itm → Nat → Int × Int
  | [], _ => (-1, 0)
  | it :: r, k => if collC p m (stepL p it.1 0) = 0 ∧ collC p m (stepL p it.1 it.2) = 0 then (if collL p m (stepL p it.1 0) = collL p m (stepL p it.1 it.2) then jnC p m r (k + 1) else ((k : Int), 0)) else (0, 3)
def cjI (p : Pres) (l : Int) : Int := if validB p = true then (if inB l 0 2000 = true then (jnC p l.toNat (cpL p) 0).1 else 0) else 0
def cjK (p : Pres) (l : Int) : Int := if validB p = true then (if inB l 0 2000 = true then (jnC p l.toNat (cpL p) 0).2 else 2) else 1
theorem cj_no {p : Pres} {l : Int} (h : validB p = false) : cjI p l = 0 ∧ cjK p l = 1 := by simp [cjI, cjK, h]
theorem cj_lim {p : Pres} {l : Int} (h : validB p = true) (h2 : inB l 0 2000 = false) : cjI p l = 0 ∧ cjK p l = 2 := by simp [cjI, cjK, h, h2]
theorem cj_go {p : Pres} {m : Nat} (h : validB p = true) (h2 : inB (m : Int) 0 2000 = true) : cjI p m = (jnC p m (cpL p) 0).1 ∧ cjK p m = (jnC p m (cpL p) 0).2 := by simp [cjI, cjK, h, h2]
theorem flC_at (p : Pres) (A B : List Itm) (it : Itm) (t : Nat) : (flC p (A ++ it :: B)).getD (A.length * 3 + t) [] = (pr3 p it ++ flC p B).getD t [] := by
  have e : flC p (A ++ it :: B) = flC p A ++ (pr3 p it ++ flC p B) := by simp [flC]
  rw [e, ← flC_len]
  exact gapp_at _ _ _ _
theorem coll_two (p : Pres) (m : Nat) (w : List Int) : collC p m w = 0 ∨ (collC p m w = 3 ∧ collN p m w = 0 ∧ collL p m w = []) := by
  cases h : colW p m w with
  | none => exact .inr (coll_none h)
  | some x => obtain ⟨u, f⟩ := x; exact .inl (coll_some h).1
theorem collL_n {p : Pres} {m : Nat} {w : List Int} (h : collC p m w = 0) : (collL p m w).length = p.n := by
  cases h2 : colW p m w with
  | none => rw [(coll_none h2).1] at h; exact absurd h (by decide)
  | some x => obtain ⟨u, f⟩ := x; rw [(coll_some h2).2.2]; exact vecL_len _ _
theorem CG.left {p : Pres} (hV : ValidP p) {it : Itm} (h : CG p it) : PosW p.n (stepL p it.1 0) ∧ (stepL p it.1 0).length ≤ 256 :=
  ⟨stepL_pos h.lt0 hV h.pos, by have := stepL_len h.lt0 hV h.pos; have := h.len; omega⟩
theorem CG.right {p : Pres} (hV : ValidP p) {it : Itm} (h : CG p it) : PosW p.n (stepL p it.1 it.2) ∧ (stepL p it.1 it.2).length ≤ 256 :=
  ⟨stepL_pos h.at' hV h.pos, by have := stepL_len h.at' hV h.pos; have := h.len; omega⟩
--== pairs
def RetT (w : World) (n : Nat) (F : List (List Int)) (c : Int) (e : Ending) (w' : World) : Prop := ∃ v, e = .returned (.tuple #[v, .int .i64 c]) ∧ OT w' (win w.heap.size w'.heap.size) v n F ∧ Below w.heap.size w w'
theorem CO.out {B : Nat} {w w0 w' : World} {v : Value} {p : Pres} {L : List Itm} (h : CO B w0 v p L w') (hB : w.heap.size ≤ B) : OT w' (win w.heap.size w'.heap.size) v L.length (flC p L) := by
  obtain ⟨S, h1, h2, _⟩ := h
  exact h1.mono fun k _ hk => ⟨by have := (h2 k hk).1; omega, (h2 k hk).2⟩
--== impl.CriticalPairs
set_option maxHeartbeats 2000000 in
theorem i_CriticalPairs (v1 v2 v3 : Value) (p : Pres) (w : World) (hp : RdP w v1 v2 v3 p) : Calls Try.prog 61 #[.agg #[v1, v2, v3]] w (RetT w (cpN p) (cpF p) (cpK p)) := by
  have HP := Lib.hid hp
  obtain ⟨p1, q1, rfl, _, _⟩ := hp.1.form
  obtain ⟨p2, q2, rfl, _, _⟩ := hp.2.1.form
  obtain ⟨p3, q3, rfl, _, _⟩ := hp.2.2.form
  have G0 := Lib.hid (below_alloc w (Obj.cells #[Value.slice p1 p.orders.length q1, Value.slice p2 p.powers.length q2, Value.slice p3 p.conj.length q3] 32))
  have X0 := Lib.hid (Bx.new w (Value.slice p1 p.orders.length q1) (Value.slice p2 p.powers.length q2) (Value.slice p3 p.conj.length q3))
  obtain ⟨cb, hc⟩ : ∃ cb, validB p = cb := ⟨_, rfl⟩
  have HCB := Lib.hid hc
  clear hp hc
  go_enter Try.func61, Try.ntmps61
  go_wp2_with fail
  generalize w.alloc (Obj.cells #[Value.slice p1 p.orders.length q1, Value.slice p2 p.powers.length q2, Value.slice p3 p.conj.length q3] 32) = w0 at *
  refine (i_IsPresentation _ _ _ p _ (HP.out.below G0.out)).mono ?_
  rintro e w1 ⟨rfl, hb⟩
  rw [HCB.out]
  have HB1 := Lib.hid hb
  clear hb
  cases cb with
  | false =>
    have HX := Lib.hid (cp_not HCB.out)
    have hB9 := below_size G0.out HB1.out
    go_wp2_with fail
    go_ret2
    exact ⟨_, ret_tup HX.out.2.2.symm, by rw [HX.out.1, HX.out.2.1]; exact OT.nil _ _, hB9⟩
  | true =>
    have HX := Lib.hid (cp_yes HCB.out)
    have PT := Lib.hid ((X0.out.below HB1.out X0.out.lt).ptr (HP.out.below (below_size G0.out HB1.out)))
    go_wp2_with fail
    refine (i_criticalPairs (validB_true.1 HCB.out) _ _ PT.out).mono ?_
    rintro e w2 ⟨v2, rfl, hC⟩
    have HO : Hid (OT w2 (win w.heap.size w2.heap.size) v2 (cpL p).length (flC p (cpL p))) := hC.out (below_size G0.out HB1.out).size
    have HB2 := Lib.hid (below_size (below_size G0.out HB1.out) hC.below)
    obtain ⟨a2, c2, rfl⟩ := hC.form
    clear hC
    generalize (cpL p).length = nl at *
    go_wp2_with fail
    go_ret2
    exact ⟨_, ret_tup HX.out.2.2.symm, by rw [HX.out.1, HX.out.2.1]; exact HO.out, HB2.out⟩
--== spec.CriticalPairs
set_option maxHeartbeats 2000000 in
theorem s_CriticalPairs (v1 v2 v3 : Value) (p : Pres) (w : World) (hp : RdP w v1 v2 v3 p) : Calls Try.prog 60 #[.agg #[v1, v2, v3]] w (RetT w (cpN p) (cpF p) (cpK p)) := by
  have HP := Lib.hid hp
  obtain ⟨p1, q1, rfl, _, _⟩ := hp.1.form
  obtain ⟨p2, q2, rfl, _, _⟩ := hp.2.1.form
  obtain ⟨p3, q3, rfl, _, _⟩ := hp.2.2.form
  have G0 := Lib.hid (below_alloc w (Obj.cells #[Value.slice p1 p.orders.length q1, Value.slice p2 p.powers.length q2, Value.slice p3 p.conj.length q3] 32))
  have X0 := Lib.hid (Bx.new w (Value.slice p1 p.orders.length q1) (Value.slice p2 p.powers.length q2) (Value.slice p3 p.conj.length q3))
  obtain ⟨cb, hc⟩ : ∃ cb, validB p = cb := ⟨_, rfl⟩
  have HCB := Lib.hid hc
  clear hp hc
  go_enter Try.func60, Try.ntmps60
  go_wp2_with fail
  generalize w.alloc (Obj.cells #[Value.slice p1 p.orders.length q1, Value.slice p2 p.powers.length q2, Value.slice p3 p.conj.length q3] 32) = w0 at *
  refine (s_IsPresentation _ _ _ p _ (HP.out.below G0.out)).mono ?_
  rintro e w1 ⟨rfl, hb⟩
  rw [HCB.out]
  have HB1 := Lib.hid hb
  clear hb
  cases cb with
  | false =>
    have HX := Lib.hid (cp_not HCB.out)
    have hB9 := below_size G0.out HB1.out
    go_wp2_with fail
    go_ret2
    exact ⟨_, ret_tup HX.out.2.2.symm, by rw [HX.out.1, HX.out.2.1]; exact OT.nil _ _, hB9⟩
  | true =>
    have HX := Lib.hid (cp_yes HCB.out)
    have m0 := below_cells HB1.out _ _ X0.out.c0
    have m1 := below_cells HB1.out _ _ X0.out.c1
    have m2 := below_cells HB1.out _ _ X0.out.c2
    go_wp2_with fail
    refine (s_l09Pairs (validB_true.1 HCB.out) _ _ _ _ (HP.out.below (below_size G0.out HB1.out))).mono ?_
    rintro e w2 ⟨v2, rfl, hC⟩
    have HO : Hid (OT w2 (win w.heap.size w2.heap.size) v2 (cpL p).length (flC p (cpL p))) := hC.out (below_size G0.out HB1.out).size
    have HB2 := Lib.hid (below_size (below_size G0.out HB1.out) hC.below)
    obtain ⟨a2, c2, rfl⟩ := hC.form
    clear hC m0 m1 m2
    generalize (cpL p).length = nl at *
    go_wp2_with fail
    go_ret2
    exact ⟨_, ret_tup HX.out.2.2.symm, by rw [HX.out.1, HX.out.2.1]; exact HO.out, HB2.out⟩
--== impl.CriticalPairsJoin
set_option maxHeartbeats 3000000 in
theorem i_CriticalPairsJoin (v1 v2 v3 : Value) (p : Pres) (l : Int) (w : World) (hp : RdP w v1 v2 v3 p) (bl : -9223372036854775808 ≤ l ∧ l ≤ 9223372036854775807) :
    Calls Try.prog 66 #[.agg #[v1, v2, v3], .int .i64 l] w (RetV w (.tuple #[.int .i64 (cjI p l), .int .i64 (cjK p l)])) := by
  have HP := Lib.hid hp
  obtain ⟨p1, q1, rfl, _, _⟩ := hp.1.form
  obtain ⟨p2, q2, rfl, _, _⟩ := hp.2.1.form
  obtain ⟨p3, q3, rfl, _, _⟩ := hp.2.2.form
  have G0 := Lib.hid (below_alloc w (Obj.cells #[Value.slice p1 p.orders.length q1, Value.slice p2 p.powers.length q2, Value.slice p3 p.conj.length q3] 32))
  have X0 := Lib.hid (Bx.new w (Value.slice p1 p.orders.length q1) (Value.slice p2 p.powers.length q2) (Value.slice p3 p.conj.length q3))
  obtain ⟨cb, hc⟩ : ∃ cb, validB p = cb := ⟨_, rfl⟩
  have HCB := Lib.hid hc
  obtain ⟨ib, hib⟩ : ∃ ib, inB l 0 2000 = ib := ⟨_, rfl⟩
  have HIB := Lib.hid hib
  clear hp hc hib
  go_enter Try.func66, Try.ntmps66
  go_wp2_with fail
  generalize w.alloc (Obj.cells #[Value.slice p1 p.orders.length q1, Value.slice p2 p.powers.length q2, Value.slice p3 p.conj.length q3] 32) = w0 at *
  refine (i_IsPresentation _ _ _ p _ (HP.out.below G0.out)).mono ?_
  rintro e w1 ⟨rfl, hb⟩
  rw [HCB.out]
  have HB1 := Lib.hid hb
  clear hb
  cases cb with
  | false =>
    have HX := Lib.hid (cj_no (l := l) HCB.out)
    have hB9 := below_size G0.out HB1.out
    go_wp2_with fail
    go_ret2
    exact ⟨by rw [HX.out.1, HX.out.2]; rfl, hB9⟩
  | true =>
    go_wp2_with fail
    refine (i_inside l 0 2000 _).mono ?_
    rintro e w' ⟨rfl, rfl⟩
    rw [HIB.out]
    cases ib with
    | false =>
      have HX := Lib.hid (cj_lim HCB.out HIB.out)
      have hB9 := below_size G0.out HB1.out
      go_wp2_with fail
      go_ret2
      exact ⟨by rw [HX.out.1, HX.out.2]; rfl, hB9⟩
    | true =>
      obtain ⟨hl0, hl1⟩ := inB_true.1 HIB.out
      obtain ⟨m, rfl⟩ : ∃ m : Nat, l = (m : Int) := ⟨l.toNat, by omega⟩
      have hm : m ≤ 2000 := by omega
      have HX := Lib.hid (cj_go HCB.out HIB.out)
      have HVd := Lib.hid (validB_true.1 HCB.out)
      have PT := Lib.hid ((X0.out.below HB1.out X0.out.lt).ptr (HP.out.below (below_size G0.out HB1.out)))
      clear hl0 hl1
      go_wp2_with fail
      refine (i_criticalPairs HVd.out _ _ PT.out).mono ?_
      rintro e w2 ⟨v2, rfl, hC⟩
      have HB2 := Lib.hid hC.below
      have HBW := Lib.hid (below_size G0.out (below_size HB1.out hC.below))
      have HRT := Lib.hid hC.rt
      obtain ⟨a2, c2, rfl⟩ := hC.form
      obtain ⟨nl, hnl⟩ : ∃ nl, (cpL p).length = nl := ⟨_, rfl⟩
      have HNL := Lib.hid hnl
      have hnl3 : nl ≤ 300 := by rw [← hnl]; exact cpL_len HVd.out.n6
      rw [hnl] at HRT ⊢
      clear hC hnl
      go_wp2_with fail
      go_loopw [21] (fun t wr => ∃ (A B : List Itm), Hid (cpL p = A ++ B) ∧ t = .int .i64 A.length ∧ Hid (jnC p m (cpL p) 0 = jnC p m B A.length) ∧ Below w2.heap.size w2 wr) (fun t _ => nl - (intOf t).toNat)
      case atStart => exact ⟨[], cpL p, rfl, rfl, rfl, Below.refl _ _⟩
      case round =>
        obtain ⟨A, B, HAB, rfl, HJ, hB⟩ := hrel
        have HB := Lib.hid hB
        obtain ⟨na, hna⟩ : ∃ na, A.length = na := ⟨_, rfl⟩
        have HNA := Lib.hid hna
        rw [hna]
        cases B with
        | nil =>
          obtain rfl : na = nl := by have := HNL.out; rw [HAB.out, List.append_nil] at this; omega
          have HF : Hid (jnC p m (cpL p) 0 = (-1, 0)) := HJ.out
          have hB9 := below_size HBW.out HB.out
          clear hB hna
          go_wp2_with fail
          go_ret2
          exact ⟨by rw [HX.out.1, HX.out.2, HF.out]; rfl, hB9⟩
        | cons it B =>
          have hlt : na < nl := by have := HNL.out; rw [HAB.out] at this; simp at this; omega
          have hltI : (na : Int) < (nl : Int) := by omega
          have HG : Hid (CG p it) := cpL_good HVd.out (by rw [HAB.out]; simp)
          obtain ⟨b, off, rfl, hat⟩ := HRT.out.at hlt
          obtain ⟨r0, hc0, hr0⟩ := hat 0 (by omega)
          obtain ⟨r1, hc1, hr1⟩ := hat 1 (by omega)
          obtain ⟨r2, hc2, hr2⟩ := hat 2 (by omega)
          rw [HAB.out, ← HNA.out, flC_at] at hr1 hr2
          have hr1 : Rd w2 r1 (stepL p it.1 0) := hr1
          have hr2 : Rd w2 r2 (stepL p it.1 it.2) := hr2
          obtain ⟨a0, z0, rfl, _, _⟩ := hr0.form
          obtain ⟨a1, z1, rfl, _, _⟩ := hr1.form
          obtain ⟨a3, z3, rfl, _, _⟩ := hr2.form
          obtain ⟨n0, hn0⟩ : ∃ n0, ((flC p (cpL p)).getD (na * 3 + 0) []).length = n0 := ⟨_, rfl⟩
          rw [hn0] at hc0
          have e0 := below_cells HB.out _ _ hc0
          rw [Nat.add_zero] at e0
          have e1 := below_cells HB.out _ _ hc1
          have e2 := below_cells HB.out _ _ hc2
          have HR1 := Lib.hid hr1
          have HR2 := Lib.hid hr2
          have l0 := World.block_lt_of_cell? wr _ e0
          have HCL : Hid (∀ wx, Below wr.heap.size wr wx → Calls Try.prog 127 #[.pointer (some ⟨w.heap.size, 0, none⟩), .slice a1 (stepL p it.1 0).length z1, .int .i64 m] wx (RetInts3 wx (collL p m (stepL p it.1 0)) (collN p m (stepL p it.1 0)) (collC p m (stepL p it.1 0)))) := fun wx hb =>
            i_collect _ _ p _ m wx HVd.out (PT.out.below (below_size (below_size HB2.out HB.out) hb)) (HR1.out.below (below_size HB.out hb)) (HG.out.left HVd.out).1 (HG.out.left HVd.out).2 hm
          have HCR : Hid (∀ wx, Below wr.heap.size wr wx → Calls Try.prog 127 #[.pointer (some ⟨w.heap.size, 0, none⟩), .slice a3 (stepL p it.1 it.2).length z3, .int .i64 m] wx (RetInts3 wx (collL p m (stepL p it.1 it.2)) (collN p m (stepL p it.1 it.2)) (collC p m (stepL p it.1 it.2)))) := fun wx hb =>
            i_collect _ _ p _ m wx HVd.out (PT.out.below (below_size (below_size HB2.out HB.out) hb)) (HR2.out.below (below_size HB.out hb)) (HG.out.right HVd.out).1 (HG.out.right HVd.out).2 hm
          have RB := Lib.hid (Bq.new wr (.slice a0 n0 z0) (.slice a1 (stepL p it.1 0).length z1) (.slice a3 (stepL p it.1 it.2).length z3))
          clear hB hna hat hc0 hc1 hc2 hr0 hr1 hr2 hn0
          go_wp2_with fail
          refine (HCL.out _ (below_alloc wr _)).mono ?_
          rintro e w3 ⟨u3, rfl, hI3, hB3⟩
          have HK3 := Lib.hid (below_size (below_alloc wr _) hB3)
          have n2 := (RB.out.below hB3 RB.out.lt).c2
          obtain ⟨b3, y3, rfl, _, _⟩ := hI3.form
          have HI3 := Lib.hid hI3
          clear hI3 hB3 e0 e1 e2 l0
          rcases coll_two p m (stepL p it.1 0) with hz | ⟨hz, _, _⟩
          case inr =>
            have HF : Hid (jnC p m (cpL p) 0 = (0, 3)) := by
              show _ = _
              rw [HJ.out, jnC, if_neg (fun h => by rw [hz] at h; exact absurd h.1 (by decide))]
            have hB9 := below_size (below_size HBW.out HB.out) HK3.out
            rw [hz]
            go_wp2_with fail
            go_ret2
            exact ⟨by rw [HX.out.1, HX.out.2, HF.out]; rfl, hB9⟩
          case inl =>
            have HZ := Lib.hid hz
            rw [hz]
            clear hz
            go_wp2_with fail
            refine (HCR.out _ HK3.out).mono ?_
            rintro e w4 ⟨u4, rfl, hI4, hB4⟩
            have HK4 := Lib.hid (below_size HK3.out hB4)
            obtain ⟨b4, y4, rfl, _, _⟩ := hI4.form
            have HI4 := Lib.hid hI4
            have HB4 := Lib.hid hB4
            clear hI4 hB4 n2
            rcases coll_two p m (stepL p it.1 it.2) with hz | ⟨hz, _, _⟩
            case inr =>
              have HF : Hid (jnC p m (cpL p) 0 = (0, 3)) := by
                show _ = _
                rw [HJ.out, jnC, if_neg (fun h => by rw [hz] at h; exact absurd h.2 (by decide))]
              have hB9 := below_size (below_size HBW.out HB.out) HK4.out
              rw [hz]
              go_wp2_with fail
              go_ret2
              exact ⟨by rw [HX.out.1, HX.out.2, HF.out]; rfl, hB9⟩
            case inl =>
              have HZ2 := Lib.hid hz
              rw [hz]
              clear hz
              obtain ⟨fb, hfb⟩ : ∃ fb, decide (collL p m (stepL p it.1 0) = collL p m (stepL p it.1 it.2)) = fb := ⟨_, rfl⟩
              have HFB := Lib.hid hfb
              have HEQ : Hid (Calls Try.prog 116 #[.slice b3 (collL p m (stepL p it.1 0)).length y3, .slice b4 (collL p m (stepL p it.1 it.2)).length y4] w4 (RetV w4 (.bool fb))) := f_EqualV _ _ _ _ _ fb (HI3.out.rd.below HB4.out) HI4.out.rd hfb
              clear hfb
              go_wp2_with fail
              refine HEQ.out.mono ?_
              rintro e w5 ⟨rfl, hB5⟩
              have HK5 := Lib.hid (below_size HK4.out hB5)
              clear hB5
              cases fb with
              | false =>
                have HF : Hid (jnC p m (cpL p) 0 = ((na : Int), 0)) := by
                  show _ = _
                  rw [HJ.out, jnC, if_pos ⟨HZ.out, HZ2.out⟩, if_neg (of_decide_eq_false HFB.out), HNA.out]
                have hB9 := below_size (below_size HBW.out HB.out) HK5.out
                go_wp2_with fail
                go_ret2
                exact ⟨by rw [HX.out.1, HX.out.2, HF.out]; rfl, hB9⟩
              | true =>
                have HF : Hid (jnC p m (cpL p) 0 = jnC p m B (A ++ [it]).length) := by
                  show _ = _
                  rw [HJ.out, jnC, if_pos ⟨HZ.out, HZ2.out⟩, if_pos (of_decide_eq_true HFB.out), List.length_append]; rfl
                have HAB2 : Hid (cpL p = (A ++ [it]) ++ B) := by show _ = _; rw [HAB.out]; simp
                have HB9 := Lib.hid (below_size HB.out HK5.out)
                go_wp2_with fail
                go_roundw
                case rel => exact ⟨A ++ [it], B, HAB2, by rw [List.length_append, HNA.out]; go_num, HF, HB9.out⟩
                case measure => (simp [intOf]; try omega)
--== spec.CriticalPairsJoin
set_option maxHeartbeats 3000000 in
theorem s_CriticalPairsJoin (v1 v2 v3 : Value) (p : Pres) (l : Int) (w : World) (hp : RdP w v1 v2 v3 p) (bl : -9223372036854775808 ≤ l ∧ l ≤ 9223372036854775807) :
    Calls Try.prog 65 #[.agg #[v1, v2, v3], .int .i64 l] w (RetV w (.tuple #[.int .i64 (cjI p l), .int .i64 (cjK p l)])) := by
  have HP := Lib.hid hp
  obtain ⟨p1, q1, rfl, _, _⟩ := hp.1.form
  obtain ⟨p2, q2, rfl, _, _⟩ := hp.2.1.form
  obtain ⟨p3, q3, rfl, _, _⟩ := hp.2.2.form
  have G0 := Lib.hid (below_alloc w (Obj.cells #[Value.slice p1 p.orders.length q1, Value.slice p2 p.powers.length q2, Value.slice p3 p.conj.length q3] 32))
  have X0 := Lib.hid (Bx.new w (Value.slice p1 p.orders.length q1) (Value.slice p2 p.powers.length q2) (Value.slice p3 p.conj.length q3))
  obtain ⟨cb, hc⟩ : ∃ cb, validB p = cb := ⟨_, rfl⟩
  have HCB := Lib.hid hc
  obtain ⟨ib, hib⟩ : ∃ ib, inB l 0 2000 = ib := ⟨_, rfl⟩
  have HIB := Lib.hid hib
  clear hp hc hib
  go_enter Try.func65, Try.ntmps65
  go_wp2_with fail
  generalize w.alloc (Obj.cells #[Value.slice p1 p.orders.length q1, Value.slice p2 p.powers.length q2, Value.slice p3 p.conj.length q3] 32) = w0 at *
  refine (s_IsPresentation _ _ _ p _ (HP.out.below G0.out)).mono ?_
  rintro e w1 ⟨rfl, hb⟩
  rw [HCB.out]
  have HB1 := Lib.hid hb
  have m0 := below_cells hb _ _ X0.out.c0
  have m1 := below_cells hb _ _ X0.out.c1
  have m2 := below_cells hb _ _ X0.out.c2
  clear hb
  cases cb with
  | false =>
    have HX := Lib.hid (cj_no (l := l) HCB.out)
    have hB9 := below_size G0.out HB1.out
    go_wp2_with fail
    go_ret2
    exact ⟨by rw [HX.out.1, HX.out.2]; rfl, hB9⟩
  | true =>
    go_wp2_with fail
    refine (s_l01In l 0 2000 _).mono ?_
    rintro e w' ⟨rfl, rfl⟩
    rw [HIB.out]
    cases ib with
    | false =>
      have HX := Lib.hid (cj_lim HCB.out HIB.out)
      have hB9 := below_size G0.out HB1.out
      go_wp2_with fail
      go_ret2
      exact ⟨by rw [HX.out.1, HX.out.2]; rfl, hB9⟩
    | true =>
      obtain ⟨hl0, hl1⟩ := inB_true.1 HIB.out
      obtain ⟨m, rfl⟩ : ∃ m : Nat, l = (m : Int) := ⟨l.toNat, by omega⟩
      have hm : m ≤ 2000 := by omega
      have HX := Lib.hid (cj_go HCB.out HIB.out)
      have HVd := Lib.hid (validB_true.1 HCB.out)
      clear hl0 hl1
      go_wp2_with fail
      refine (s_l09Pairs HVd.out _ _ _ _ (HP.out.below (below_size G0.out HB1.out))).mono ?_
      rintro e w2 ⟨v2, rfl, hC⟩
      have HB2 := Lib.hid (below_size HB1.out hC.below)
      have HBW := Lib.hid (below_size G0.out (below_size HB1.out hC.below))
      have HRT := Lib.hid hC.rt
      obtain ⟨a2, c2, rfl⟩ := hC.form
      obtain ⟨nl, hnl⟩ : ∃ nl, (cpL p).length = nl := ⟨_, rfl⟩
      have HNL := Lib.hid hnl
      have hnl3 : nl ≤ 300 := by rw [← hnl]; exact cpL_len HVd.out.n6
      rw [hnl] at HRT ⊢
      clear hC hnl m0 m1 m2
      go_wp2_with fail
      go_loopw [7] (fun t wr => ∃ (A B : List Itm), Hid (cpL p = A ++ B) ∧ t = .int .i64 A.length ∧ Hid (jnC p m (cpL p) 0 = jnC p m B A.length) ∧ Below w2.heap.size w2 wr) (fun t _ => nl - (intOf t).toNat)
      case atStart => exact ⟨[], cpL p, rfl, rfl, rfl, Below.refl _ _⟩
      case round =>
        obtain ⟨A, B, HAB, rfl, HJ, hB⟩ := hrel
        have HB := Lib.hid hB
        obtain ⟨na, hna⟩ : ∃ na, A.length = na := ⟨_, rfl⟩
        have HNA := Lib.hid hna
        rw [hna]
        cases B with
        | nil =>
          obtain rfl : na = nl := by have := HNL.out; rw [HAB.out, List.append_nil] at this; omega
          have HF : Hid (jnC p m (cpL p) 0 = (-1, 0)) := HJ.out
          have hB9 := below_size HBW.out HB.out
          clear hB hna
          go_wp2_with fail
          go_ret2
          exact ⟨by rw [HX.out.1, HX.out.2, HF.out]; rfl, hB9⟩
        | cons it B =>
          have hlt : na < nl := by have := HNL.out; rw [HAB.out] at this; simp at this; omega
          have hltI : (na : Int) < (nl : Int) := by omega
          have HG : Hid (CG p it) := cpL_good HVd.out (by rw [HAB.out]; simp)
          obtain ⟨b, off, rfl, hat⟩ := HRT.out.at hlt
          obtain ⟨r1, hc1, hr1⟩ := hat 1 (by omega)
          obtain ⟨r2, hc2, hr2⟩ := hat 2 (by omega)
          rw [HAB.out, ← HNA.out, flC_at] at hr1 hr2
          have hr1 : Rd w2 r1 (stepL p it.1 0) := hr1
          have hr2 : Rd w2 r2 (stepL p it.1 it.2) := hr2
          obtain ⟨a1, z1, rfl, _, _⟩ := hr1.form
          obtain ⟨a3, z3, rfl, _, _⟩ := hr2.form
          have HR1 := Lib.hid hr1
          have HR2 := Lib.hid hr2
          have HC1 := Lib.hid hc1
          have HC2 := Lib.hid hc2
          have HCL : Hid (∀ wx, Below wr.heap.size wr wx → Calls Try.prog 125 #[.agg #[Value.slice p1 p.orders.length q1, Value.slice p2 p.powers.length q2, Value.slice p3 p.conj.length q3], .slice a1 (stepL p it.1 0).length z1, .int .i64 m] wx (RetCol wx (collL p m (stepL p it.1 0)) (collN p m (stepL p it.1 0)) (okc (collC p m (stepL p it.1 0))))) := fun wx hb =>
            s_l09Collect _ _ _ _ p _ m wx HVd.out (HP.out.below (below_size (below_size HBW.out HB.out) hb)) (HR1.out.below (below_size HB.out hb)) (HG.out.left HVd.out).1 (HG.out.left HVd.out).2 hm
          have HCR : Hid (∀ wx, Below wr.heap.size wr wx → Calls Try.prog 125 #[.agg #[Value.slice p1 p.orders.length q1, Value.slice p2 p.powers.length q2, Value.slice p3 p.conj.length q3], .slice a3 (stepL p it.1 it.2).length z3, .int .i64 m] wx (RetCol wx (collL p m (stepL p it.1 it.2)) (collN p m (stepL p it.1 it.2)) (okc (collC p m (stepL p it.1 it.2))))) := fun wx hb =>
            s_l09Collect _ _ _ _ p _ m wx HVd.out (HP.out.below (below_size (below_size HBW.out HB.out) hb)) (HR2.out.below (below_size HB.out hb)) (HG.out.right HVd.out).1 (HG.out.right HVd.out).2 hm
          have KEEP1 : Hid (∀ wx, Below wr.heap.size wr wx → Below wr.heap.size wr wx ∧ wx.cell? ⟨w.heap.size, 0, none⟩ = some (Value.slice p1 p.orders.length q1) ∧ wx.cell? ⟨w.heap.size, 1, none⟩ = some (Value.slice p2 p.powers.length q2) ∧ wx.cell? ⟨w.heap.size, 2, none⟩ = some (Value.slice p3 p.conj.length q3) ∧ wx.cell? ⟨b, off + na * 3 + 1, none⟩ = some (.slice a1 (stepL p it.1 0).length z1)) := fun wx hb =>
            ⟨hb, below_cells (below_size (below_size HB2.out HB.out) hb) _ _ X0.out.c0, below_cells (below_size (below_size HB2.out HB.out) hb) _ _ X0.out.c1, below_cells (below_size (below_size HB2.out HB.out) hb) _ _ X0.out.c2, below_cells (below_size HB.out hb) _ _ HC1.out⟩
          have KEEP2 : Hid (∀ wx, Below wr.heap.size wr wx → Below wr.heap.size wr wx ∧ wx.cell? ⟨w.heap.size, 0, none⟩ = some (Value.slice p1 p.orders.length q1) ∧ wx.cell? ⟨w.heap.size, 1, none⟩ = some (Value.slice p2 p.powers.length q2) ∧ wx.cell? ⟨w.heap.size, 2, none⟩ = some (Value.slice p3 p.conj.length q3) ∧ wx.cell? ⟨b, off + na * 3 + 2, none⟩ = some (.slice a3 (stepL p it.1 it.2).length z3)) := fun wx hb =>
            ⟨hb, below_cells (below_size (below_size HB2.out HB.out) hb) _ _ X0.out.c0, below_cells (below_size (below_size HB2.out HB.out) hb) _ _ X0.out.c1, below_cells (below_size (below_size HB2.out HB.out) hb) _ _ X0.out.c2, below_cells (below_size HB.out hb) _ _ HC2.out⟩
          clear hB hna hat hc1 hc2 hr1 hr2
          go_wp2_with fail
          go_region_held3 (fun wx => Below wr.heap.size wr wx ∧ wx.cell? ⟨w.heap.size, 0, none⟩ = some (Value.slice p1 p.orders.length q1) ∧ wx.cell? ⟨w.heap.size, 1, none⟩ = some (Value.slice p2 p.powers.length q2) ∧ wx.cell? ⟨w.heap.size, 2, none⟩ = some (Value.slice p3 p.conj.length q3) ∧ wx.cell? ⟨b, off + na * 3 + 1, none⟩ = some (.slice a1 (stepL p it.1 0).length z1))
            (first | exact KEEP1.out _ (Below.refl _ _).drew | exact KEEP1.out _ (below_size (And.left (by assumption)) (by assumption)))
            (first | ((go_at_call 125); (with_reducible refine (HCL.out _ (And.left (by assumption))).mono ?_); (rintro e w3 ⟨u3, rfl, hI3, hB3⟩)))
          have HK3 : Hid (Below wr.heap.size wr w3) := And.left (by assumption)
          obtain ⟨b3, y3, rfl, _, _⟩ := hI3.form
          have HI3 := Lib.hid hI3.rd
          obtain ⟨o1, ho1⟩ : ∃ o1, okc (collC p m (stepL p it.1 0)) = o1 := ⟨_, rfl⟩
          have HO1 := Lib.hid ho1
          rw [ho1]
          clear hI3 hB3 ho1
          go_wp2_with fail
          go_region_held3 (fun wx => Below wr.heap.size wr wx ∧ wx.cell? ⟨w.heap.size, 0, none⟩ = some (Value.slice p1 p.orders.length q1) ∧ wx.cell? ⟨w.heap.size, 1, none⟩ = some (Value.slice p2 p.powers.length q2) ∧ wx.cell? ⟨w.heap.size, 2, none⟩ = some (Value.slice p3 p.conj.length q3) ∧ wx.cell? ⟨b, off + na * 3 + 2, none⟩ = some (.slice a3 (stepL p it.1 it.2).length z3))
            (first | exact KEEP2.out _ (below_size HK3.out (Below.refl _ _).drew) | exact KEEP2.out _ (below_size (And.left (by assumption)) (by assumption)))
            (first | ((go_at_call 125); (with_reducible refine (HCR.out _ (below_size HK3.out (Below.refl _ _).drew)).mono ?_); (rintro e w4 ⟨u4, rfl, hI4, hB4⟩)))
          have HB4 : Hid (Below w3.heap.size w3 w4) := below_size (Below.refl _ _).drew hB4
          have HK4 := Lib.hid (below_size HK3.out HB4.out)
          obtain ⟨b4, y4, rfl, _, _⟩ := hI4.form
          have HI4 := Lib.hid hI4.rd
          obtain ⟨o2, ho2⟩ : ∃ o2, okc (collC p m (stepL p it.1 it.2)) = o2 := ⟨_, rfl⟩
          have HO2 := Lib.hid ho2
          rw [ho2]
          clear hI4 hB4 ho2
          by_cases hoo : o1 = true ∧ o2 = true
          case neg =>
            have HF : Hid (jnC p m (cpL p) 0 = (0, 3)) := by
              show _ = _
              rw [HJ.out, jnC, if_neg (fun h => hoo ⟨by rw [← HO1.out, h.1]; rfl, by rw [← HO2.out, h.2]; rfl⟩)]
            have hB9 := below_size (below_size HBW.out HB.out) HK4.out
            clear HO1 HO2
            cases o1
            · go_wp2_with fail
              go_ret2
              exact ⟨by rw [HX.out.1, HX.out.2, HF.out]; rfl, hB9⟩
            · cases o2
              · go_wp2_with fail
                go_ret2
                exact ⟨by rw [HX.out.1, HX.out.2, HF.out]; rfl, hB9⟩
              · exact absurd ⟨rfl, rfl⟩ hoo
          case pos =>
            obtain ⟨rfl, rfl⟩ := hoo
            have HZ : Hid (collC p m (stepL p it.1 0) = 0) := by show _ = _; exact of_decide_eq_true HO1.out
            have HZ2 : Hid (collC p m (stepL p it.1 it.2) = 0) := by show _ = _; exact of_decide_eq_true HO2.out
            obtain ⟨fb, hfb⟩ : ∃ fb, decide (collL p m (stepL p it.1 0) = collL p m (stepL p it.1 it.2)) = fb := ⟨_, rfl⟩
            have HFB := Lib.hid hfb
            have HEQ : Hid (Calls Try.prog 126 #[.slice b3 (collL p m (stepL p it.1 0)).length y3, .slice b4 (collL p m (stepL p it.1 it.2)).length y4] w4 (RetV w4 (.bool fb))) := by
              have h := s_l01Same _ _ _ _ w4 (HI3.out.below HB4.out) HI4.out ((collL_n HZ.out).trans (collL_n HZ2.out).symm)
              rw [hfb] at h
              exact h.mono fun _ _ h => h.below
            clear hfb HO1 HO2
            go_wp2_with fail
            refine HEQ.out.mono ?_
            rintro e w5 ⟨rfl, hB5⟩
            have HK5 := Lib.hid (below_size HK4.out hB5)
            clear hB5
            cases fb with
            | false =>
              have HF : Hid (jnC p m (cpL p) 0 = ((na : Int), 0)) := by
                show _ = _
                rw [HJ.out, jnC, if_pos ⟨HZ.out, HZ2.out⟩, if_neg (of_decide_eq_false HFB.out), HNA.out]
              have hB9 := below_size (below_size HBW.out HB.out) HK5.out
              go_wp2_with fail
              go_ret2
              exact ⟨by rw [HX.out.1, HX.out.2, HF.out]; rfl, hB9⟩
            | true =>
              have HF : Hid (jnC p m (cpL p) 0 = jnC p m B (A ++ [it]).length) := by
                show _ = _
                rw [HJ.out, jnC, if_pos ⟨HZ.out, HZ2.out⟩, if_pos (of_decide_eq_true HFB.out), List.length_append]; rfl
              have HAB2 : Hid (cpL p = (A ++ [it]) ++ B) := by show _ = _; rw [HAB.out]; simp
              have HB9 := Lib.hid (below_size HB.out HK5.out)
              go_wp2_with fail
              go_roundw
              case rel => exact ⟨A ++ [it], B, HAB2, by rw [List.length_append, HNA.out]; go_num, HF, HB9.out⟩
              case measure => (simp [intOf]; try omega)
--== end
end Go.Proofs.Ythnpndheaailjaa
