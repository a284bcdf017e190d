/-
  Elements of groups: IsElement, Multiply, Inverse.
-/
import Derived.Test.YthnpndheaailjaaConI
namespace Go.Proofs.Ythnpndheaailjaa
set_option linter.unusedVariables false
set_option linter.unusedSimpArgs false
set_option maxRecDepth 100000
open Go.RowKit

--== elements
def elsB (p : Pres) (xss : List (List Int)) : Bool := conB p && xss.all fun x => tailB p.orders x 0
theorem elsB_no {p : Pres} {xss : List (List Int)} (h : conB p = false) : elsB p xss = false := by simp [elsB, h]
theorem elsB_out {p : Pres} {xss : List (List Int)} {j : Nat} (hj : j < xss.length) (h : tailB p.orders (xss.getD j []) 0 = false) : elsB p xss = false := by
  have : (xss.all fun x => tailB p.orders x 0) = false := List.all_eq_false.2 ⟨_, getL_mem hj, by rw [h]; exact Bool.false_ne_true⟩
  rw [elsB, this, Bool.and_false]
theorem elsB_of {p : Pres} {xss : List (List Int)} (h : conB p = true) (h2 : ∀ j, j < xss.length → tailB p.orders (xss.getD j []) 0 = true) : elsB p xss = true := by
  simp only [elsB, Bool.and_eq_true]
  refine ⟨h, List.all_eq_true.2 fun v hv => ?_⟩
  obtain ⟨k, hk, rfl⟩ := List.mem_iff_getElem.1 hv
  have := h2 k hk
  rwa [List.getD_eq_getElem?_getD, List.getElem?_eq_getElem hk] at this
theorem elsB_true {p : Pres} {xss : List (List Int)} (h : elsB p xss = true) : conB p = true ∧ ∀ x ∈ xss, tailB p.orders x 0 = true := by
  simp only [elsB, Bool.and_eq_true] at h
  exact ⟨h.1, fun x hx => List.all_eq_true.1 h.2 x hx⟩
theorem tail_VI {p : Pres} {x : List Int} (h : tailB p.orders x 0 = true) : VI p 0 x := (tailB_VI (Nat.zero_le _)).1 h
theorem elsB_one {p : Pres} {x : List Int} : elsB p [x] = (conB p && tailB p.orders x 0) := by simp [elsB]
theorem elsB_two {p : Pres} {x y : List Int} : elsB p [x, y] = (conB p && (tailB p.orders x 0 && tailB p.orders y 0)) := by simp [elsB]
theorem conB_ord {p : Pres} (h : conB p = true) : primesB p.orders = true := (ordB_true (conB_true h).1.ord).1
--== impl.areElements
set_option maxHeartbeats 2000000 in
theorem i_areElements (vp vl : Value) (p : Pres) (xss : List (List Int)) (w : World) (hp : PtrP w vp p) (hl : Rd2 w vl xss) (hn : xss.length ≤ 1000000000) :
    Calls Try.prog 152 #[vp, vl] w (RetV w (.bool (elsB p xss))) := by
  have HP := Lib.hid hp
  have HL := Lib.hid hl
  obtain ⟨pb, v1, v2, v3, rfl, c1, c2, c3, R⟩ := hp
  have HR := Lib.hid R
  obtain ⟨ao, cap, rfl, _, _⟩ := hl.form
  clear R hl
  by_cases hc : conB p = true
  case neg =>
    have hc' : conB p = false := by simpa using hc
    have HX := Lib.hid (elsB_no (xss := xss) hc')
    clear hc
    go_enter Try.func152, Try.ntmps152
    go_wp2_with fail
    refine (i_IsConsistent _ _ _ p _ HR.out).mono ?_
    rintro e w1 ⟨rfl, hb⟩
    rw [hc']
    clear hc' c1 c2 c3
    go_wp2_with fail
    go_ret
    exact ⟨ret_bool HX.out.symm, hb⟩
  have HO := Lib.hid (conB_ord hc)
  have HC := Lib.hid hc
  go_enter Try.func152, Try.ntmps152
  go_wp2_with fail
  refine (i_IsConsistent _ _ _ p _ HR.out).mono ?_
  rintro e w1 ⟨rfl, hb⟩
  rw [hc]
  clear hc c1 c2 c3
  have HB := Lib.hid hb
  go_wp2_with fail
  go_loop [14] (fun t => ∃ j : Nat, j ≤ xss.length ∧ t = .int .i64 j ∧ ∀ k, k < j → tailB p.orders (xss.getD k []) 0 = true) (fun t => xss.length - (intOf t).toNat)
  case atStart => exact ⟨0, Nat.zero_le _, rfl, fun k hk => by omega⟩
  case round =>
    obtain ⟨j, hj, rfl, hall⟩ := hrel
    have HA := Lib.hid hall
    clear hall
    by_cases hlt : j < xss.length
    · obtain ⟨b, off, r, rfl, hcell0, hr⟩ := HL.out.at hlt
      have hcell := below_cells HB.out _ _ hcell0
      have HRr := Lib.hid (hr.below HB.out)
      obtain ⟨x, hx⟩ : ∃ x, xss.getD j [] = x := ⟨_, rfl⟩
      have HX := Lib.hid hx
      rw [hx] at HRr
      clear hcell0 hx hr
      by_cases ht : tailB p.orders x 0 = true
      · have HT := Lib.hid ht
        go_wp2_with fail
        refine (i_isExponents _ _ p x _ (HP.out.below HB.out) HRr.out HO.out).mono ?_
        rintro e w' ⟨rfl, rfl⟩
        rw [ht]
        clear ht
        go_wp2_with fail
        go_round
        case rel => exact ⟨j + 1, by omega, by go_num, fun k hk => by
          by_cases h : k = j
          · subst h; rw [HX.out]; exact HT.out
          · exact HA.out k (by omega)⟩
        case measure => simp [intOf]; omega
      · have ht' : tailB p.orders x 0 = false := by simpa using ht
        have HN : Hid (elsB p xss = false) := elsB_out hlt (by rw [HX.out]; exact ht')
        clear ht
        go_wp2_with fail
        refine (i_isExponents _ _ p x _ (HP.out.below HB.out) HRr.out HO.out).mono ?_
        rintro e w' ⟨rfl, rfl⟩
        rw [ht']
        clear ht'
        go_wp2_with fail
        go_ret
        exact ⟨ret_bool HN.out.symm, HB.out⟩
    · obtain rfl : j = xss.length := by omega
      have HN : Hid (elsB p xss = true) := elsB_of HC.out HA.out
      go_wp2_with fail
      go_ret
      exact ⟨ret_bool HN.out.symm, HB.out⟩
--== lists written out
theorem PtrP.boxed {w : World} {v1 v2 v3 : Value} {p : Pres} (h : RdP w v1 v2 v3 p) : PtrP (w.alloc (.cells #[v1, v2, v3] 32)) (.pointer (some ⟨w.heap.size, 0, none⟩)) p :=
  ⟨_, _, _, _, rfl, by simp [go_sem], by simp [go_sem], by simp [go_sem], h.below (below_alloc _ _)⟩
--== spec.l10Element
set_option maxHeartbeats 1000000 in
theorem s_l10Element (v1 v2 v3 v : Value) (p : Pres) (xs : List Int) (w : World) (hp : RdP w v1 v2 v3 p) (hv : Rd w v xs) (ho : primesB p.orders = true) :
    Calls Try.prog 148 #[.agg #[v1, v2, v3], v] w (RetV w (.bool (tailB p.orders xs 0))) := by
  have HP := Lib.hid hp
  have HO := Lib.hid ho
  obtain ⟨ao1, cap1, rfl, _, _⟩ := hp.1.form
  obtain ⟨ao2, cap2, rfl, _, _⟩ := hp.2.1.form
  obtain ⟨ao3, cap3, rfl, _, _⟩ := hp.2.2.form
  have g0 := below_alloc w (Obj.cells #[Value.slice ao1 p.orders.length cap1, Value.slice ao2 p.powers.length cap2, Value.slice ao3 p.conj.length cap3] 32)
  clear hp ho
  go_enter Try.func148, Try.ntmps148
  go_wp2_with fail
  refine (s_l07Exponents _ _ p.orders xs 0 _ _ (by omega) (by omega) (HP.out.1.below g0) (hv.below g0) HO.out).mono ?_
  intro e w2 hq
  obtain ⟨rfl, hb2⟩ := hq.below
  have g2 := below_size g0 hb2
  clear hq hb2
  go_wp2_with fail
  go_ret
  exact ⟨rfl, g2⟩
--== spec.l08Mul
set_option maxHeartbeats 1000000 in
theorem s_l08Mul {p : Pres} (hV : ValidP p) (a b : List Int) (v1 v2 v3 va vb : Value) (w : World) (hp : RdP w v1 v2 v3 p) (ha : Rd w va a) (hb : Rd w vb b) (ka : VI p 0 a) (kb : VI p 0 b) :
    Calls Try.prog 176 #[.agg #[v1, v2, v3], va, vb] w (RetInts w (p.at 0 a b)) := by
  have HP := Lib.hid hp
  obtain ⟨p1, q1, rfl, _, _⟩ := hp.1.formN (n := p.n) rfl
  obtain ⟨p2, q2, rfl, _, _⟩ := hp.2.1.formN hV.pl
  obtain ⟨p3, q3, rfl, _, _⟩ := hp.2.2.formN hV.cl
  have g0 := below_alloc w (Obj.cells #[Value.slice p1 p.n q1, Value.slice p2 p.n q2, Value.slice p3 p.n q3] 32)
  clear hp
  go_enter Try.func176, Try.ntmps176
  go_wp2_with fail
  refine (s_l08At hV 0 a b _ _ _ _ _ _ (Nat.zero_le _) (HP.out.below g0) (ha.below g0) (hb.below g0) ka kb).mono ?_
  rintro e w1 ⟨u, rfl, hI, hB⟩
  have g1 := below_size g0 hB
  have hI1 : Ints w1 w.heap.size _ _ := hI.mono (by simp)
  clear hI hB
  go_wp2_with fail
  go_ret
  exact ⟨_, rfl, hI1, g1⟩
--== inverses, from a level on
theorem GT.inv_sub {p : Pres} {i : Nat} (h : GT p i) (hi : i < p.n) {x : List Int} (hx : VI p (i + 1) x) : p.inv i x = p.inv (i + 1) x := by
  have h1 := h.up (Nat.le_succ i) hi
  have hy := h1.inv hx
  refine (h.inv_eq (hx.mono (Nat.le_succ i)) (hy.mono (Nat.le_succ i)) ?_).symm
  rw [at_sub h.vd hi hx hy]; exact h1.invr hx
theorem VI.one {p : Pres} (hp : Valid p) {i : Nat} {c : Int} (h0 : 0 ≤ c) (h1 : c < p.r i) : VI p i (p.zv.set i c) := (VI.zv hp (i + 1)).set h0 h1
theorem GT.parts {p : Pres} {i : Nat} (h : GT p i) (hi : i < p.n) {x : List Int} (hx : VI p i x) : p.at i (p.zv.set i (x.getD i 0)) (x.set i 0) = x := by
  have G1 := h.g (i + 1) (by omega) hi
  have hr := h.vd.ord i hi
  have x1 := hx.hi i hi
  have e1 : (p.zv.set i (x.getD i 0)).getD i 0 = x.getD i 0 := vset_self (by rw [p.zv_len]; exact hi)
  have e2 : (x.set i 0).getD i 0 = 0 := vset_self (by rw [hx.len]; exact hi)
  rw [at_lo hi (by rw [e1, e2]; omega)]
  unfold Pres.mid
  rw [e1, e2, List.set_set, List.set_set, zv_set]
  show (p.at (i + 1) p.zv (x.set i 0)).set i _ = _
  rw [G1.onel (hx.clear h.vd), Int.add_zero]
  exact VI.split
theorem GT.inv_from {p : Pres} {i : Nat} (h : GT p i) (hi : i < p.n) {x : List Int} (hx : VI p i x) (h0 : x.getD i 0 ≠ 0) :
    p.at i (p.at i (p.inv (i + 1) (x.set i 0)) (p.zv.set i (p.r i - x.getD i 0))) (p.inv (i + 1) (p.P i)) = p.inv i x := by
  have h1 := h.up (Nat.le_succ i) hi
  have x0 := hx.lo i hi
  have x1 := hx.hi i hi
  have hr := h.vd.ord i hi
  have hc := hx.clear h.vd
  have hP := h.vd.pow i hi
  have a1 := (h1.inv hc).mono (Nat.le_succ i)
  have a2 : VI p i (p.zv.set i (p.r i - x.getD i 0)) := VI.one h.vd (by omega) (by omega)
  have a3 := (h1.inv hP).mono (Nat.le_succ i)
  have a4 : VI p i (p.zv.set i (x.getD i 0)) := VI.one h.vd x0 x1
  have hu := VI.uv h.vd (Nat.le_refl i) hi
  have G1 := h.g (i + 1) (by omega) hi
  have hr' := h.at (h.at a1 a2) a3
  refine h.inv_eq hx hr' ?_
  have e1 : p.at i (x.set i 0) (p.inv (i + 1) (x.set i 0)) = p.zv := by rw [at_sub h.vd hi hc (h1.inv hc)]; exact h1.invr hc
  have e2 : p.at i (p.P i) (p.inv (i + 1) (p.P i)) = p.zv := by rw [at_sub h.vd hi hP (h1.inv hP)]; exact h1.invr hP
  have e3 : p.at i (p.zv.set i (x.getD i 0)) (p.zv.set i (p.r i - x.getD i 0)) = p.P i := by
    have q1 := pw_uv h.vd hi G1 (x.getD i 0).toNat (by omega)
    have q2 := pw_uv h.vd hi G1 (p.r i - x.getD i 0).toNat (by omega)
    rw [show (((x.getD i 0).toNat : Nat) : Int) = x.getD i 0 by omega] at q1
    rw [show (((p.r i - x.getD i 0).toNat : Nat) : Int) = p.r i - x.getD i 0 by omega] at q2
    rw [← q1, ← q2, pw_add' h hu, show (x.getD i 0).toNat + (p.r i - x.getD i 0).toNat = (p.r i).toNat by omega, h.pw_r (Nat.le_refl i) hi]
  have hcc := hc.mono (Nat.le_succ i)
  have hPP := hP.mono (Nat.le_succ i)
  calc p.at i x (p.at i (p.at i (p.inv (i + 1) (x.set i 0)) (p.zv.set i (p.r i - x.getD i 0))) (p.inv (i + 1) (p.P i)))
      = p.at i (p.at i (p.zv.set i (x.getD i 0)) (x.set i 0)) (p.at i (p.at i (p.inv (i + 1) (x.set i 0)) (p.zv.set i (p.r i - x.getD i 0))) (p.inv (i + 1) (p.P i))) := by rw [h.parts hi hx]
    _ = p.zv := by
      rw [h.G.assoc a4 hcc hr', ← h.G.assoc hcc (h.at a1 a2) a3, ← h.G.assoc hcc a1 a2, e1, h.G.onel a2, ← h.G.assoc a4 a2 a3, e3, e2]
--== spec.l10From
def FromC (p : Pres) (d : Nat) : Prop := ∀ (i : Nat) (x : List Int) (v1 v2 v3 vx : Value) (w : World), i ≤ p.n → p.n ≤ i + d → GT p i → RdP w v1 v2 v3 p → Rd w vx x → VI p i x →
  Calls Try.prog 185 #[.agg #[v1, v2, v3], .int .i64 i, vx] w (RetInts w (p.inv i x))
set_option maxHeartbeats 1000000 in
theorem from_end {p : Pres} (hV : ValidP p) (hG : GT p p.n) (x : List Int) (v1 v2 v3 vx : Value) (w : World) (hp : RdP w v1 v2 v3 p) (kx : VI p p.n x) :
    Calls Try.prog 185 #[.agg #[v1, v2, v3], .int .i64 p.n, vx] w (RetInts w (p.inv p.n x)) := by
  obtain ⟨i0, hi, hz0, hz1, hz2⟩ := info_parts Try.info2
  have hn6 := hV.n6
  rw [(hG.inv kx).top]
  obtain ⟨p1, q1, rfl, _, _⟩ := hp.1.formN (n := p.n) rfl
  obtain ⟨p2, q2, rfl, _, _⟩ := hp.2.1.formN hV.pl
  obtain ⟨p3, q3, rfl, _, _⟩ := hp.2.2.formN hV.cl
  have g0 := below_alloc w (Obj.cells #[Value.slice p1 p.n q1, Value.slice p2 p.n q2, Value.slice p3 p.n q3] 32)
  clear hp
  go_enter Try.func185, Try.ntmps185
  go_wp2_with (at_make; refine wp_mkInts _ rfl _ _ rfl i0 Try.underlying22 hi hz0 hz1 hz2 _ _ _ _ p.n rfl rfl rfl rfl (by omega) ?_)
  intro w1 hI hB hlt
  have hB1 := below_from g0 hB (by simp)
  have hI1 : Ints w1 w.heap.size _ p.zv := hI.mono (by simp)
  clear hI hB g0
  go_wp2_with fail
  go_ret
  exact ⟨_, rfl, hI1, hB1⟩
set_option maxHeartbeats 4000000 in
theorem from_step {p : Pres} {d : Nat} (hV : ValidP p) (hfr : FromC p d) : FromC p (d + 1) := by
  intro i x v1 v2 v3 vx w hin hid hG hp hx kx
  by_cases hie : i = p.n
  · subst hie; exact from_end hV hG x v1 v2 v3 vx w hp kx
  have hin' : i < p.n := by omega
  clear hin hie
  obtain ⟨i0, hi, hz0, hz1, hz2⟩ := info_parts Try.info2
  have hn6 := hV.n6
  have HP := Lib.hid hp
  obtain ⟨b1, o1, q1, rfl, kr⟩ := ord_at hp.1 (by omega)
  obtain ⟨b2, o2, q2, rfl, kp⟩ := pow_at hV hp.2.1 (by omega)
  obtain ⟨p3, q3, rfl, _, _⟩ := hp.2.2.formN hV.cl
  have k1 := kr i hin'
  obtain ⟨a2, z2, k2, RP⟩ := kp i hin'
  obtain ⟨ax, cx, rfl, _, _⟩ := hx.formN kx.len
  obtain ⟨bx, ox, rfl, kx0⟩ := hx.at (j := i) (by rw [kx.len]; exact hin')
  have hA0 := kx.lo i hin'
  have hA1 := kx.hi i hin'
  have hrk := hV.rk i hin'
  obtain ⟨A, HA⟩ := nam (x.getD i 0)
  obtain ⟨r, Hr⟩ := nam (p.r i)
  have HG := Lib.hid hG
  have HG1 := Lib.hid (hG.up (Nat.le_succ i) hin')
  have VC := kx.clear hV.valid
  have VP := hV.valid.pow i hin'
  have HZ : Hid (A = 0 → p.inv (i + 1) (x.set i 0) = p.inv i x) := fun h => by
    have h0 : x.getD i 0 = 0 := HA.out.trans h
    have hx1 : VI p (i + 1) x := ⟨kx.len, kx.lo, kx.hi, fun k hk => by
      by_cases hki : k = i
      · subst hki; exact h0
      · exact kx.zero k (by omega)⟩
    rw [hx1.same, ← hG.inv_sub hin' hx1]
  have HNZ : Hid (A ≠ 0 → p.at i (p.at i (p.inv (i + 1) (x.set i 0)) (p.zv.set i (r - A))) (p.inv (i + 1) (p.P i)) = p.inv i x) := fun h => by
    have := hG.inv_from hin' kx (by rw [HA.out]; exact h)
    rwa [HA.out, Hr.out] at this
  rw [HA.out] at kx0 hA0 hA1
  rw [Hr.out] at k1 hrk hA1
  have VT : A ≠ 0 → VI p i (p.zv.set i (r - A)) := fun h => VI.one hV.valid (by omega) (by rw [Hr.out]; omega)
  have HVT := Lib.hid VT
  have HKX := Lib.hid kx
  have HRX := Lib.hid hx
  have HRP := Lib.hid RP
  have g0 := below_alloc w (Obj.cells #[Value.slice (some ⟨b1, o1, none⟩) p.n q1, Value.slice (some ⟨b2, o2, none⟩) p.n q2, Value.slice p3 p.n q3] 32)
  have x0 := Bx.new w (Value.slice (some ⟨b1, o1, none⟩) p.n q1) (Value.slice (some ⟨b2, o2, none⟩) p.n q2) (Value.slice p3 p.n q3)
  have VI1 := HG1.out.inv VC
  have VI2 := HG1.out.inv VP
  clear kx hx RP hG hp kr kp VT
  go_enter Try.func185, Try.ntmps185
  go_wp2_with fail
  refine (s_l01Own _ x _ (HRX.out.below g0) (by rw [HKX.out.len]; omega)).mono ?_
  rintro e w1 ⟨u1, rfl, hI1, hB1⟩
  have z1 : w.heap.size < w1.heap.size := by have := hB1.size; simp at this; omega
  have g1 := below_size g0 hB1
  have x1 := x0.below hB1 (by simp)
  obtain ⟨g, cg, rfl, hg1, hg2, _⟩ := hI1.open (by rw [HKX.out.len]; omega)
  rw [HKX.out.len] at hI1 ⊢
  have hI1' : Ints w1 w.heap.size _ x := hI1.mono (by simp)
  have hgw : w.heap.size < g := by simp at hg1; omega
  have hro := hI1'.row (by rw [HKX.out.len]; omega)
  have f1 := hro.2.2.2.2.2.2 i
  have c1 := hro.2.2.2.2.2.1 i (by rw [HKX.out.len]; omega)
  obtain ⟨hI2, hC2⟩ := hI1'.set (by rw [HKX.out.len]) i 0
  have x2 := x1.other (c := g) (by omega) i (.int .i64 0)
  have g2 := g1.setCell (p := ⟨g, i, none⟩) (by show w.heap.size ≤ g; omega) (.int .i64 0)
  have m0 := x1.c0
  have m1 := x1.c1
  have m2 := x1.c2
  have hne : w.heap.size ≠ g := by omega
  have HFR := hfr (i + 1) (x.set i 0) _ _ _ _ _ hin' (by omega) HG1.out (HP.out.below g2) hI2.rd VC
  rw [show (((i + 1 : Nat)) : Int) = (i : Int) + 1 by omega] at HFR
  have HFRh := Lib.hid HFR
  clear hI1 hB1 g0 x0 hg1 hI1' hro g1 HFR x1
  go_wp2_with fail
  refine HFRh.out.mono ?_
  rintro e w3 ⟨u3, rfl, hI3, hB3⟩
  have g3 := below_size g2 hB3
  have x3 := x2.below hB3 x2.lt
  have hI3' : Ints w3 w.heap.size _ _ := hI3.mono (by have := g2.size; omega)
  obtain ⟨a3, c3, rfl, _, _⟩ := hI3'.rd.formN VI1.len
  have e1 := below_cells g3 _ _ kx0
  clear hI3 hB3 g2 x2 hI2 hC2 f1 c1 m0 m1 m2 HFRh hne
  by_cases hA : A = 0
  · have D1 : (A == 0) = true := by simpa using hA
    have HF := Lib.hid (HZ.out hA)
    rw [HF.out] at hI3'
    clear hA
    go_wp2_with fail
    go_ret
    exact ⟨_, rfl, hI3', g3⟩
  · have D1 : (A == 0) = false := by simpa using hA
    have HF := Lib.hid (HNZ.out hA)
    have VT' := HVT.out hA
    have l3 := g3.size
    have l3' := x3.lt
    clear hA
    go_wp2_with (at_make; refine wp_mkInts _ rfl _ _ rfl i0 Try.underlying22 hi hz0 hz1 hz2 _ _ _ _ p.n rfl rfl rfl rfl (by omega) ?_)
    intro w4 hJ hB4 hlt4
    have g4 := below_size g3 hB4
    have x4 := x3.below hB4 x3.lt
    have hI4 := hI3'.below hB4
    have hJ4 : Ints w4 w3.heap.size (.slice (some ⟨w3.heap.size, 0, none⟩) p.n p.n) p.zv := hJ
    have hro := hJ4.row (by rw [p.zv_len]; omega)
    have f1 := hro.2.2.2.2.2.2 i
    have c1 := hro.2.2.2.2.2.1 i (by rw [p.zv_len]; omega)
    rw [zv_get] at c1
    have m0 := x4.c0
    have k1' := below_cells g4 _ _ k1
    have kx' := below_cells g4 _ _ kx0
    have W1 : IntKind.i64.wrap (r - A) = r - A := IntWalk.i64_in _ (by omega)
    have HLT := Lib.hid hI3'.lt
    clear hI3' hJ hB4 g3 x3 D1 e1 hro
    go_wp2_with fail
    apply via
    case h =>
      go_region
      all_goals exact ⟨rfl, rfl⟩
    obtain ⟨hJ5, hC5⟩ := hJ4.set (by rw [p.zv_len]) i (r - A)
    have hI5 := hI4.chg hC5 (fun q hq => by have := HLT.out q hq; omega)
    have x5 := x4.other (c := w3.heap.size) (by omega) i (.int .i64 (r - A))
    have g5 := (g4.setCell (p := ⟨w3.heap.size, i, none⟩) l3 (.int .i64 (r - A))).drew
    have hJ6 : Ints (w4.setCell ⟨w3.heap.size, i, none⟩ (.int .i64 (r - A))).drew _ _ _ := hJ5
    have hI6 : Ints (w4.setCell ⟨w3.heap.size, i, none⟩ (.int .i64 (r - A))).drew _ _ _ := hI5
    have x6 : Bx (w4.setCell ⟨w3.heap.size, i, none⟩ (.int .i64 (r - A))).drew _ _ _ _ := x5
    clear hI4 hJ4 x4 g4 hJ5 hI5 x5 hC5 f1 c1 m0 k1' kx' W1 hlt4
    generalize (w4.setCell ⟨w3.heap.size, i, none⟩ (.int .i64 (r - A))).drew = w6 at *
    have lx := x6.lt
    have m0 := x6.c0
    have m1 := x6.c1
    have m2 := x6.c2
    have e2 := below_cells g5 _ _ k2
    have KEEP : Hid (∀ wx, Below w6.heap.size w6 wx → Below w6.heap.size w6 wx ∧ wx.cell? ⟨w.heap.size, 0, none⟩ = some (Value.slice (some ⟨b1, o1, none⟩) p.n q1) ∧ wx.cell? ⟨w.heap.size, 1, none⟩ = some (Value.slice (some ⟨b2, o2, none⟩) p.n q2) ∧ wx.cell? ⟨w.heap.size, 2, none⟩ = some (Value.slice p3 p.n q3) ∧ wx.cell? ⟨b2, o2 + i, none⟩ = some (.slice a2 p.n z2)) := fun wx hb =>
      ⟨hb, below_cells hb _ _ m0, below_cells hb _ _ m1, below_cells hb _ _ m2, below_cells hb _ _ e2⟩
    have V1 := VI1.mono (Nat.le_succ i)
    have V2 := VI2.mono (Nat.le_succ i)
    have V12 := HG.out.at V1 VT'
    have HAT1 : Hid (∀ wx, Below w6.heap.size w6 wx → Calls Try.prog 184 #[.agg #[Value.slice (some ⟨b1, o1, none⟩) p.n q1, Value.slice (some ⟨b2, o2, none⟩) p.n q2, Value.slice p3 p.n q3], .int .i64 (i : Int), .slice a3 p.n c3, .slice (some ⟨w3.heap.size, 0, none⟩) p.n p.n] wx (RetInts wx (p.at i (p.inv (i + 1) (x.set i 0)) (p.zv.set i (r - A))))) := fun wx hb =>
      s_l08At hV i _ _ _ _ _ _ _ wx (by omega) (HP.out.below (below_size g5 hb)) (hI6.rd.below hb) (hJ6.rd.below hb) V1 VT'
    have HFRM : Hid (∀ wx, Below w6.heap.size w6 wx → Calls Try.prog 185 #[.agg #[Value.slice (some ⟨b1, o1, none⟩) p.n q1, Value.slice (some ⟨b2, o2, none⟩) p.n q2, Value.slice p3 p.n q3], .int .i64 ((i : Int) + 1), .slice a2 p.n z2] wx (RetInts wx (p.inv (i + 1) (p.P i)))) := fun wx hb => by
      have := hfr (i + 1) (p.P i) _ _ _ _ wx hin' (by omega) HG1.out (HP.out.below (below_size g5 hb)) (HRP.out.below (below_size g5 hb)) VP
      rwa [show (((i + 1 : Nat)) : Int) = (i : Int) + 1 by omega] at this
    have HAT2 : Hid (∀ wx u v, Below w6.heap.size w6 wx → Rd wx u (p.at i (p.inv (i + 1) (x.set i 0)) (p.zv.set i (r - A))) → Rd wx v (p.inv (i + 1) (p.P i)) → Calls Try.prog 184 #[.agg #[Value.slice (some ⟨b1, o1, none⟩) p.n q1, Value.slice (some ⟨b2, o2, none⟩) p.n q2, Value.slice p3 p.n q3], .int .i64 (i : Int), u, v] wx (RetInts wx (p.inv i x))) := fun wx u v hb hu hv => by
      have := s_l08At hV i _ _ _ _ _ _ _ wx (by omega) (HP.out.below (below_size g5 hb)) hu hv V12 V2
      rwa [HF.out] at this
    have W1 : IntKind.i64.wrap ((i : Int) + 1) = (i : Int) + 1 := IntWalk.i64_in _ (by omega)
    have hii : (i : Int) < (p.n : Int) := by omega
    have G5 := Lib.hid g5
    clear m0 m1 m2 e2 hI6 hJ6
    go_wp2_with fail
    go_region_held3 (fun wx => Below w6.heap.size w6 wx ∧ wx.cell? ⟨w.heap.size, 0, none⟩ = some (Value.slice (some ⟨b1, o1, none⟩) p.n q1) ∧ wx.cell? ⟨w.heap.size, 1, none⟩ = some (Value.slice (some ⟨b2, o2, none⟩) p.n q2) ∧ wx.cell? ⟨w.heap.size, 2, none⟩ = some (Value.slice p3 p.n q3) ∧ wx.cell? ⟨b2, o2 + i, none⟩ = some (.slice a2 p.n z2))
      (first | exact KEEP.out _ (Below.refl _ _).drew | exact KEEP.out _ (below_size (And.left (by assumption)) (by assumption)))
      (first
        | ((go_at_call 184); (with_reducible refine (HAT1.out _ (And.left (by assumption))).mono ?_); (rintro e w7 ⟨u7, rfl, hI7, hB7⟩))
        | ((go_at_call 185); (with_reducible refine (HFRM.out _ (And.left (by assumption))).mono ?_); (rintro e w8 ⟨u8, rfl, hI8, hB8⟩))
        | ((go_at_call 184); (with_reducible refine (HAT2.out _ _ _ (And.left (by assumption)) (hI7.rd.below hB8) hI8.rd).mono ?_); (rintro e w9 ⟨u9, rfl, hI9, hB9⟩)))
    have hB10 : Below w6.heap.size w6 w9 := And.left (by assumption)
    have hB11 := below_size G5.out hB10
    have hI10 : Ints w9 w.heap.size u9 _ := hI9.mono (by have h1 := G5.out.size; have h2 := hB7.size; have h3 := hB8.size; simp at h2; omega)
    clear hI7 hI8 hI9 hB7 hB8 hB9 KEEP HAT1 HAT2 HFRM hB10 W1 hii x6 g5 lx
    go_wp2_with fail
    go_ret
    exact ⟨_, rfl, hI10, hB11⟩
theorem s_l10From {p : Pres} (hV : ValidP p) (d : Nat) : FromC p d := by
  induction d with
  | zero =>
      intro i x v1 v2 v3 vx w h1 h2 hG hp _ kx
      obtain rfl : i = p.n := by omega
      exact from_end hV hG x v1 v2 v3 vx w hp kx
  | succ d ih => exact from_step hV ih
--== spec.l10Inv
set_option maxHeartbeats 1000000 in
theorem s_l10Inv {p : Pres} (hV : ValidP p) (hG : GT p 0) (x : List Int) (v1 v2 v3 vx : Value) (w : World) (hp : RdP w v1 v2 v3 p) (hx : Rd w vx x) (kx : VI p 0 x) :
    Calls Try.prog 177 #[.agg #[v1, v2, v3], vx] w (RetInts w (p.inv 0 x)) := by
  have HP := Lib.hid hp
  obtain ⟨p1, q1, rfl, _, _⟩ := hp.1.formN (n := p.n) rfl
  obtain ⟨p2, q2, rfl, _, _⟩ := hp.2.1.formN hV.pl
  obtain ⟨p3, q3, rfl, _, _⟩ := hp.2.2.formN hV.cl
  have g0 := below_alloc w (Obj.cells #[Value.slice p1 p.n q1, Value.slice p2 p.n q2, Value.slice p3 p.n q3] 32)
  clear hp
  go_enter Try.func177, Try.ntmps177
  go_wp2_with fail
  refine (s_l10From hV p.n 0 x _ _ _ _ _ (Nat.zero_le _) (by omega) hG (HP.out.below g0) (hx.below g0) kx).mono ?_
  rintro e w1 ⟨u, rfl, hI, hB⟩
  have g1 := below_size g0 hB
  have hI1 : Ints w1 w.heap.size _ _ := hI.mono (by simp)
  clear hI hB
  go_wp2_with fail
  go_ret
  exact ⟨_, rfl, hI1, g1⟩
end Go.Proofs.Ythnpndheaailjaa
