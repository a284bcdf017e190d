/-
  Words evaluated in a group: both sides.
-/
import Derived.Test.YthnpndheaailjaaEat
namespace Go.Proofs.Ythnpndheaailjaa
set_option linter.unusedVariables false
set_option linter.unusedSimpArgs false
set_option maxRecDepth 100000
open Go.RowKit

/-- the image of a letter -/
noncomputable def evX (p : Pres) (L : List (List Int)) (l : Int) : List Int := if 0 < l then L.getD (l - 1).toNat [] else p.inv 0 (L.getD (-l - 1).toNat [])
noncomputable def evTo (p : Pres) (L : List (List Int)) (ws : List Int) (k : Nat) : List Int := (ws.take k).foldl (fun u l => p.at 0 u (evX p L l)) p.zv
theorem evTo_succ {p : Pres} {L : List (List Int)} {ws : List Int} {k : Nat} (h : k < ws.length) : evTo p L ws (k + 1) = p.at 0 (evTo p L ws k) (evX p L (ws.getD k 0)) := by
  unfold evTo; rw [take_snoc ws k 0 h, List.foldl_append]; rfl
/-- a letter of a word over the images -/
structure LetOK (L : List (List Int)) (l : Int) (q : Nat) : Prop where
  lt : q < L.length
  eq : l = (q : Int) + 1 ∨ l = -((q : Int) + 1)
theorem wordB_let {L : List (List Int)} {ws : List Int} (h : wordB (L.length : Int) ws = true) {k : Nat} (hk : k < ws.length) : ∃ q, LetOK L (ws.getD k 0) q := by
  unfold wordB at h
  simp only [Bool.and_eq_true] at h
  have h1 := List.all_eq_true.1 h.1 _ (getD_mem hk)
  unfold letB at h1
  simp only [Bool.and_eq_true, bne_iff_ne, ne_eq] at h1
  have h2 := inB_true.1 h1.2
  by_cases hp : 0 < ws.getD k 0
  · exact ⟨(ws.getD k 0 - 1).toNat, by omega, .inl (by omega)⟩
  · exact ⟨(-(ws.getD k 0) - 1).toNat, by omega, .inr (by omega)⟩
theorem wordB_len {k : Int} {ws : List Int} (h : wordB k ws = true) : ws.length ≤ 64 := by
  unfold wordB at h; simp only [Bool.and_eq_true, decide_eq_true_eq] at h; exact h.2
theorem evX_pos {p : Pres} {L : List (List Int)} {q : Nat} : evX p L ((q : Int) + 1) = L.getD q [] := by unfold evX; rw [if_pos (by omega)]; congr 1; omega
theorem evX_neg {p : Pres} {L : List (List Int)} {q : Nat} : evX p L (-((q : Int) + 1)) = p.inv 0 (L.getD q []) := by unfold evX; rw [if_neg (by omega)]; congr 2; omega
theorem evX_VI {p : Pres} (hG : GT p 0) {L : List (List Int)} (hL : ∀ j, j < L.length → VI p 0 (L.getD j [])) {l : Int} {q : Nat} (h : LetOK L l q) : VI p 0 (evX p L l) := by
  rcases h.eq with e | e
  · rw [e, evX_pos]; exact hL q h.lt
  · rw [e, evX_neg]; exact hG.inv (hL q h.lt)
theorem evTo_VI {p : Pres} (hG : GT p 0) {L : List (List Int)} (hL : ∀ j, j < L.length → VI p 0 (L.getD j [])) {ws : List Int} (hw : wordB (L.length : Int) ws = true) (k : Nat) (hk : k ≤ ws.length) : VI p 0 (evTo p L ws k) := by
  induction k with
  | zero => exact VI.zv hG.vd 0
  | succ k ih =>
    obtain ⟨q, hq⟩ := wordB_let hw (show k < ws.length by omega)
    rw [evTo_succ (by omega)]
    exact hG.at (ih (by omega)) (evX_VI hG hL hq)
def absJ (x : Int) : Int := if x < 0 then -x else x
--== impl.abs
theorem i_absJ (x : Int) (w : World) (h : -1000000000000 ≤ x ∧ x ≤ 1000000000000) : Calls Try.prog 118 #[.int .i64 x] w fun e w' => e = .returned (.int .i64 (absJ x)) ∧ w = w' := by
  obtain ⟨h1, h2⟩ := h
  by_cases hx : x < 0
  · have hx2 : x < -x := by omega
    go_enter Try.func118, Try.ntmps118
    go_wp2
    go_ret
    exact ⟨ret_int (by simp [absJ, hx]), rfl⟩
  · have hx2 : ¬ x < -x := by omega
    go_enter Try.func118, Try.ntmps118
    go_wp2
    go_ret
    exact ⟨ret_int (by simp [absJ]; omega), rfl⟩
--== impl.evaluate
set_option maxHeartbeats 4000000 in
theorem i_evaluate {p : Pres} (hV : ValidP p) (hG : GT p 0) (vp vw vl : Value) (ws : List Int) (L : List (List Int)) (w : World) (hp : PtrP w vp p) (hw : Rd w vw ws) (hl : Rd2 w vl L) (hb : wordB (L.length : Int) ws = true) (hL : ∀ j, j < L.length → VI p 0 (L.getD j [])) (hn : L.length ≤ 6) :
    Calls Try.prog 179 #[vp, vw, vl] w (RetInts w (evTo p L ws ws.length)) := by
  obtain ⟨i0, hi, hz0, hz1, hz2⟩ := info_parts Try.info2
  have hn6 := hV.n6
  have HPT := Lib.hid hp
  have HG := Lib.hid hG
  have h64 := wordB_len hb
  have HB := Lib.hid hb
  have HL := Lib.hid hL
  have HRL := Lib.hid hl
  have HRW := Lib.hid hw
  obtain ⟨pb, v1, v2, v3, rfl, c1, c2, c3, R1, R2, R3⟩ := hp
  obtain ⟨p1, q1, rfl, _, _⟩ := R1.formN (n := p.n) rfl
  obtain ⟨aw, cw, rfl, _, _⟩ := hw.form
  obtain ⟨al, cl, rfl, _, _⟩ := hl.form
  clear R1 R2 R3 c2 c3 hw hl hb hL hG
  go_enter Try.func179, Try.ntmps179
  go_wp2_with (at_make; refine wp_mkInts _ rfl _ _ rfl i0 Try.underlying22 hi hz0 hz1 hz2 _ _ _ _ p.n rfl rfl rfl rfl (by omega) ?_)
  intro w1 hI hB hlt0
  have hI1 : Ints w1 w.heap.size (.slice (some ⟨w.heap.size, 0, none⟩) p.n p.n) (evTo p L ws 0) := hI
  clear hI c1 hlt0
  go_wp2_with fail
  go_loopw [19] (fun t wr => ∃ k : Nat, k ≤ ws.length ∧ t = .int .i64 k ∧ Ints wr w.heap.size (.slice (some ⟨w.heap.size, 0, none⟩) p.n p.n) (evTo p L ws k) ∧ Below w.heap.size w wr ∧ w.heap.size < wr.heap.size) (fun t _ => ws.length - (intOf t).toNat)
  case atStart => exact ⟨0, Nat.zero_le _, rfl, hI1, hB, (hI1.lt _ rfl).2⟩
  case round =>
    clear hI1 hB
    obtain ⟨k, hk, rfl, hI, hB, hsz⟩ := hrel
    by_cases hlt : k < ws.length
    · obtain ⟨q, hq⟩ := wordB_let HB.out hlt
      have VE := evTo_VI HG.out HL.out HB.out k hk
      have VX := evX_VI HG.out HL.out hq
      have HS := Lib.hid (evTo_succ (p := p) (L := L) hlt)
      obtain ⟨bw, ow, rfl, hcw0⟩ := HRW.out.at hlt
      obtain ⟨bl, ol, r, rfl, hcl0, hr⟩ := HRL.out.at hq.lt
      have VQ := HL.out q hq.lt
      obtain ⟨ar, cr, rfl, _, _⟩ := hr.formN VQ.len
      have hqL : q < L.length := hq.lt
      have hqn : (q : Int) < (L.length : Int) := by omega
      obtain ⟨l, Hl⟩ := nam (ws.getD k 0)
      have hll := hq.eq
      rw [Hl.out] at hll hcw0 HS VX
      have hcw := below_cells hB _ _ hcw0
      have hcl := below_cells hB _ _ hcl0
      have HRr := Lib.hid hr
      have habs : absJ l = (q : Int) + 1 := by unfold absJ; rcases hll with e | e <;> rw [e] <;> split <;> omega
      have HAb := Lib.hid habs
      clear hq hcw0 hcl0 hr habs
      by_cases hpos : 0 < l
      · have hlq : l = (q : Int) + 1 := by omega
        have HX : Hid (evX p L l = L.getD q []) := by show _ = _; rw [hlq, evX_pos]
        have hl2 : l ≤ 10 := by omega
        have hln : ¬ l < 0 := by omega
        clear hlq hll
        go_wp2_with fail
        refine (i_absJ l _ (by omega)).mono ?_
        rintro e w' ⟨rfl, rfl⟩
        rw [HAb.out]
        go_wp2_with fail
        refine (i_tv HPT.out hV HG.out w.heap.size (evX p L l) _ _ _ _ VX (fun w' hc => by rw [HX.out]; exact HRr.out.below (tv_new hI hB hc)) VE hI (Nat.le_refl _) hB).mono ?_
        rintro e w2 ⟨rfl, hI2, hC⟩
        have hB2 := tv_new hI hB hC
        have hs2 : w.heap.size < w2.heap.size := (hI2.lt _ rfl).2
        clear hI hC hB hcw hcl
        go_wp2_with fail
        go_roundw
        case rel => exact ⟨k + 1, by omega, by go_num, by rw [HS.out]; exact hI2, hB2, hs2⟩
        case measure => simp [intOf]; omega
      · have hlq : l = -((q : Int) + 1) := by omega
        have HX : Hid (evX p L l = p.inv 0 (L.getD q [])) := by show _ = _; rw [hlq, evX_neg]
        have hl2 : -10 ≤ l := by omega
        have hln : l < 0 := by omega
        clear hlq hll
        go_wp2_with fail
        refine (i_absJ l _ (by omega)).mono ?_
        rintro e w' ⟨rfl, rfl⟩
        rw [HAb.out]
        go_wp2_with fail
        refine (i_invert _ _ p 0 (L.getD q []) _ (HPT.out.below hB) hV HG.out (HRr.out.below hB) VQ).mono ?_
        rintro e w5 ⟨u5, rfl, hI5, hB5⟩
        have hB6 := below_size hB hB5
        have hI6 := hI.below hB5
        have hlt5 := hI5.lt
        rw [← HX.out] at hI5
        clear hI hB hcw hcl hB5
        go_wp2_with fail
        refine (i_tv HPT.out hV HG.out w.heap.size (evX p L l) _ _ _ _ VX (fun w' hc => (hI5.chgS hc (fun g hg h => by have := hlt5 g hg; simp only [Value.ownBlock] at h; cases h; omega)).rd) VE hI6 (Nat.le_refl _) hB6).mono ?_
        rintro e w2 ⟨rfl, hI2, hC⟩
        have hB2 := tv_new hI6 hB6 hC
        have hs2 : w.heap.size < w2.heap.size := (hI2.lt _ rfl).2
        clear hI6 hC hB6 hI5 hlt5
        go_wp2_with fail
        go_roundw
        case rel => exact ⟨k + 1, by omega, by go_num, by rw [HS.out]; exact hI2, hB2, hs2⟩
        case measure => simp [intOf]; omega
    · obtain rfl : k = ws.length := by omega
      go_wp2_with fail
      go_ret
      exact ⟨_, rfl, hI, hB⟩
--== spec.l10Elements
def allT (p : Pres) (L : List (List Int)) : Bool := L.all fun x => tailB p.orders x 0
theorem allT_no {p : Pres} {L : List (List Int)} {j : Nat} (hj : j < L.length) (h : tailB p.orders (L.getD j []) 0 = false) : allT p L = false :=
  List.all_eq_false.2 ⟨_, getL_mem hj, by rw [h]; exact Bool.false_ne_true⟩
theorem allT_of {p : Pres} {L : List (List Int)} (h2 : ∀ j, j < L.length → tailB p.orders (L.getD j []) 0 = true) : allT p L = true := by
  refine List.all_eq_true.2 fun v hv => ?_
  obtain ⟨k, hk, rfl⟩ := List.mem_iff_getElem.1 hv
  have := h2 k hk
  rwa [List.getD_eq_getElem?_getD, List.getElem?_eq_getElem hk] at this
theorem elsB_allT (p : Pres) (L : List (List Int)) : elsB p L = (conB p && allT p L) := rfl
set_option maxHeartbeats 4000000 in
theorem s_l10Elements {p : Pres} (hV : ValidP p) (v1 v2 v3 vl : Value) (L : List (List Int)) (w : World) (hp : RdP w v1 v2 v3 p) (hl : Rd2 w vl L) :
    Calls Try.prog 103 #[.agg #[v1, v2, v3], vl] w (RetV w (.bool (allT p L))) := by
  have HO := Lib.hid (ordB_true hV.ord).1
  have HP := Lib.hid hp
  obtain ⟨p1, q1, rfl, _, _⟩ := hp.1.formN (n := p.n) rfl
  obtain ⟨p2, q2, rfl, _, _⟩ := hp.2.1.formN hV.pl
  obtain ⟨p3, q3, rfl, _, _⟩ := hp.2.2.formN hV.cl
  have g0 := below_alloc w (Obj.cells #[Value.slice p1 p.n q1, Value.slice p2 p.n q2, Value.slice p3 p.n q3] 32)
  have x0 := Bx.new w (Value.slice p1 p.n q1) (Value.slice p2 p.n q2) (Value.slice p3 p.n q3)
  obtain ⟨al, cl, rfl, _, _⟩ := hl.form
  have HRL := Lib.hid hl
  clear hp hl
  go_enter Try.func103, Try.ntmps103
  go_wp2_with fail
  go_loopw [5] (fun t wr => ∃ k : Nat, k ≤ L.length ∧ t = .int .i64 k ∧ (∀ j, j < k → tailB p.orders (L.getD j []) 0 = true) ∧ Bx wr w.heap.size (Value.slice p1 p.n q1) (Value.slice p2 p.n q2) (Value.slice p3 p.n q3) ∧ Below w.heap.size w wr) (fun t _ => L.length - (intOf t).toNat)
  case atStart => exact ⟨0, Nat.zero_le _, rfl, fun j hj => by omega, x0, g0⟩
  case round =>
    clear x0 g0
    obtain ⟨k, hk, rfl, hall, hX, hB⟩ := hrel
    have HA := Lib.hid hall
    clear hall
    by_cases hlt : k < L.length
    · obtain ⟨bl, ol, r, rfl, hcl0, hr⟩ := HRL.out.at hlt
      obtain ⟨ar, cr, hre, _, _⟩ := hr.form
      obtain ⟨xr, hxr⟩ : ∃ xr, (L.getD k []).length = xr := ⟨_, rfl⟩
      rw [hxr] at hre
      subst hre
      have e1 := below_cells hB _ _ hcl0
      obtain ⟨fb, hfb⟩ : ∃ fb, tailB p.orders (L.getD k []) 0 = fb := ⟨_, rfl⟩
      have HFB := Lib.hid hfb
      have lx := hX.lt
      have m0 := hX.c0
      have m1 := hX.c1
      have m2 := hX.c2
      have KEEP : Hid (∀ wx, Below wr.heap.size wr wx → Below wr.heap.size wr wx ∧ wx.cell? ⟨w.heap.size, 0, none⟩ = some (Value.slice p1 p.n q1) ∧ wx.cell? ⟨w.heap.size, 1, none⟩ = some (Value.slice p2 p.n q2) ∧ wx.cell? ⟨w.heap.size, 2, none⟩ = some (Value.slice p3 p.n q3) ∧ wx.cell? ⟨bl, ol + k, none⟩ = some (Value.slice ar xr cr)) := fun wx hb =>
        ⟨hb, below_cells hb _ _ m0, below_cells hb _ _ m1, below_cells hb _ _ m2, below_cells hb _ _ e1⟩
      have HEL : Hid (∀ wx, Below wr.heap.size wr wx → Calls Try.prog 148 #[.agg #[Value.slice p1 p.n q1, Value.slice p2 p.n q2, Value.slice p3 p.n q3], .slice ar xr cr] wx (RetV wx (.bool fb))) := fun wx hb => by
        have := s_l10Element _ _ _ _ p (L.getD k []) wx (HP.out.below (below_size hB hb)) (hr.below (below_size hB hb)) HO.out
        rwa [hfb] at this
      have hkL : (k : Int) < (L.length : Int) := by omega
      have HBB := Lib.hid hB
      have HXX := Lib.hid hX
      clear hcl0 hr hxr hfb m0 m1 m2 e1 hX hB
      go_wp2_with fail
      go_region_held3 (fun wx => Below wr.heap.size wr wx ∧ wx.cell? ⟨w.heap.size, 0, none⟩ = some (Value.slice p1 p.n q1) ∧ wx.cell? ⟨w.heap.size, 1, none⟩ = some (Value.slice p2 p.n q2) ∧ wx.cell? ⟨w.heap.size, 2, none⟩ = some (Value.slice p3 p.n q3) ∧ wx.cell? ⟨bl, ol + k, none⟩ = some (Value.slice ar xr cr))
        (first | exact KEEP.out _ (Below.refl _ _).drew | exact KEEP.out _ (below_size (And.left (by assumption)) (by assumption)))
        (first
          | ((go_at_call 148); (with_reducible refine (HEL.out _ (And.left (by assumption))).mono ?_); (rintro e w2 ⟨rfl, hB2⟩)))
      have hB3 : Below wr.heap.size wr w2 := And.left (by assumption)
      have hX3 := HXX.out.below hB3 lx
      have hB4 := below_size HBB.out hB3
      clear hB2 hB3 KEEP HEL hkL
      cases fb with
      | true =>
        have HN : Hid (∀ j, j < k + 1 → tailB p.orders (L.getD j []) 0 = true) := fun j hj => by
          by_cases h : j = k
          · subst h; exact HFB.out
          · exact HA.out j (by omega)
        go_wp2_with fail
        go_roundw
        case rel => exact ⟨k + 1, by omega, by go_num, HN.out, hX3, hB4⟩
        case measure => simp [intOf]; omega
      | false =>
        have HN := Lib.hid (allT_no hlt HFB.out)
        go_wp2_with fail
        go_ret
        exact ⟨ret_bool HN.out.symm, hB4⟩
    · obtain rfl : k = L.length := by omega
      have HN := Lib.hid (allT_of HA.out)
      go_wp2_with fail
      go_ret
      exact ⟨ret_bool HN.out.symm, hB⟩
--== spec.l10Eval
set_option maxHeartbeats 8000000 in
theorem s_l10Eval {p : Pres} (hV : ValidP p) (hG : GT p 0) (v1 v2 v3 vw vl : Value) (ws : List Int) (L : List (List Int)) (w : World) (hp : RdP w v1 v2 v3 p) (hw : Rd w vw ws) (hl : Rd2 w vl L) (hb : wordB (L.length : Int) ws = true) (hL : ∀ j, j < L.length → VI p 0 (L.getD j [])) (hn : L.length ≤ 6) :
    Calls Try.prog 150 #[.agg #[v1, v2, v3], vw, vl] w (RetInts w (evTo p L ws ws.length)) := by
  have hn6 := hV.n6
  have HG := Lib.hid hG
  have h64 := wordB_len hb
  have HB := Lib.hid hb
  have HL := Lib.hid hL
  have HRL := Lib.hid hl
  have HRW := Lib.hid hw
  have HP := Lib.hid hp
  obtain ⟨p1, q1, rfl, _, _⟩ := hp.1.formN (n := p.n) rfl
  obtain ⟨p2, q2, rfl, _, _⟩ := hp.2.1.formN hV.pl
  obtain ⟨p3, q3, rfl, _, _⟩ := hp.2.2.formN hV.cl
  have g0 := below_alloc w (Obj.cells #[Value.slice p1 p.n q1, Value.slice p2 p.n q2, Value.slice p3 p.n q3] 32)
  have x0 := Bx.new w (Value.slice p1 p.n q1) (Value.slice p2 p.n q2) (Value.slice p3 p.n q3)
  obtain ⟨aw, cw, rfl, _, _⟩ := hw.form
  obtain ⟨al, cl, rfl, _, _⟩ := hl.form
  clear hp hw hl hb hL hG
  go_enter Try.func150, Try.ntmps150
  go_wp2_with fail
  refine (s_l10One hV _ _ _ _ (HP.out.below g0)).mono ?_
  rintro e w1 ⟨u1, rfl, hI1, hB1⟩
  have g1 := below_size g0 hB1
  have x1 := x0.below hB1 (by simp)
  have hI2 : Ints w1 w.heap.size u1 (evTo p L ws 0) := hI1.mono (by simp)
  clear hI1 hB1 x0 g0
  go_wp2_with fail
  go_loopw [7, 8] (fun u t wr => ∃ k : Nat, k ≤ ws.length ∧ t = .int .i64 k ∧ Ints wr w.heap.size u (evTo p L ws k) ∧ Bx wr w.heap.size (Value.slice p1 p.n q1) (Value.slice p2 p.n q2) (Value.slice p3 p.n q3) ∧ Below w.heap.size w wr) (fun _ t _ => ws.length - (intOf t).toNat)
  case atStart => exact ⟨0, Nat.zero_le _, rfl, hI2, x1, g1⟩
  case round =>
    clear hI2 x1 g1
    obtain ⟨k, hk, rfl, hI, hX, hB⟩ := hrel
    have VE := evTo_VI HG.out HL.out HB.out k hk
    obtain ⟨au, cu, rfl, _, _⟩ := hI.rd.formN VE.len
    by_cases hlt : k < ws.length
    · obtain ⟨q, hq⟩ := wordB_let HB.out hlt
      have VX := evX_VI HG.out HL.out hq
      have HS := Lib.hid (evTo_succ (p := p) (L := L) hlt)
      obtain ⟨bw, ow, rfl, hcw0⟩ := HRW.out.at hlt
      obtain ⟨bl, ol, r, rfl, hcl0, hr⟩ := HRL.out.at hq.lt
      have VQ := HL.out q hq.lt
      obtain ⟨ar, cr, rfl, _, _⟩ := hr.formN VQ.len
      have hqL : q < L.length := hq.lt
      obtain ⟨l, Hl⟩ := nam (ws.getD k 0)
      have hll := hq.eq
      rw [Hl.out] at hll hcw0 HS VX
      have e1 := below_cells hB _ _ hcw0
      have e2 := below_cells hB _ _ hcl0
      have lx := hX.lt
      have m0 := hX.c0
      have m1 := hX.c1
      have m2 := hX.c2
      have KEEP : Hid (∀ wx, Below wr.heap.size wr wx → Below wr.heap.size wr wx ∧ wx.cell? ⟨w.heap.size, 0, none⟩ = some (Value.slice p1 p.n q1) ∧ wx.cell? ⟨w.heap.size, 1, none⟩ = some (Value.slice p2 p.n q2) ∧ wx.cell? ⟨w.heap.size, 2, none⟩ = some (Value.slice p3 p.n q3) ∧ wx.cell? ⟨bw, ow + k, none⟩ = some (.int .i64 l) ∧ wx.cell? ⟨bl, ol + q, none⟩ = some (Value.slice ar p.n cr)) := fun wx hb =>
        ⟨hb, below_cells hb _ _ m0, below_cells hb _ _ m1, below_cells hb _ _ m2, below_cells hb _ _ e1, below_cells hb _ _ e2⟩
      have HRr := Lib.hid (hr.below hB)
      have HRI := Lib.hid hI.rd
      have HBB := Lib.hid hB
      have HXX := Lib.hid hX
      have hkw : (k : Int) < (ws.length : Int) := by omega
      have hqn : (q : Int) < (L.length : Int) := by omega
      have hq0 : (0 : Int) ≤ (q : Int) := by omega
      clear hq hcw0 hcl0 hr hI hB hX m0 m1 m2
      by_cases hpos : 0 < l
      · have hlq : l = (q : Int) + 1 := by omega
        have HX : Hid (evX p L l = L.getD q []) := by show _ = _; rw [hlq, evX_pos]
        have HMU : Hid (∀ wx, Below wr.heap.size wr wx → Calls Try.prog 176 #[.agg #[Value.slice p1 p.n q1, Value.slice p2 p.n q2, Value.slice p3 p.n q3], .slice au p.n cu, .slice ar p.n cr] wx (RetInts wx (p.at 0 (evTo p L ws k) (evX p L l)))) := fun wx hb =>
          s_l08Mul hV _ _ _ _ _ _ _ wx (HP.out.below (below_size HBB.out hb)) (HRI.out.below hb) (by rw [HX.out]; exact HRr.out.below hb) VE VX
        have D1 : decide (0 < l) = true := by simpa using hpos
        have D2 : (l > 0) = True := by simpa using hpos
        have W1 : IntKind.i64.wrap (l - 1) = (q : Int) := by rw [IntWalk.i64_in _ (by omega)]; omega
        clear hlq hll D2
        go_wp2_with fail
        clear D1
        go_region_held3 (fun wx => Below wr.heap.size wr wx ∧ wx.cell? ⟨w.heap.size, 0, none⟩ = some (Value.slice p1 p.n q1) ∧ wx.cell? ⟨w.heap.size, 1, none⟩ = some (Value.slice p2 p.n q2) ∧ wx.cell? ⟨w.heap.size, 2, none⟩ = some (Value.slice p3 p.n q3) ∧ wx.cell? ⟨bw, ow + k, none⟩ = some (.int .i64 l) ∧ wx.cell? ⟨bl, ol + q, none⟩ = some (Value.slice ar p.n cr))
          (first | exact KEEP.out _ (Below.refl _ _).drew | exact KEEP.out _ (below_size (And.left (by assumption)) (by assumption)))
          (first
            | ((go_at_call 176); (with_reducible refine (HMU.out _ (And.left (by assumption))).mono ?_); (rintro e w2 ⟨u2, rfl, hI2, hB2⟩)))
        have hB3 : Below wr.heap.size wr w2 := And.left (by assumption)
        have hX3 := HXX.out.below hB3 lx
        have hB4 := below_size HBB.out hB3
        have hI3 : Ints w2 w.heap.size u2 _ := hI2.mono (by have := HBB.out.size; simp; omega)
        clear hI2 hB2 hB3 KEEP HMU W1 e1 e2
        go_wp2_with fail
        go_roundw
        case rel => exact ⟨k + 1, by omega, by go_num, by rw [HS.out]; exact hI3, hX3, hB4⟩
        case measure => simp [intOf]; omega
      · have hlq : l = -((q : Int) + 1) := by omega
        have HX : Hid (evX p L l = p.inv 0 (L.getD q [])) := by show _ = _; rw [hlq, evX_neg]
        have HINV : Hid (∀ wx, Below wr.heap.size wr wx → Calls Try.prog 177 #[.agg #[Value.slice p1 p.n q1, Value.slice p2 p.n q2, Value.slice p3 p.n q3], .slice ar p.n cr] wx (RetInts wx (evX p L l))) := fun wx hb => by
          rw [HX.out]
          exact s_l10Inv hV HG.out _ _ _ _ _ wx (HP.out.below (below_size HBB.out hb)) (HRr.out.below hb) VQ
        have HMU : Hid (∀ wx v, Below wr.heap.size wr wx → Rd wx v (evX p L l) → Calls Try.prog 176 #[.agg #[Value.slice p1 p.n q1, Value.slice p2 p.n q2, Value.slice p3 p.n q3], .slice au p.n cu, v] wx (RetInts wx (p.at 0 (evTo p L ws k) (evX p L l)))) := fun wx v hb hv =>
          s_l08Mul hV _ _ _ _ _ _ _ wx (HP.out.below (below_size HBB.out hb)) (HRI.out.below hb) hv VE VX
        have D1 : decide (0 < l) = false := by simpa using hpos
        have W1 : IntKind.i64.wrap (-l) = (q : Int) + 1 := by rw [IntWalk.i64_in _ (by omega)]; omega
        have W2 : IntKind.i64.wrap ((q : Int) + 1 - 1) = (q : Int) := by rw [IntWalk.i64_in _ (by omega)]; omega
        have W3 : IntKind.i64.wrap (q : Int) = (q : Int) := IntWalk.i64_in _ (by omega)
        clear hlq hll
        go_wp2_with fail
        clear D1
        go_region_held3 (fun wx => Below wr.heap.size wr wx ∧ wx.cell? ⟨w.heap.size, 0, none⟩ = some (Value.slice p1 p.n q1) ∧ wx.cell? ⟨w.heap.size, 1, none⟩ = some (Value.slice p2 p.n q2) ∧ wx.cell? ⟨w.heap.size, 2, none⟩ = some (Value.slice p3 p.n q3) ∧ wx.cell? ⟨bw, ow + k, none⟩ = some (.int .i64 l) ∧ wx.cell? ⟨bl, ol + q, none⟩ = some (Value.slice ar p.n cr))
          (first | exact KEEP.out _ (Below.refl _ _).drew | exact KEEP.out _ (below_size (And.left (by assumption)) (by assumption)))
          (first
            | ((go_at_call 177); (with_reducible refine (HINV.out _ (And.left (by assumption))).mono ?_); (rintro e w2 ⟨u2, rfl, hI2, hB2⟩))
            | ((go_at_call 176); (with_reducible refine (HMU.out _ _ (And.left (by assumption)) hI2.rd).mono ?_); (rintro e w3 ⟨u3, rfl, hI3, hB3⟩)))
        have hB5 : Below wr.heap.size wr w3 := And.left (by assumption)
        have hX3 := HXX.out.below hB5 lx
        have hB4 := below_size HBB.out hB5
        have hI4 : Ints w3 w.heap.size u3 _ := hI3.mono (by have := HBB.out.size; have h2 := hB2.size; simp at h2; omega)
        clear hI2 hB2 hI3 hB3 hB5 KEEP HMU HINV W1 W2 W3 e1 e2
        go_wp2_with fail
        go_roundw
        case rel => exact ⟨k + 1, by omega, by go_num, by rw [HS.out]; exact hI4, hX3, hB4⟩
        case measure => simp [intOf]; omega
    · obtain rfl : k = ws.length := by omega
      go_wp2_with fail
      go_ret
      exact ⟨_, rfl, hI, hB⟩
--== tops
def evC (p : Pres) (ws : List Int) (L : List (List Int)) : Bool := elsB p L && (decide (L.length ≤ 6) && wordB (L.length : Int) ws)
theorem evC_1 {p : Pres} {ws : List Int} {L : List (List Int)} (h : elsB p L = false) : evC p ws L = false := by simp [evC, h]
theorem evC_2 {p : Pres} {ws : List Int} {L : List (List Int)} (h : ¬ L.length ≤ 6) : evC p ws L = false := by unfold evC; rw [decide_eq_false h]; simp
theorem evC_3 {p : Pres} {ws : List Int} {L : List (List Int)} (h : wordB (L.length : Int) ws = false) : evC p ws L = false := by unfold evC; rw [h]; simp
theorem evC_4 {p : Pres} {ws : List Int} {L : List (List Int)} (h : elsB p L = true) (h2 : L.length ≤ 6) (h3 : wordB (L.length : Int) ws = true) : evC p ws L = true := by unfold evC; rw [h, decide_eq_true h2, h3]; rfl
--== lengths
theorem len_EvaluateWord (p : Pres) (ws : List Int) (L : List (List Int)) : (okX (evC p ws L) (evTo p L ws ws.length)).length ≤ 1000000000 := by
  unfold okX
  by_cases h : evC p ws L = true
  · rw [h, if_pos rfl]
    unfold evC at h
    simp only [Bool.and_eq_true] at h
    obtain ⟨hc, hall⟩ := elsB_true h.1
    obtain ⟨hV, hG⟩ := conB_true hc
    rw [(evTo_VI hG (fun j hj => tail_VI (hall _ (getL_mem hj))) h.2.2 ws.length (Nat.le_refl _)).len]
    have := hV.n6
    omega
  · rw [if_neg h]; simp
end Go.Proofs.Ythnpndheaailjaa
