/-
  The program's functions on a presentation that lies inside another struct.
-/
import Derived.Test.YthnpndheaailjaaEvw
namespace Go.Proofs.Ythnpndheaailjaa
set_option linter.unusedVariables false
set_option linter.unusedSimpArgs false
set_option maxRecDepth 100000
open Go.RowKit

def PtrO (w : World) (v : Value) (p : Pres) : Prop := ∃ b o v1 v2 v3, v = .pointer (some ⟨b, o, none⟩) ∧ w.cell? ⟨b, o, none⟩ = some v1 ∧ w.cell? ⟨b, o + 1, none⟩ = some v2 ∧ w.cell? ⟨b, o + 2, none⟩ = some v3 ∧ RdP w v1 v2 v3 p
theorem PtrO.of_cells {w w' : World} {v : Value} {p : Pres} (h : PtrO w v p) (hc : ∀ a u, w.cell? a = some u → w'.cell? a = some u) : PtrO w' v p := by
  obtain ⟨b, o, v1, v2, v3, rfl, h1, h2, h3, h4⟩ := h
  exact ⟨b, o, v1, v2, v3, rfl, hc _ _ h1, hc _ _ h2, hc _ _ h3, h4.1.of_cells hc, h4.2.1.of_cells hc, h4.2.2.of_cells hc⟩
theorem PtrO.below {w w' : World} {v : Value} {p : Pres} (h : PtrO w v p) (hb : Below w.heap.size w w') : PtrO w' v p := h.of_cells (below_cells hb)
--== impl.isExponents
set_option maxHeartbeats 800000 in
theorem o_isExponents (vp v : Value) (p : Pres) (xs : List Int) (w : World) (hp : PtrO w vp p) (hv : Rd w v xs) (ho : primesB p.orders = true) :
    Calls Try.prog 169 #[vp, v] w fun e w' => e = .returned (.bool (tailB p.orders xs 0)) ∧ w = w' := by
  obtain ⟨pb, po, v1, v2, v3, rfl, hp1, hp2, hp3, hR, _, _⟩ := hp
  clear hp2 hp3
  obtain ⟨os, pw, cj⟩ := p
  simp only at hR ho ⊢
  obtain ⟨ao, cap, rfl, hc1, hc2, _, hA⟩ := hv
  obtain ⟨aq, capq, rfl, hq1, hq2, _, hB⟩ := hR
  by_cases hl : xs.length = os.length
  · have HL := Lib.hid hl
    have hl1 : ((xs.length : Int) == (os.length : Int)) = true := by simp [hl]
    have hl2 : ((xs.length : Int) != (os.length : Int)) = false := by simp [hl]
    clear hl
    go_enter Try.func169, Try.ntmps169
    go_wp2
    go_loop [17] (fun i => ∃ j : Nat, j ≤ xs.length ∧ i = .int .i64 j ∧ ∀ t, t < j → expAt os xs 0 t = true) (fun i => xs.length - (intOf i).toNat)
    case atStart => exact ⟨0, Nat.zero_le _, rfl, fun t ht => by omega⟩
    case round =>
      clear hl1 hl2
      obtain ⟨j, hj, rfl, hall⟩ := hrel
      have HA := Lib.hid hall
      clear hall
      by_cases hlt : j < xs.length
      · have hlt' : j < os.length := by have := HL.out; omega
        rcases hA with hA | ⟨b, off, rfl, hA⟩
        · omega
        rcases hB with hB | ⟨b', off', rfl, hB⟩
        · omega
        have hcell := hA j hlt
        have hcell' := hB j hlt'
        have hbd := primesB_at ho (getD_mem hlt')
        clear hA hB
        have HE : Hid (expAt os xs 0 j = inB (xs.getD j 0) 0 (os.getD j 0 - 1)) := by show _ = _; simp [expAt]
        generalize xs.getD j 0 = x at *
        generalize os.getD j 0 = o at *
        by_cases hin : inB x 0 (o - 1) = true
        · go_wp2_with (go_at_call 73; refine (i_inside _ _ _ _).mono ?_; rintro e w' ⟨rfl, rfl⟩)
          go_round
          case rel => exact ⟨j + 1, by omega, by go_num, fun t ht => by
            by_cases h : t = j
            · subst h; rw [HE.out]; exact hin
            · exact HA.out t (by omega)⟩
          case measure => simp [intOf]; omega
        · have hin' : inB x 0 (o - 1) = false := by simpa using hin
          clear hin
          go_wp2_with (go_at_call 73; refine (i_inside _ _ _ _).mono ?_; rintro e w' ⟨rfl, rfl⟩)
          go_ret
          exact ⟨ret_bool (tailB_no2 hlt (by rw [HE.out]; exact hin')).symm, rfl⟩
      · obtain rfl : j = xs.length := by omega
        go_wp2
        go_ret
        exact ⟨ret_bool (tailB_of HL.out HA.out).symm, rfl⟩
  · have HL := Lib.hid hl
    have hl1 : ((xs.length : Int) == (os.length : Int)) = false := by simp; omega
    have hl2 : ((xs.length : Int) != (os.length : Int)) = true := by simp; omega
    clear hl
    go_enter Try.func169, Try.ntmps169
    go_wp2
    go_ret
    exact ⟨ret_bool (tailB_no HL.out).symm, rfl⟩
--== impl.areElements
set_option maxHeartbeats 2000000 in
theorem o_areElements (vp vl : Value) (p : Pres) (xss : List (List Int)) (w : World) (hp : PtrO w vp p) (hl : Rd2 w vl xss) (hn : xss.length ≤ 1000000000) :
    Calls Try.prog 152 #[vp, vl] w (RetV w (.bool (elsB p xss))) := by
  have HP := Lib.hid hp
  have HL := Lib.hid hl
  obtain ⟨pb, po, v1, v2, v3, rfl, c1, c2, c3, R⟩ := hp
  have HR := Lib.hid R
  obtain ⟨ao, cap, rfl, _, _⟩ := hl.form
  clear R hl
  by_cases hc : conB p = true
  case neg =>
    have hc' : conB p = false := by simpa using hc
    have HX := Lib.hid (elsB_no (xss := xss) hc')
    clear hc
    go_enter Try.func152, Try.ntmps152
    go_wp2_with fail
    refine (i_IsConsistent _ _ _ p _ HR.out).mono ?_
    rintro e w1 ⟨rfl, hb⟩
    rw [hc']
    clear hc' c1 c2 c3
    go_wp2_with fail
    go_ret
    exact ⟨ret_bool HX.out.symm, hb⟩
  have HO := Lib.hid (conB_ord hc)
  have HC := Lib.hid hc
  go_enter Try.func152, Try.ntmps152
  go_wp2_with fail
  refine (i_IsConsistent _ _ _ p _ HR.out).mono ?_
  rintro e w1 ⟨rfl, hb⟩
  rw [hc]
  clear hc c1 c2 c3
  have HB := Lib.hid hb
  go_wp2_with fail
  go_loop [14] (fun t => ∃ j : Nat, j ≤ xss.length ∧ t = .int .i64 j ∧ ∀ k, k < j → tailB p.orders (xss.getD k []) 0 = true) (fun t => xss.length - (intOf t).toNat)
  case atStart => exact ⟨0, Nat.zero_le _, rfl, fun k hk => by omega⟩
  case round =>
    obtain ⟨j, hj, rfl, hall⟩ := hrel
    have HA := Lib.hid hall
    clear hall
    by_cases hlt : j < xss.length
    · obtain ⟨b, off, r, rfl, hcell0, hr⟩ := HL.out.at hlt
      have hcell := below_cells HB.out _ _ hcell0
      have HRr := Lib.hid (hr.below HB.out)
      obtain ⟨x, hx⟩ : ∃ x, xss.getD j [] = x := ⟨_, rfl⟩
      have HX := Lib.hid hx
      rw [hx] at HRr
      clear hcell0 hx hr
      by_cases ht : tailB p.orders x 0 = true
      · have HT := Lib.hid ht
        go_wp2_with fail
        refine (o_isExponents _ _ p x _ (HP.out.below HB.out) HRr.out HO.out).mono ?_
        rintro e w' ⟨rfl, rfl⟩
        rw [ht]
        clear ht
        go_wp2_with fail
        go_round
        case rel => exact ⟨j + 1, by omega, by go_num, fun k hk => by
          by_cases h : k = j
          · subst h; rw [HX.out]; exact HT.out
          · exact HA.out k (by omega)⟩
        case measure => simp [intOf]; omega
      · have ht' : tailB p.orders x 0 = false := by simpa using ht
        have HN : Hid (elsB p xss = false) := elsB_out hlt (by rw [HX.out]; exact ht')
        clear ht
        go_wp2_with fail
        refine (o_isExponents _ _ p x _ (HP.out.below HB.out) HRr.out HO.out).mono ?_
        rintro e w' ⟨rfl, rfl⟩
        rw [ht']
        clear ht'
        go_wp2_with fail
        go_ret
        exact ⟨ret_bool HN.out.symm, HB.out⟩
    · obtain rfl : j = xss.length := by omega
      have HN : Hid (elsB p xss = true) := elsB_of HC.out HA.out
      go_wp2_with fail
      go_ret
      exact ⟨ret_bool HN.out.symm, HB.out⟩
--== impl.timesGenerator
set_option maxHeartbeats 4000000 in
theorem gen_of_vecO {w0 : World} {vp : Value} {p : Pres} {s d : Nat} (hp : PtrO w0 vp p) (hV : ValidP p) (hG : GT p s) (hvec : VecC w0 vp p s d) : GenC w0 vp p s (d + 1) := by
  intro B j e g cap w hsj hjn hjd he hI hg0 hb0
  have hn6 := hV.n6
  obtain ⟨pb, po, v1, v2, v3, rfl, c1, c2, c3, R1, R2, R3⟩ := hp
  obtain ⟨p1, q1, rfl, _, _⟩ := R1.form
  obtain ⟨p2, q2, rfl, _, _⟩ := R2.form
  obtain ⟨p3, q3, rfl, _, _⟩ := R3.form
  have hl2 := hV.pl
  have hl3 := hV.cl
  obtain ⟨b1, o1, rfl, k1⟩ := R1.at (j := j) hjn
  obtain ⟨b2, o2, r2, rfl, k2, RP⟩ := R2.at (j := j) (by omega)
  obtain ⟨b3, o3, r3, rfl, k3, RC⟩ := R3.at (j := j) (by omega)
  have hcl := hV.clen j hjn
  obtain ⟨a2, z2, rfl, _, _⟩ := RP.formN (hG.vd.pow j hjn).len
  obtain ⟨a3, z3, rfl, _, _⟩ := RC.formN (n := p.n - (j + 1)) (by omega)
  obtain ⟨m, hm⟩ : ∃ m, p.n = j + 1 + m := ⟨p.n - (j + 1), by omega⟩
  have hel := he.len
  have hrk := hV.rk j hjn
  have hc0 := he.lo j hjn
  have hc1 := he.hi j hjn
  have hjo : j < p.orders.length := hjn
  have hjp : j < p.powers.length := by omega
  have hjq : j < p.conj.length := by omega
  have hjc : j + 1 ≤ cap := by have := (hI.row (by omega)).2.1; omega
  have HI := Lib.hid hI
  have hrd := hI.rd
  have HRest : Hid ((j + 1 = cap → ∀ ad, Rd w (.slice (some ad) (p.n - (j + 1)) 0) (e.drop (j + 1))) ∧ Rd w (.slice (some ⟨g, j + 1, none⟩) (p.n - (j + 1)) (cap - (j + 1))) (e.drop (j + 1))) := by
    refine ⟨fun h ad => ?_, ?_⟩
    · have h2 := (hI.row (by omega)).2.1
      rw [show p.n - (j + 1) = 0 by omega]
      exact Rd.suf0 (by simp; omega)
    · have := hrd.suf (j + 1) (by omega); rwa [Nat.zero_add] at this
  have hlr : (e.drop (j + 1)).length = p.n - (j + 1) := by simp; omega
  have hgw := (hI.row (by omega)).2.2.2.2.1
  have HM := Lib.hid hm
  have HEL := Lib.hid hel
  have HL2 := Lib.hid hl2
  have HL3 := Lib.hid hl3
  have HCL := Lib.hid hcl
  have HLR := Lib.hid hlr
  have HE := Lib.hid he
  clear hI hrd hm hel hl2 hl3 hcl hlr he
  have KEEP : Hid (∀ wx, Below w0.heap.size w0 wx → wx.cell? ⟨pb, po, none⟩ = some (.slice (some ⟨b1, o1, none⟩) p.orders.length q1) ∧ wx.cell? ⟨pb, po + 1, none⟩ = some (.slice (some ⟨b2, o2, none⟩) p.powers.length q2) ∧
      wx.cell? ⟨pb, po + 2, none⟩ = some (.slice (some ⟨b3, o3, none⟩) p.conj.length q3) ∧ wx.cell? ⟨b1, o1 + j, none⟩ = some (.int .i64 (p.r j)) ∧ wx.cell? ⟨b2, o2 + j, none⟩ = some (.slice a2 p.n z2) ∧
      wx.cell? ⟨b3, o3 + j, none⟩ = some (.slice a3 (p.n - (j + 1)) z3)) := fun wx hb =>
    ⟨below_cells hb _ _ c1, below_cells hb _ _ c2, below_cells hb _ _ c3, below_cells hb _ _ k1, below_cells hb _ _ k2, below_cells hb _ _ k3⟩
  by_cases hcap : j + 1 = cap
  all_goals
    first
    | ((have hcap2 : cap ≤ j + 1 := by omega); (have HCap := Lib.hid hcap); clear hcap
       go_enter Try.func195, Try.ntmps195
       go_wp2_with fail
       refine (f_Clone _ (e.drop (j + 1)) _ (HRest.out.1 HCap.out _) (by rw [HLR.out]; omega)).mono ?_
       clear hcap2 HCap)
    | ((have hcap2 : j + 1 < cap := by omega); clear hcap
       go_enter Try.func195, Try.ntmps195
       go_wp2_with fail
       refine (f_Clone _ (e.drop (j + 1)) _ HRest.out.2 (by rw [HLR.out]; omega)).mono ?_
       clear hcap2)
  all_goals
    rintro e' w1 ⟨u, rfl, hIr, hB⟩
    obtain ⟨au, cu, rfl, _, _⟩ := hIr.form
    have hI1 := HI.out.below hB
    have hC1 := Chg.of_below hB g (g + 1)
    rw [HLR.out] at hIr ⊢
    clear hB
    go_wp2_with fail
    go_loopw [17] (fun i wr => ∃ k : Nat, k ≤ p.n - (j + 1) ∧ i = .int .i64 k ∧ Ints wr B (.slice (some ⟨g, 0, none⟩) p.n cap) (clr e j k) ∧ Chg g (g + 1) w wr ∧ Ints wr w.heap.size (.slice au (p.n - (j + 1)) cu) (e.drop (j + 1))) (fun i _ => p.n - (intOf i).toNat)
    case atStart => exact ⟨0, Nat.zero_le _, rfl, by rw [clr_zero]; exact hI1, hC1, hIr⟩
    case round =>
      clear hI1 hC1 hIr
      obtain ⟨k, hk, rfl, hI, hC, hIr⟩ := hrel
      have hro := hI.row (by rw [clr_len, HEL.out]; omega)
      have hgr := hro.2.2.2.2.1
      have hfz := hro.2.2.2.2.2.2
      by_cases hlt : k < p.n - (j + 1)
      · have hcc := hro.2.2.2.2.2.1 (j + 1 + k) (by rw [clr_len, HEL.out]; omega)
        have hff := hfz (j + 1 + k)
        obtain ⟨hI2, hC2⟩ := hI.set (by rw [clr_len, HEL.out]) (j + 1 + k) 0
        rw [clr_succ] at hI2
        have hIr2 := hIr.chg hC2 (fun q hq => by have := hIr.lt q hq; omega)
        clear hro hfz
        go_wp2_with fail
        go_roundw
        case rel => exact ⟨k + 1, by omega, by go_num, hI2, hC.then1 hC2, hIr2⟩
        case measure => simp [intOf]; omega
      · obtain rfl : k = p.n - (j + 1) := by omega
        rw [clr_all (by rw [HEL.out]; omega)] at hI hro
        have hcc := hro.2.2.2.2.2.1 j (by rw [hd_len, HEL.out]; omega)
        have hff := hfz j
        obtain ⟨c, Hc⟩ := nam (e.getD j 0)
        obtain ⟨r, Hr⟩ := nam (p.r j)
        have hcd : (hd e j).getD j 0 = e.getD j 0 := by rw [hd_getD, if_neg (by omega)]
        rw [hcd, Hc.out] at hcc
        obtain ⟨hI2, hC2⟩ := hI.set (by rw [hd_len, HEL.out]) j (c + 1)
        have hIr2 := hIr.chg hC2 (fun q hq => by have := hIr.lt q hq; omega)
        have hC3 := hC.then1 hC2
        have hro2 := hI2.row (by rw [List.length_set, hd_len, HEL.out]; omega)
        have hfz2 := hro2.2.2.2.2.2.2 j
        have hcc2 := hro2.2.2.2.2.2.1 j (by rw [List.length_set, hd_len, HEL.out]; omega)
        rw [vset_self (by rw [hd_len, HEL.out]; omega)] at hcc2
        have K := KEEP.out _ (below_chg1 hb0 hC3 hg0)
        rw [Hr.out] at K
        obtain ⟨K1, K2, K3, K4, K5, K6⟩ := K
        rw [Hc.out] at hc0 hc1
        rw [Hr.out] at hrk hc1
        clear hro hcd hfz hro2 hC hC2
        go_wp2_with fail
        generalize wr.setCell ⟨g, j, none⟩ (.int .i64 (c + 1)) = w3 at *
        have lpb : pb < g := Nat.lt_of_lt_of_le (World.block_lt_of_cell? w0 _ c1) hg0
        have lb2 : b2 < g := Nat.lt_of_lt_of_le (World.block_lt_of_cell? w0 _ k2) hg0
        have n1 : pb ≠ g := by omega
        have n2 : b2 ≠ g := by omega
        have hl2d : ((hd e j).set j (c + 1)).length = p.n := by rw [List.length_set, hd_len, HEL.out]
        by_cases hcr : c + 1 = r
        case' pos =>
             have D1 : (c + 1 == r) = true := by simpa using hcr
             obtain ⟨hv1, hfin⟩ := hG.tg_hi hsj hjn HE.out (by rw [Hc.out, Hr.out]; exact hcr)
             have HCR := Lib.hid hcr
             clear hcr
             go_quiet (fail)
             rename_i nq
             clear D1 K1 K2 K3 K4 K5 K6
             have hI3 : Ints (w3.drewN nq) B _ _ := hI2
             have hIr3 : Ints (w3.drewN nq) w.heap.size _ _ := hIr2
             have hro3 := hI3.row (by rw [hl2d]; omega)
             have hff3 := hro3.2.2.2.2.2.2 j
             have hcc3 := hro3.2.2.2.2.2.1 j (by rw [hl2d]; omega)
             rw [vset_self (by rw [hd_len, HEL.out]; omega)] at hcc3
             clear hro3
             have hC5 := hC3.drewN nq
             have K := KEEP.out _ (below_chg1 hb0 hC5 hg0)
             rw [Hr.out] at K
             obtain ⟨K1, K2, K3, K4, K5, K6⟩ := K
             clear hI2 hC3 hIr2
             generalize w3.drewN nq = w4 at *
             obtain ⟨hI4, hC4⟩ := hI3.set hl2d.symm j 0
             rw [List.set_set] at hI4
             have hIr4 := hIr3.chg hC4 (fun q hq => by have := hIr3.lt q hq; omega)
             have hC6 := hC5.then1 hC4
             have HFin := Lib.hid hfin
             clear hI3 hIr3 hC4 hC5 hfin
             go_wp2_with fail
             refine (hvec B (p.P j) _ _ g cap _ ((hG.vd.pow j hjn).mono (by omega)) (fun k hk => (hG.vd.pow j hjn).zero k (by omega)) (RdA.of RP (below_chg1 hb0 hC6 hg0) hg0) hv1 hI4 hg0 (below_chg1 hb0 hC6 hg0)).mono ?_
             rintro e' w5 ⟨rfl, hI5, hC7⟩
             have hC8 := hC6.then1 hC7
             have hIr5 := hIr4.chg hC7 (fun q hq => by have := hIr4.lt q hq; omega)
             have hv2 := hG.at hv1 ((hG.vd.pow j hjn).mono (show s ≤ j + 1 by omega))
             clear hI4 hIr4 hC6 hC7 hv1 HCR hff3 hcc3 K1 K2 K3 K4 K5 K6
             generalize p.at s ((hd e j).set j 0) (p.P j) = e2 at *
        case' neg =>
             have D1 : (c + 1 == r) = false := by simpa using hcr
             obtain ⟨hv2, hfin⟩ := hG.tg_lo hsj hjn HE.out (by rw [Hc.out, Hr.out]; omega)
             clear hcr
             go_quiet (fail)
             rename_i nq
             clear D1 K1 K2 K3 K4 K5 K6
             have hI5 : Ints (w3.drewN nq) B _ _ := hI2
             have hIr5 : Ints (w3.drewN nq) w.heap.size _ _ := hIr2
             have hC8 := hC3.drewN nq
             rw [Hc.out] at hfin hv2
             have HFin := Lib.hid hfin
             clear hI2 hC3 hIr2 hfin
             generalize w3.drewN nq = w5 at *
             generalize (hd e j).set j (c + 1) = e2 at *
        all_goals
          clear hcc hff hfz2 hcc2 hl2d
          go_wp2_with fail
          go_loopw [60] (fun i wr => ∃ k : Nat, k ≤ p.n - (j + 1) ∧ i = .int .i64 k ∧ Ints wr B (.slice (some ⟨g, 0, none⟩) p.n cap) (TG p s j e2 (ltTo (e.drop (j + 1)) k)) ∧ Chg g (g + 1) w wr ∧ Ints wr w.heap.size (.slice au (p.n - (j + 1)) cu) (e.drop (j + 1))) (fun i _ => p.n - (intOf i).toNat)
          case atStart => exact ⟨0, Nat.zero_le _, rfl, hI5, hC8, hIr5⟩
          case round =>
            clear hI5 hC8 hIr5
            obtain ⟨k, hk, rfl, hI, hC, hIr⟩ := hrel
            by_cases hlt : k < p.n - (j + 1)
            · have hjk : j + 1 + k < p.n := by omega
              obtain ⟨b6, o6, rfl, hcell⟩ := Rd.at hIr.rd (show k < (e.drop (j + 1)).length by rw [HLR.out]; exact hlt)
              obtain ⟨m1, hm1, hm7⟩ : ∃ m1 : Nat, (e.drop (j + 1)).getD k 0 = (m1 : Int) ∧ m1 ≤ 10 := by
                rw [drop_getD]
                have h1 := HE.out.lo _ hjk
                have h2 := HE.out.hi _ hjk
                have h3 := (hV.rk _ hjk).2
                exact ⟨(e.getD (j + 1 + k) 0).toNat, by omega, by omega⟩
              rw [hm1] at hcell
              have HS := Lib.hid (ltTo_succ hm1)
              clear hm1
              have hkc : k < (p.conj.getD j []).length := by have := HCL.out; have := HM.out; omega
              obtain ⟨b4, o4, r4, rfl, k4, RC4⟩ := RC.at hkc
              have HCe : Hid ((p.conj.getD j []).getD k [] = p.C j (j + 1 + k)) := by
                show _ = _; unfold Pres.C; rw [show j + 1 + k - j - 1 = k by omega]
              have hVI := hG.vd.cj j (j + 1 + k) (by omega) hjk
              obtain ⟨a5, z5, rfl, _, _⟩ := RC4.formN (n := p.n) (by rw [HCe.out]; exact hVI.len)
              have lb3 : b3 < g := Nat.lt_of_lt_of_le (World.block_lt_of_cell? w0 _ k3) hg0
              have lb4 : b4 < g := Nat.lt_of_lt_of_le (World.block_lt_of_cell? w0 _ k4) hg0
              have HVl : Hid (∀ l : Nat, VI p s (TG p s j e2 (ltTo (e.drop (j + 1)) k ++ List.replicate l k))) := fun l =>
                hG.tgl hsj hv2 (fun t ht => by
                  rcases List.mem_append.1 ht with ht | ht
                  · have := mem_ltTo' ht; omega
                  · obtain ⟨_, rfl⟩ := List.mem_replicate.1 ht; omega)
              go_wp2_with fail
              go_loopw [66] (fun i wr2 => ∃ l : Nat, l ≤ m1 ∧ i = .int .i64 l ∧ Ints wr2 B (.slice (some ⟨g, 0, none⟩) p.n cap) (TG p s j e2 (ltTo (e.drop (j + 1)) k ++ List.replicate l k)) ∧ Chg g (g + 1) w wr2 ∧ Ints wr2 w.heap.size (.slice (some ⟨b6, o6, none⟩) (p.n - (j + 1)) cu) (e.drop (j + 1))) (fun i _ => m1 - (intOf i).toNat)
              case atStart => exact ⟨0, Nat.zero_le _, rfl, by simpa using hI, hC, hIr⟩
              case round =>
                clear hI hC hIr hcell
                obtain ⟨l, hl, rfl, hI, hC, hIr⟩ := hrel
                by_cases hlm : l < m1
                · have hbel := below_chg1 hb0 hC hg0
                  obtain ⟨K1, K2, K3, K4, K5, K6⟩ := KEEP.out _ hbel
                  have K7 := below_cells hbel _ _ k4
                  have HN : Hid (TG p s j e2 (ltTo (e.drop (j + 1)) k ++ List.replicate (l + 1) k) = p.at s (TG p s j e2 (ltTo (e.drop (j + 1)) k ++ List.replicate l k)) (p.C j (j + 1 + k))) := by
                    show _ = _
                    rw [List.replicate_succ', ← List.append_assoc, TG_snoc]
                  go_wp2_with fail
                  refine (hvec B (p.C j (j + 1 + k)) _ _ g cap _ (hVI.mono (by omega)) (fun t ht => hVI.zero t (by omega)) (RdA.of (by rw [← HCe.out]; exact RC4) hbel hg0) (HVl.out l) hI hg0 hbel).mono ?_
                  rintro e' w6 ⟨rfl, hI6, hC6⟩
                  have hC7 := hC.then1 hC6
                  have hIr6 := hIr.chg hC6 (fun q hq => by have := hIr.lt q hq; omega)
                  clear K1 K2 K3 K4 K5 K6 K7 hbel hI hC hIr
                  go_wp2_with fail
                  go_roundw
                  case rel => exact ⟨l + 1, by omega, by go_num, by rw [HN.out]; exact hI6, hC7, hIr6⟩
                  case measure => simp [intOf]; omega
                · obtain rfl : l = m1 := by omega
                  go_wp2_with fail
                  go_roundw
                  case rel => exact ⟨k + 1, by omega, by go_num, by rw [HS.out]; exact hI, hC, hIr⟩
                  case measure => simp [intOf]; omega
            · obtain rfl : k = p.n - (j + 1) := by omega
              go_wp2_with fail
              refine bodyPost_ret (v := .tuple #[]) (by simp [results, Try.results195, go_sem]) rfl ?_
              refine ⟨rfl, ?_, hC⟩
              rw [← HLR.out, ltTo_all] at hI
              rw [← HFin.out]
              exact hI
--== both
theorem o_times {w0 : World} {vp : Value} {p : Pres} {s : Nat} (hp : PtrO w0 vp p) (hV : ValidP p) (hG : GT p s) (d : Nat) : GenC w0 vp p s d ∧ VecC w0 vp p s d := by
  induction d with
  | zero =>
    have h : GenC w0 vp p s 0 := fun B j e g cap w h1 h2 h3 => by omega
    exact ⟨h, vec_of_gen hV hG h⟩
  | succ d ih =>
    have h := gen_of_vecO hp hV hG ih.2
    exact ⟨h, vec_of_gen hV hG h⟩
theorem o_timesGenerator {w0 : World} {vp : Value} {p : Pres} {s : Nat} (hp : PtrO w0 vp p) (hV : ValidP p) (hG : GT p s) (B j : Nat) (e : List Int) (g cap : Nat) (w : World) (h1 : s ≤ j) (h2 : j < p.n) (he : VI p s e)
    (hI : Ints w B (.slice (some ⟨g, 0, none⟩) p.n cap) e) (hg : w0.heap.size ≤ g) (hb : Below w0.heap.size w0 w) : Calls Try.prog 195 #[vp, .slice (some ⟨g, 0, none⟩) p.n cap, .int .i64 j] w (RetG w B g cap p.n (p.at s e (p.uv j))) :=
  (o_times hp hV hG p.n).1 B j e g cap w h1 h2 (by omega) he hI hg hb
theorem o_timesVector {w0 : World} {vp : Value} {p : Pres} {s : Nat} (hp : PtrO w0 vp p) (hV : ValidP p) (hG : GT p s) (B : Nat) (f : List Int) (vf : Value) (e : List Int) (g cap : Nat) (w : World) (hf : VI p s f) (hr : RdA w g vf f) (he : VI p s e)
    (hI : Ints w B (.slice (some ⟨g, 0, none⟩) p.n cap) e) (hg : w0.heap.size ≤ g) (hb : Below w0.heap.size w0 w) : Calls Try.prog 188 #[vp, .slice (some ⟨g, 0, none⟩) p.n cap, vf] w (RetG w B g cap p.n (p.at s e f)) :=
  (o_times hp hV hG p.n).2 B f vf e g cap w hf (fun k hk => by omega) hr he hI hg hb
--== impl.timesVector, any vector
set_option maxHeartbeats 1000000 in
theorem o_tv {w0 : World} {vp : Value} {p : Pres} {s : Nat} (hp : PtrO w0 vp p) (hV : ValidP p) (hG : GT p s) (B : Nat) (f : List Int) (vf v : Value) (e : List Int) (w : World) (hf : VI p s f)
    (hr : ∀ w', ChgS (fun k => v.ownBlock = some k) w w' → Rd w' vf f) (he : VI p s e) (hI : Ints w B v e) (hB : w0.heap.size ≤ B) (hb : Below w0.heap.size w0 w) : Calls Try.prog 188 #[vp, v, vf] w (RetTV w B v (p.at s e f)) := by
  by_cases hn : p.n = 0
  · obtain rfl := he.empty hn
    have h1 := (hG.at he hf).empty hn
    rw [h1]
    obtain rfl := hf.empty hn
    obtain ⟨ao, capf, rfl, _, _⟩ := (hr w (ChgS.refl _ _)).form
    have HR := Lib.hid hr
    have HI := Lib.hid hI
    clear hr hI he hf h1 hn
    go_enter Try.func188, Try.ntmps188
    go_wp2_with fail
    go_loop [10] (fun i => i = .int .i64 0) (fun i => 0)
    case atStart => exact rfl
    case round =>
      subst hrel
      go_wp2_with fail
      refine bodyPost_ret (v := .tuple #[]) (by simp [results, Try.results188, go_sem]) rfl ?_
      exact ⟨rfl, HI.out, ChgS.refl _ _⟩
  · obtain ⟨g, cap, rfl, hg1, hg2, _⟩ := hI.open (by rw [he.len]; omega)
    have hl := he.len
    rw [hl] at hI hr ⊢
    exact (o_timesVector hp hV hG B f vf e g cap w hf (fun u hu => hr u hu.own) he hI (by omega) hb).mono fun _ _ ⟨h1, h2, h3⟩ => ⟨h1, h2, h3.own⟩
--== impl.timesGenerator, any vector
theorem o_tg {w0 : World} {vp : Value} {p : Pres} {s : Nat} (hp : PtrO w0 vp p) (hV : ValidP p) (hG : GT p s) (B j : Nat) (v : Value) (e : List Int) (w : World) (h1 : s ≤ j) (h2 : j < p.n) (he : VI p s e)
    (hI : Ints w B v e) (hB : w0.heap.size ≤ B) (hb : Below w0.heap.size w0 w) : Calls Try.prog 195 #[vp, v, .int .i64 j] w (RetTV w B v (p.at s e (p.uv j))) := by
  obtain ⟨g, cap, rfl, hg1, hg2, _⟩ := hI.open (by rw [he.len]; omega)
  have hl := he.len
  rw [hl] at hI ⊢
  exact (o_timesGenerator hp hV hG B j e g cap w h1 h2 he hI (by omega) hb).mono fun _ _ ⟨h1, h2, h3⟩ => ⟨h1, h2, h3.own⟩
--== impl.invert
set_option maxHeartbeats 2000000 in
theorem o_invert (vp va : Value) (p : Pres) (s : Nat) (a : List Int) (w : World) (hp : PtrO w vp p) (hV : ValidP p) (hG : GT p s) (ha : Rd w va a) (ka : VI p s a) :
    Calls Try.prog 187 #[vp, va] w (RetInts w (p.inv s a)) := by
  obtain ⟨i0, hi, hz0, hz1, hz2⟩ := info_parts Try.info2
  have hn6 := hV.n6
  have KA := Lib.hid ka
  obtain ⟨ao, cap, rfl, _, _⟩ := ha.formN ka.len
  clear ka
  go_enter Try.func187, Try.ntmps187
  go_wp2_with fail
  refine (f_Clone _ a _ ha (by rw [KA.out.len]; omega)).mono ?_
  rintro e w1 ⟨u, rfl, hI1, hB1⟩
  obtain ⟨au, cu, rfl, _, _⟩ := hI1.rd.formN KA.out.len
  have hlt1 := hI1.lt
  have hs1 := hB1.size
  go_wp2_with (at_make; refine wp_mkInts _ rfl _ _ rfl i0 Try.underlying22 hi hz0 hz1 hz2 _ _ _ _ p.n rfl rfl rfl rfl (by omega) ?_)
  intro w2 hJ hB hlt
  have hI2 := hI1.below hB
  have hB2 := below_size hB1 hB
  have hJ2 : Ints w2 w1.heap.size (.slice (some ⟨w1.heap.size, 0, none⟩) p.n p.n) p.zv := hJ
  have HLT := Lib.hid hlt1
  clear hI1 hB1 hJ hB hlt hlt1
  go_wp2_with fail
  go_loopw [15] (fun t wr => ∃ i : Nat, i ≤ p.n ∧ t = .int .i64 i ∧ (∃ u, VI p s u ∧ (∀ k, k < i → (p.at s a u).getD k 0 = 0) ∧ Ints wr w.heap.size (.slice au p.n cu) (p.at s a u) ∧ Ints wr w1.heap.size (.slice (some ⟨w1.heap.size, 0, none⟩) p.n p.n) u) ∧ Below w.heap.size w wr) (fun t _ => p.n - (intOf t).toNat)
  case atStart => exact ⟨0, Nat.zero_le _, rfl, ⟨p.zv, VI.zv hG.vd _, fun k hk => by omega, by rw [hG.G.oner KA.out]; exact hI2, hJ2⟩, hB2⟩
  case round =>
    clear hI2 hJ2 hB2
    obtain ⟨i, hik, rfl, ⟨u, hu, hz, hI, hJ⟩, hB⟩ := hrel
    by_cases hlt : i < p.n
    · have hr := hV.rk i hlt
      obtain ⟨b6, o6, rfl, hcell⟩ := Rd.at hI.rd (show i < (p.at s a u).length by rw [(hG.at KA.out hu).len]; exact hlt)
      have hb6 := HLT.out b6 rfl
      have HU : Hid (∃ u, VI p s u ∧ (∀ k, k < i → (p.at s a u).getD k 0 = 0) ∧ Ints wr w.heap.size (.slice (some ⟨b6, o6, none⟩) p.n cu) (p.at s a u) ∧ Ints wr w1.heap.size (.slice (some ⟨w1.heap.size, 0, none⟩) p.n p.n) u) := ⟨u, hu, hz, hI, hJ⟩
      clear hcell hI hJ hu hz u
      go_wp2_with fail
      go_loopw [22] (fun _ wr2 => (∃ u, VI p s u ∧ (∀ k, k < i → (p.at s a u).getD k 0 = 0) ∧ Ints wr2 w.heap.size (.slice (some ⟨b6, o6, none⟩) p.n cu) (p.at s a u) ∧ Ints wr2 w1.heap.size (.slice (some ⟨w1.heap.size, 0, none⟩) p.n p.n) u) ∧ Below w.heap.size w wr2) (fun _ wr2 => leftOf (p.r i) wr2 ⟨b6, o6 + i, none⟩)
      case atStart => exact ⟨HU.out, hB⟩
      case round =>
        clear HU hB
        obtain ⟨⟨u, hu, hz, hI, hJ⟩, hB⟩ := hrel
        have hau := hG.at KA.out hu
        have hcell := rd_cell hI.rd (j := i) (by rw [hau.len]; exact hlt)
        have h0 := hau.lo i hlt
        have h1 := hau.hi i hlt
        have hsz := hB.size
        obtain ⟨c, Hc⟩ := nam ((p.at s a u).getD i 0)
        rw [Hc.out] at hcell h0 h1
        by_cases hc : c = 0
        · subst hc
          have Hu := Lib.hid hu
          have Hz := Lib.hid hz
          clear hu hz hau
          go_wp2_with fail
          go_roundw
          case rel => exact ⟨i + 1, by omega, by go_num, ⟨u, Hu.out, fun k hk => by
            by_cases h : k = i
            · subst h; exact Hc.out
            · exact Hz.out k (by omega), hI, hJ⟩, hB⟩
          case measure => simp [intOf]; omega
        · have hsi : s ≤ i := by
            by_cases h : s ≤ i
            · exact h
            · have := hau.zero i (by omega); rw [Hc.out] at this; exact absurd this hc
          have D1 : (c == 0) = false := by simpa using hc
          have D2 : (c != 0) = true := by simpa using hc
          obtain ⟨s1, s2⟩ := hG.step hsi hlt hau hz
          rw [Hc.out] at s2
          have HM := Lib.hid (leftOf_eq (r := p.r i) hcell)
          have hass := hG.G.assoc KA.out hu (hG.uv hsi hlt)
          have hu' := hG.at hu (hG.uv hsi hlt)
          have Hu := Lib.hid hu
          have Hau := Lib.hid hau
          have S1 := Lib.hid s1
          have S2 := Lib.hid s2
          have HA := Lib.hid hass
          have Hu' := Lib.hid hu'
          have HC0 := Lib.hid hc
          clear hc hz hu hau s1 s2 hass hu'
          go_wp2_with fail
          refine (o_tg hp hV hG w.heap.size i _ _ _ hsi hlt Hau.out hI (Nat.le_refl _) hB).mono ?_
          rintro e w3 ⟨rfl, hI3, hC3⟩
          have hJ3 := hJ.chgS hC3 (fun g hg h => by have := hJ.lt g hg; simp only [Value.ownBlock] at h; cases h; omega)
          have hB3 := hB.trans (hC3.below (fun k hk => by simp only [Value.ownBlock] at hk; cases hk; omega) hsz)
          have hsz3 := hB3.size
          clear hI hJ hB hC3 hcell
          go_wp2_with fail
          refine (o_tg hp hV hG w1.heap.size i _ _ _ hsi hlt Hu.out hJ3 hs1 hB3).mono ?_
          rintro e w4 ⟨rfl, hJ4, hC4⟩
          have hI4 := hI3.chgS hC4 (fun g hg h => by have := HLT.out g hg; simp only [Value.ownBlock] at h; cases h; omega)
          have hB4 := hB3.trans (hC4.below (fun k hk => by simp only [Value.ownBlock] at hk; cases hk; omega) hsz3)
          rw [HA.out] at hI4
          have hcell4 := Lib.hid (rd_cell hI4.rd (j := i) (by rw [(hG.at KA.out Hu'.out).len]; exact hlt))
          clear hJ3 hI3 hB3 hC4
          go_wp2_with fail
          go_roundw
          case rel => exact ⟨⟨_, Hu'.out, by rw [← HA.out]; exact S1.out, hI4, hJ4⟩, hB4⟩
          case measure =>
            have e1 := leftOf_eq (r := p.r i) hcell4.out
            rw [HM.out, e1, ← HA.out, S2.out]
            have := HC0.out
            rw [if_neg this]
            by_cases hcr : c + 1 = p.r i
            · rw [if_pos hcr]; simp; omega
            · rw [if_neg hcr, if_neg (by omega)]; omega
    · obtain rfl : i = p.n := by omega
      have hau := hG.at KA.out hu
      have hin : u = p.inv s a := hG.inv_eq KA.out hu (VI.top ⟨hau.len, hau.lo, hau.hi, hz⟩)
      rw [hin] at hJ
      have HJ : Hid (Ints wr w.heap.size (.slice (some ⟨w1.heap.size, 0, none⟩) p.n p.n) (p.inv s a)) := hJ.mono hs1
      clear hI hJ hu hz hau hin
      go_wp2_with fail
      go_ret
      exact ⟨_, rfl, HJ.out, hB⟩
--== impl.evaluate
set_option maxHeartbeats 4000000 in
theorem o_evaluate {p : Pres} (hV : ValidP p) (hG : GT p 0) (vp vw vl : Value) (ws : List Int) (L : List (List Int)) (w : World) (hp : PtrO w vp p) (hw : Rd w vw ws) (hl : Rd2 w vl L) (hb : wordB (L.length : Int) ws = true) (hL : ∀ j, j < L.length → VI p 0 (L.getD j [])) (hn : L.length ≤ 6) :
    Calls Try.prog 179 #[vp, vw, vl] w (RetInts w (evTo p L ws ws.length)) := by
  obtain ⟨i0, hi, hz0, hz1, hz2⟩ := info_parts Try.info2
  have hn6 := hV.n6
  have HPT := Lib.hid hp
  have HG := Lib.hid hG
  have h64 := wordB_len hb
  have HB := Lib.hid hb
  have HL := Lib.hid hL
  have HRL := Lib.hid hl
  have HRW := Lib.hid hw
  obtain ⟨pb, po, v1, v2, v3, rfl, c1, c2, c3, R1, R2, R3⟩ := hp
  obtain ⟨p1, q1, rfl, _, _⟩ := R1.formN (n := p.n) rfl
  obtain ⟨aw, cw, rfl, _, _⟩ := hw.form
  obtain ⟨al, cl, rfl, _, _⟩ := hl.form
  clear R1 R2 R3 c2 c3 hw hl hb hL hG
  go_enter Try.func179, Try.ntmps179
  go_wp2_with (at_make; refine wp_mkInts _ rfl _ _ rfl i0 Try.underlying22 hi hz0 hz1 hz2 _ _ _ _ p.n rfl rfl rfl rfl (by omega) ?_)
  intro w1 hI hB hlt0
  have hI1 : Ints w1 w.heap.size (.slice (some ⟨w.heap.size, 0, none⟩) p.n p.n) (evTo p L ws 0) := hI
  clear hI c1 hlt0
  go_wp2_with fail
  go_loopw [19] (fun t wr => ∃ k : Nat, k ≤ ws.length ∧ t = .int .i64 k ∧ Ints wr w.heap.size (.slice (some ⟨w.heap.size, 0, none⟩) p.n p.n) (evTo p L ws k) ∧ Below w.heap.size w wr ∧ w.heap.size < wr.heap.size) (fun t _ => ws.length - (intOf t).toNat)
  case atStart => exact ⟨0, Nat.zero_le _, rfl, hI1, hB, (hI1.lt _ rfl).2⟩
  case round =>
    clear hI1 hB
    obtain ⟨k, hk, rfl, hI, hB, hsz⟩ := hrel
    by_cases hlt : k < ws.length
    · obtain ⟨q, hq⟩ := wordB_let HB.out hlt
      have VE := evTo_VI HG.out HL.out HB.out k hk
      have VX := evX_VI HG.out HL.out hq
      have HS := Lib.hid (evTo_succ (p := p) (L := L) hlt)
      obtain ⟨bw, ow, rfl, hcw0⟩ := HRW.out.at hlt
      obtain ⟨bl, ol, r, rfl, hcl0, hr⟩ := HRL.out.at hq.lt
      have VQ := HL.out q hq.lt
      obtain ⟨ar, cr, rfl, _, _⟩ := hr.formN VQ.len
      have hqL : q < L.length := hq.lt
      have hqn : (q : Int) < (L.length : Int) := by omega
      obtain ⟨l, Hl⟩ := nam (ws.getD k 0)
      have hll := hq.eq
      rw [Hl.out] at hll hcw0 HS VX
      have hcw := below_cells hB _ _ hcw0
      have hcl := below_cells hB _ _ hcl0
      have HRr := Lib.hid hr
      have habs : absJ l = (q : Int) + 1 := by unfold absJ; rcases hll with e | e <;> rw [e] <;> split <;> omega
      have HAb := Lib.hid habs
      clear hq hcw0 hcl0 hr habs
      by_cases hpos : 0 < l
      · have hlq : l = (q : Int) + 1 := by omega
        have HX : Hid (evX p L l = L.getD q []) := by show _ = _; rw [hlq, evX_pos]
        have hl2 : l ≤ 10 := by omega
        have hln : ¬ l < 0 := by omega
        clear hlq hll
        go_wp2_with fail
        refine (i_absJ l _ (by omega)).mono ?_
        rintro e w' ⟨rfl, rfl⟩
        rw [HAb.out]
        go_wp2_with fail
        refine (o_tv HPT.out hV HG.out w.heap.size (evX p L l) _ _ _ _ VX (fun w' hc => by rw [HX.out]; exact HRr.out.below (tv_new hI hB hc)) VE hI (Nat.le_refl _) hB).mono ?_
        rintro e w2 ⟨rfl, hI2, hC⟩
        have hB2 := tv_new hI hB hC
        have hs2 : w.heap.size < w2.heap.size := (hI2.lt _ rfl).2
        clear hI hC hB hcw hcl
        go_wp2_with fail
        go_roundw
        case rel => exact ⟨k + 1, by omega, by go_num, by rw [HS.out]; exact hI2, hB2, hs2⟩
        case measure => simp [intOf]; omega
      · have hlq : l = -((q : Int) + 1) := by omega
        have HX : Hid (evX p L l = p.inv 0 (L.getD q [])) := by show _ = _; rw [hlq, evX_neg]
        have hl2 : -10 ≤ l := by omega
        have hln : l < 0 := by omega
        clear hlq hll
        go_wp2_with fail
        refine (i_absJ l _ (by omega)).mono ?_
        rintro e w' ⟨rfl, rfl⟩
        rw [HAb.out]
        go_wp2_with fail
        refine (o_invert _ _ p 0 (L.getD q []) _ (HPT.out.below hB) hV HG.out (HRr.out.below hB) VQ).mono ?_
        rintro e w5 ⟨u5, rfl, hI5, hB5⟩
        have hB6 := below_size hB hB5
        have hI6 := hI.below hB5
        have hlt5 := hI5.lt
        rw [← HX.out] at hI5
        clear hI hB hcw hcl hB5
        go_wp2_with fail
        refine (o_tv HPT.out hV HG.out w.heap.size (evX p L l) _ _ _ _ VX (fun w' hc => (hI5.chgS hc (fun g hg h => by have := hlt5 g hg; simp only [Value.ownBlock] at h; cases h; omega)).rd) VE hI6 (Nat.le_refl _) hB6).mono ?_
        rintro e w2 ⟨rfl, hI2, hC⟩
        have hB2 := tv_new hI6 hB6 hC
        have hs2 : w.heap.size < w2.heap.size := (hI2.lt _ rfl).2
        clear hI6 hC hB6 hI5 hlt5
        go_wp2_with fail
        go_roundw
        case rel => exact ⟨k + 1, by omega, by go_num, by rw [HS.out]; exact hI2, hB2, hs2⟩
        case measure => simp [intOf]; omega
    · obtain rfl : k = ws.length := by omega
      go_wp2_with fail
      go_ret
      exact ⟨_, rfl, hI, hB⟩
end Go.Proofs.Ythnpndheaailjaa
