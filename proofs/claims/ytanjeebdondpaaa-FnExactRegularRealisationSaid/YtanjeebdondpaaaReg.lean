/-
  The regular realisation: both sides.
-/
import Derived.Test.YtanjeebdondpaaaGex
import Derived.Test.YtanjeebdondpaaaNum
import Derived.Test.YtanjeebdondpaaaLst
namespace Go.Proofs.Ytanjeebdondpaaa
set_option linter.unusedVariables false
set_option linter.unusedSimpArgs false
set_option maxRecDepth 100000
open Go.RowKit

def regE (p : Pres) (j k : Nat) : Int := numTo p (p.at 0 (atF p (k : Int)) (p.uv j)) p.n
def regR (p : Pres) (j m : Nat) : List Int := (List.range m).map fun (k : Nat) => regE p j k
theorem regR_succ (p : Pres) (j m : Nat) : regR p j (m + 1) = regR p j m ++ [regE p j m] := by unfold regR; rw [List.range_succ, List.map_append]; rfl
theorem regR_len (p : Pres) (j m : Nat) : (regR p j m).length = m := by simp [regR]
def regL (p : Pres) (N m : Nat) : List (List Int) := (List.range m).map fun (j : Nat) => regR p j N
theorem regL_succ (p : Pres) (N m : Nat) : regL p N (m + 1) = regL p N m ++ [regR p m N] := by unfold regL; rw [List.range_succ, List.map_append]; rfl
theorem regL_len (p : Pres) (N m : Nat) : (regL p N m).length = m := by simp [regL]
def regX (p : Pres) : List (List Int) := if gexC p = 0 then regL p (gord p) p.n else []
theorem regX_0 {p : Pres} (h : gexC p = 0) : regX p = regL p (gord p) p.n := if_pos h
theorem regX_1 {p : Pres} (h : gexC p = 1) : regX p = [] := by unfold regX; rw [h]; rfl
theorem regX_3 {p : Pres} (h : gexC p = 3) : regX p = [] := by unfold regX; rw [h]; rfl
theorem set_keep {L : List (List Int)} {m k : Nat} (h : k ≠ m) (d : List Int) : (L.set m d).getD k [] = L.getD k [] := by
  simp [List.getD, List.getElem?_set, Ne.symm h]
--== impl.RegularRealisation
set_option maxHeartbeats 4000000 in
theorem i_RegularRealisation (v1 v2 v3 : Value) (p : Pres) (w : World) (hp : RdP w v1 v2 v3 p) :
    Calls Try.prog 48 #[.agg #[v1, v2, v3]] w (RetL2c w (regX p) (gexC p)) := by
  obtain ⟨i0, hi, hz0, hz1, hz2⟩ := info_parts Try.info2
  have HP := Lib.hid hp
  obtain ⟨ao1, cap1, rfl, _, _⟩ := hp.1.form
  obtain ⟨ao2, cap2, rfl, _, _⟩ := hp.2.1.form
  obtain ⟨ao3, cap3, rfl, _, _⟩ := hp.2.2.form
  have g0 := below_alloc w (Obj.cells #[Value.slice ao1 p.orders.length cap1, Value.slice ao2 p.powers.length cap2, Value.slice ao3 p.conj.length cap3] 28)
  have PT := Lib.hid (PtrP.boxed hp)
  have X0 := Lib.hid (Bx.new w (Value.slice ao1 p.orders.length cap1) (Value.slice ao2 p.powers.length cap2) (Value.slice ao3 p.conj.length cap3))
  clear hp
  by_cases hc : conB p = true
  case neg =>
    have hc' : conB p = false := by simpa using hc
    rw [regX_1 (gex_1 hc').1, (gex_1 hc').1]
    clear hc hi
    go_enter Try.func48, Try.ntmps48
    go_wp2_with fail
    refine (i_IsConsistent _ _ _ p _ (HP.out.below g0)).mono ?_
    rintro e w2 ⟨rfl, hb⟩
    have g2 := below_size g0 hb
    have PT2 := PT.out.below hb
    have z1 : w.heap.size < w2.heap.size := by have := hb.size; simp at this; omega
    rw [hc']
    clear hb hc'
    go_wp2_with fail
    go_ret2
    exact ⟨_, rfl, local_O2.nil _ _, g2⟩
  obtain ⟨hV, hG⟩ := conB_true hc
  have HV := Lib.hid hV
  have HG := Lib.hid hG
  obtain ⟨hq, hq7⟩ := gord_eq hV
  have HQ := Lib.hid hq
  obtain ⟨N, HN⟩ : ∃ N, Hid (gord p = N) := ⟨_, rfl⟩
  rw [HN.out] at hq7
  by_cases h128 : 128 < N
  case pos =>
    have HK := Lib.hid (gex_3 hc (by rw [HN.out]; exact h128))
    clear hV hG hq hi
    rw [regX_3 HK.out.1, HK.out.1]
    go_enter Try.func48, Try.ntmps48
    go_wp2_with fail
    refine (i_IsConsistent _ _ _ p _ (HP.out.below g0)).mono ?_
    rintro e w2 ⟨rfl, hb⟩
    have g2 := below_size g0 hb
    have PT2 := PT.out.below hb
    have z1 : w.heap.size < w2.heap.size := by have := hb.size; simp at this; omega
    rw [hc]
    clear hb hc
    go_wp2_with fail
    refine (i_orderOf _ p _ PT2 HV.out.ord).mono ?_
    rintro e w' ⟨rfl, rfl⟩
    rw [HQ.out, HN.out]
    clear PT2
    go_wp2_with fail
    go_ret2
    exact ⟨_, rfl, local_O2.nil _ _, g2⟩
  have HK := Lib.hid (gex_0 hc (by rw [HN.out]; exact h128))
  rw [regX_0 HK.out.1, HK.out.1, HN.out]
  have hn6 := hV.n6
  clear hV hG hq
  go_enter Try.func48, Try.ntmps48
  go_wp2_with fail
  refine (i_IsConsistent _ _ _ p _ (HP.out.below g0)).mono ?_
  rintro e w2 ⟨rfl, hb⟩
  have g2 := below_size g0 hb
  have PT2 := PT.out.below hb
  have x2 := X0.out.below hb (by simp)
  have m0 := x2.c0
  have z1 : w.heap.size < w2.heap.size := by have := hb.size; simp at this; omega
  rw [hc]
  clear hb hc x2
  go_wp2_with fail
  refine (i_orderOf _ p _ PT2 HV.out.ord).mono ?_
  rintro e w' ⟨rfl, rfl⟩
  rw [HQ.out, HN.out]
  have HPT := Lib.hid PT2
  clear PT2
  go_wp2_with fail
  clear m0
  have hB0 := Below.refl w2.heap.size w2
  go_loopw [4, 17] (fun u t wr => ∃ i : Nat, i ≤ p.orders.length ∧ t = .int .i64 i ∧ O2 wr (win w2.heap.size wr.heap.size) u (regL p N i) ∧ Below w2.heap.size w2 wr) (fun _ t _ => p.orders.length - (intOf t).toNat)
  case atStart => exact ⟨0, Nat.zero_le _, rfl, local_O2.nil _ _, hB0⟩
  case round =>
    clear hB0
    obtain ⟨i, hii, rfl, hO, hB⟩ := hrel
    obtain ⟨a6, c6, rfl, _, _⟩ := hO.formN (regL_len p N i)
    by_cases hlt : i < p.orders.length
    · have hltn : i < p.n := hlt
      have hD : decide ((i : Int) < (p.orders.length : Int)) = true := decide_eq_true (by omega)
      have VU := Lib.hid (VI.uv HV.out.valid (Nat.zero_le _) hltn)
      obtain ⟨wo, hwo⟩ : ∃ x, x = wr := ⟨_, rfl⟩
      subst hwo
      have HO := Lib.hid hO
      have HB := Lib.hid hB
      clear hO hB
      go_wp2_with fail
      refine (i_allElements HV.out _ _ (HPT.out.below HB.out)).mono ?_
      rintro e w3 ⟨u3, rfl, hO3, hB3⟩
      obtain ⟨a3, q3, rfl, _, _⟩ := hO3.formN (allE_len p (gord p))
      rw [HN.out] at hO3 ⊢
      have hz3 := hB3.size
      go_wp2_with fail
      go_loopw [6, 22] (fun ur t wx => ∃ (m : Nat) (L : List (List Int)), m ≤ N ∧ t = .int .i64 m ∧ L.length = N ∧ (∀ k, m ≤ k → k < N → L.getD k [] = atF p (k : Int)) ∧ O2 wx (win wo.heap.size w3.heap.size) (.slice a3 N q3) L ∧ Ints wx w3.heap.size ur (regR p i m) ∧ Below wo.heap.size wo wx ∧ w3.heap.size ≤ wx.heap.size) (fun _ t _ => N - (intOf t).toNat)
      case atStart => exact ⟨0, allE p N, Nat.zero_le _, rfl, allE_len p N, fun k _ hk => allE_get p hk, hO3, Ints.nil _ _, hB3, Nat.le_refl _⟩
      case round =>
        clear hO3 hB3
        obtain ⟨m, L, hm, rfl, hLN, hget, hOL, hR, hBx, hs⟩ := hrel
        obtain ⟨au, cu, rfl, _, _⟩ := hR.rd.formN (regR_len p i m)
        by_cases hlt2 : m < N
        · obtain ⟨gg, cap, r, T, he, hcell, hO1, hT, hback⟩ := ON.focus local_O1 hOL m (by rw [hLN]; exact hlt2)
          rw [hLN] at he
          simp only [Value.slice.injEq, true_and] at he
          obtain ⟨rfl, rfl⟩ := he
          rw [hget m (Nat.le_refl _) hlt2] at hO1
          have hI : Ints wr wo.heap.size r (atF p (m : Int)) := hO1.ints fun k hk => (hT k hk).1
          have VZ := atF_VI HV.out.valid (m : Int)
          obtain ⟨az, cz, rfl, _, _⟩ := hI.rd.formN VZ.len
          have VM := HG.out.at VZ VU.out
          have HR := Lib.hid hR
          have HI := Lib.hid hI
          have HT := Lib.hid hT
          have HO1 := Lib.hid hO1
          have HBK := Lib.hid hback
          have HBX := Lib.hid hBx
          have HGT := Lib.hid hget
          clear hR hI hT hO1 hback hBx hget hOL
          go_wp2_with fail
          refine (i_tg (HPT.out.below HB.out) HV.out HG.out wo.heap.size i _ _ _ (Nat.zero_le _) hltn VZ HI.out (Nat.le_refl _) HBX.out).mono ?_
          rintro e w5 ⟨rfl, hI5, hC5⟩
          have hC6 : ChgS T wr w5 := ⟨hC5.os, hC5.tape, hC5.output, hC5.size, fun k hk hn => hC5.block k hk fun e => hn (HO1.out.2 k e)⟩
          have hOL5 := HBK.out w5 _ hC6 ⟨hI5.mono (Nat.zero_le _), HO1.out.2⟩
          have hR5 := HR.out.chgS hC6 (fun g hg hTg => by have h1 := (HT.out g hTg).2; have h2 := (HR.out.lt g hg).1; omega)
          have hB5 : Below wo.heap.size wo w5 := HBX.out.trans (hC6.below (fun k hk => (HT.out k hk).1) HBX.out.size)
          have hs5 : w3.heap.size ≤ w5.heap.size := Nat.le_trans hs hC5.size
          have HOL5 := Lib.hid hOL5
          have HI5 := Lib.hid hI5
          have HB5 := Lib.hid hB5
          clear hC5 hC6 hOL5 hI5 hB5 hcell
          go_wp2_with fail
          refine (i_numberOf HV.out _ _ _ _ ((HPT.out.below HB.out).below HB5.out) HI5.out.rd VM).mono ?_
          rintro e w' ⟨rfl, rfl⟩
          obtain ⟨q, Hq⟩ := nam (numTo p (p.at 0 (atF p (m : Int)) (p.uv i)) p.n)
          rw [Hq.out]
          have HS : Hid (regR p i (m + 1) = regR p i m ++ [q]) := by show _ = _; rw [regR_succ, ← Hq.out]; rfl
          go_wp2_with (at_builtin; refine wp_app1 _ rfl _ _ rfl w3.heap.size i0 Try.underlying22 hi hz0 hz1 hz2 _ _ rfl hR5 q rfl (by rw [regR_len]; omega) hs5 ?_)
          intro v' w6 hI6 hG6 hB6
          have hOL6 := local_O2.loc HOL5.out (fun k hk _ => hB6.block k hk.2)
          have hB7 := HB5.out.trans (hB6.mono hz3)
          have hs6 := Nat.le_trans hs5 hB6.size
          clear hR5 hG6 hB6
          go_wp2_with fail
          go_roundw
          case rel => exact ⟨m + 1, _, by omega, by go_num, by rw [List.length_set]; exact hLN, fun k h1 h2 => by rw [set_keep (by omega)]; exact HGT.out k (by omega) h2, hOL6, by rw [HS.out]; exact hI6, hB7, hs6⟩
          case measure => simp [intOf]; omega
        · obtain rfl : m = N := by omega
          have HS := Lib.hid (regL_succ p m i)
          have HL := Lib.hid (regL_len p m i)
          have HRL := Lib.hid (regR_len p i m)
          clear hOL hget
          generalize regR p i m = R at *
          generalize regL p m i = RL at *
          obtain ⟨v6, w6, hr6, hO6, hB6⟩ := step_rows HO.out HB.out.size (hR.mono hz3) rfl hBx (by rw [HL.out]; omega)
          have hB7 := (HB.out.trans (hBx.mono HB.out.size)).trans hB6
          clear hR hBx hB6 HO HB
          go_wp2_with (at_builtin; refine wp_of_run _ rfl _ _ _ rfl _ _ rfl rfl _ _ hr6 ?_)
          go_roundw
          case rel => exact ⟨i + 1, by omega, by go_num, by rw [HS.out]; exact hO6, hB7⟩
          case measure => simp [intOf]; omega
    · obtain rfl : i = p.orders.length := by omega
      have g3 := below_size g2 hB
      have hO5 := O2.grow hO g2.size
      clear hO hB
      go_wp2_with fail
      go_ret2
      exact ⟨_, rfl, hO5, g3⟩
--== spec.l11Regular
theorem run_appJ (w : World) (ty : TypeId) (B : Nat) (v : Value) (xs : List Int) (hown : Ints w B v xs) (vx : Value) (ys : List Int) (hrd : Rd w vx ys) (hn : xs.length ≤ 1000000000) (hm : ys.length ≤ 1000000000) (hB : B ≤ w.heap.size) :
    ∃ v' w', (Builtin.append_ #[22, 22] ty #[v, vx]).run Try.prog w = .ok v' w' ∧ Ints w' B v' (xs ++ ys) ∧ Below B w w' := by
  obtain ⟨i0, hi, hz0, hz1, hz2⟩ := info_parts Try.info2
  obtain ⟨v', w', hr, h1, h2, h3⟩ := run_app w B 22 ty 2 i0 (.int .i64 0) 8 Try.underlying22 hi hz0 hz1 hz2 rfl v xs.length (xs.map (Value.int .i64)) hown vx (ys.map (Value.int .i64)) hrd.cells (ints_oneCell _ _) (by simp [maxLen]; omega) (by simp; omega) hB
  have hg : Grew w w' v v' := ⟨h2, h3⟩
  refine ⟨v', w', hr, ?_, hg.below hB fun g hg => (hown.lt g hg).1⟩
  unfold Ints
  rw [List.length_append, List.map_append]
  simpa using h1
theorem Rd.litJ (w : World) (x : Int) : Rd (w.alloc (.cells #[.int .i64 x] 2)) (.slice (some ⟨w.heap.size, 0, none⟩) 1 1) [x] :=
  ⟨_, 1, rfl, by simp, by simp, fun h => by (cases h), .inr ⟨_, _, rfl, fun j hj => by
    obtain rfl : j = 0 := by simpa using hj
    simp⟩⟩
set_option maxHeartbeats 4000000 in
theorem s_l11Regular {p : Pres} (hV : ValidP p) (hG : GT p 0) (v1 v2 v3 : Value) (w : World) (hp : RdP w v1 v2 v3 p) :
    Calls Try.prog 94 #[.agg #[v1, v2, v3]] w (RetL2 w (regL p (gord p) p.n)) := by
  have hn6 := hV.n6
  have HP := Lib.hid hp
  have HG := Lib.hid hG
  have HV := Lib.hid hV
  obtain ⟨hq, hq7⟩ := gord_eq hV
  have HQ := Lib.hid hq
  obtain ⟨N, HN⟩ : ∃ N, Hid (gord p = N) := ⟨_, rfl⟩
  rw [HN.out] at hq7 ⊢
  obtain ⟨p1, q1, rfl, _, _⟩ := hp.1.formN (n := p.n) rfl
  obtain ⟨p2, q2, rfl, _, _⟩ := hp.2.1.formN hV.pl
  obtain ⟨p3, q3, rfl, _, _⟩ := hp.2.2.formN hV.cl
  have g0 := below_alloc w (Obj.cells #[Value.slice p1 p.n q1, Value.slice p2 p.n q2, Value.slice p3 p.n q3] 28)
  have x0 := Bx.new w (Value.slice p1 p.n q1) (Value.slice p2 p.n q2) (Value.slice p3 p.n q3)
  clear hp hq hV hG
  go_enter Try.func94, Try.ntmps94
  go_wp2_with fail
  have hsz : (w.alloc (Obj.cells #[Value.slice p1 p.n q1, Value.slice p2 p.n q2, Value.slice p3 p.n q3] 28)).heap.size = w.heap.size + 1 := by simp
  generalize w.alloc (Obj.cells #[Value.slice p1 p.n q1, Value.slice p2 p.n q2, Value.slice p3 p.n q3] 28) = w1 at *
  have G0 := Lib.hid g0
  have m0 := Lib.hid x0.c0
  have m1 := Lib.hid x0.c1
  have m2 := Lib.hid x0.c2
  have lx := x0.lt
  have hO0 : O2 (w1.alloc (Obj.cells #[] 22)) (win w1.heap.size (w1.alloc (Obj.cells #[] 22)).heap.size) (.slice (some ⟨w.heap.size + 1, 0, none⟩) 0 0) (regL p N 0) := by
    rw [← hsz]
    exact local_O2.mono (ON.empty w1) (fun k hk h => ⟨Nat.le_of_eq (Eq.symm h), hk⟩)
  have hB0 := below_alloc w1 (Obj.cells #[] 22)
  clear x0 g0
  go_loopw [3, 4] (fun u t wr => ∃ i : Nat, i ≤ p.n ∧ t = .int .i64 i ∧ O2 wr (win w1.heap.size wr.heap.size) u (regL p N i) ∧ Below w1.heap.size w1 wr) (fun _ t _ => p.n - (intOf t).toNat)
  case atStart => exact ⟨0, Nat.zero_le _, rfl, hO0, hB0⟩
  case round =>
    clear hO0 hB0
    obtain ⟨i, hii, rfl, hO, hB⟩ := hrel
    obtain ⟨a6, c6, rfl, _, _⟩ := hO.formN (regL_len p N i)
    obtain ⟨wo, hwo⟩ : ∃ x, x = wr := ⟨_, rfl⟩
    subst hwo
    have n0 := below_cells hB _ _ m0.out
    by_cases hlt : i < p.n
    · have hD : decide ((i : Int) < (p.n : Int)) = true := decide_eq_true (by omega)
      have VU := Lib.hid (VI.uv HV.out.valid (Nat.zero_le _) hlt)
      have HO := Lib.hid hO
      have HB := Lib.hid hB
      clear hO hB
      go_wp2_with fail
      refine (s_l07Unit p.n i _ hlt (by omega)).mono ?_
      rintro e w2 ⟨u3, rfl, hI2, hB2⟩
      obtain ⟨a3, q3', rfl, _, _⟩ := hI2.rd.formN VU.out.len
      have hz2 := hB2.size
      have HU := Lib.hid hI2.rd
      have HB2 := Lib.hid hB2
      have hE := Ints.empty w2
      have hBE := below_alloc w2 (Obj.cells #[] 2)
      clear hI2 hB2 n0
      go_wp2_with fail
      go_loopw [6, 7] (fun ur t wx => ∃ m : Nat, m ≤ N ∧ t = .int .i64 m ∧ Ints wx w2.heap.size ur (regR p i m) ∧ Below w2.heap.size w2 wx) (fun _ t _ => N - (intOf t).toNat)
      case atStart => exact ⟨0, Nat.zero_le _, rfl, hE, hBE⟩
      case round =>
        clear hE hBE
        obtain ⟨m, hm, rfl, hR, hBx⟩ := hrel
        obtain ⟨au, cu, rfl, _, _⟩ := hR.rd.formN (regR_len p i m)
        have hB1 := below_size (below_size HB.out HB2.out) hBx
        have n0 := below_cells hB1 _ _ m0.out
        have n1 := below_cells hB1 _ _ m1.out
        have n2 := below_cells hB1 _ _ m2.out
        have HR := Lib.hid hR
        have HBX := Lib.hid hBx
        have HB1 := Lib.hid hB1
        clear hR hBx hB1
        go_wp2_with fail
        refine (s_l10Order HV.out _ _ _ _ (HP.out.below (below_size G0.out HB1.out))).mono ?_
        rintro e w4 ⟨rfl, hb4⟩
        have HB4 := Lib.hid (below_size HBX.out hb4)
        have HR4 := Lib.hid (HR.out.below hb4)
        rw [HQ.out, HN.out]
        clear hb4 n0 n1 n2 HR HBX HB1
        by_cases hlt2 : m < N
        · have HK2 : Hid (∀ wx, Below w2.heap.size w2 wx → Below w1.heap.size w1 wx) := fun wx hb => below_size (below_size HB.out HB2.out) hb
          have KEEP : Hid (∀ wx, Below w2.heap.size w2 wx → Below w2.heap.size w2 wx ∧ wx.cell? ⟨w.heap.size, 0, none⟩ = some (Value.slice p1 p.n q1) ∧ wx.cell? ⟨w.heap.size, 1, none⟩ = some (Value.slice p2 p.n q2) ∧ wx.cell? ⟨w.heap.size, 2, none⟩ = some (Value.slice p3 p.n q3)) := fun wx hb =>
            ⟨hb, below_cells (HK2.out wx hb) _ _ m0.out, below_cells (HK2.out wx hb) _ _ m1.out, below_cells (HK2.out wx hb) _ _ m2.out⟩
          have VZ := atF_VI HV.out.valid (m : Int)
          have VM := HG.out.at VZ VU.out
          have hj6 : (0 : Int) ≤ (m : Int) ∧ (m : Int) ≤ 1000000 := by omega
          obtain ⟨q, Hq⟩ := nam (numTo p (p.at 0 (atF p (m : Int)) (p.uv i)) p.n)
          have HS : Hid (regR p i (m + 1) = regR p i m ++ [q]) := by show _ = _; rw [regR_succ, ← Hq.out]; rfl
          have HAT : Hid (∀ wx, Below w2.heap.size w2 wx → Calls Try.prog 76 #[.agg #[Value.slice p1 p.n q1, Value.slice p2 p.n q2, Value.slice p3 p.n q3], .int .i64 (m : Int)] wx (RetInts wx (atF p (m : Int)))) := fun wx hb =>
            s_l10At HV.out (m : Int) _ _ _ wx (HP.out.below (below_size G0.out (HK2.out wx hb))) hj6
          have HMU : Hid (∀ wx u, Below w2.heap.size w2 wx → Rd wx u (atF p (m : Int)) → Calls Try.prog 111 #[.agg #[Value.slice p1 p.n q1, Value.slice p2 p.n q2, Value.slice p3 p.n q3], u, .slice a3 p.n q3'] wx (RetInts wx (p.at 0 (atF p (m : Int)) (p.uv i)))) := fun wx u hb hu =>
            s_l08Mul HV.out _ _ _ _ _ _ _ wx (HP.out.below (below_size G0.out (HK2.out wx hb))) hu (HU.out.below hb) VZ VU.out
          have HNU : Hid (∀ wx u, Below w2.heap.size w2 wx → Rd wx u (p.at 0 (atF p (m : Int)) (p.uv i)) → Calls Try.prog 123 #[.agg #[Value.slice p1 p.n q1, Value.slice p2 p.n q2, Value.slice p3 p.n q3], u] wx (RetV wx (.int .i64 q))) := fun wx u hb hu => by
            have := s_l10Number HV.out _ _ _ _ _ wx (HP.out.below (below_size G0.out (HK2.out wx hb))) hu VM
            rwa [Hq.out] at this
          have HRL := Lib.hid (regR_len p i m)
          clear VZ VM Hq
          go_wp2_with fail
          go_region_held3 (fun wx => Below w2.heap.size w2 wx ∧ wx.cell? ⟨w.heap.size, 0, none⟩ = some (Value.slice p1 p.n q1) ∧ wx.cell? ⟨w.heap.size, 1, none⟩ = some (Value.slice p2 p.n q2) ∧ wx.cell? ⟨w.heap.size, 2, none⟩ = some (Value.slice p3 p.n q3))
            (first
              | exact KEEP.out _ HB4.out.drew
              | exact KEEP.out _ hK8
              | exact KEEP.out _ (below_size (And.left (by assumption)) (by assumption))
              | exact KEEP.out _ (ball7.out _ (And.left (by assumption)))
              | exact KEEP.out _ (ball (And.left (by assumption)) _))
            (first
              | ((go_at_call 76); (with_reducible refine (HAT.out _ (And.left (by assumption))).mono ?_); (rintro e w5 ⟨u5, rfl, hI5, hB5⟩); (have hK5 : Below w4.heap.size w4 w5 := below_size (Below.refl _ _).drew hB5))
              | ((go_at_call 111); (with_reducible refine (HMU.out _ _ (And.left (by assumption)) hI5.rd).mono ?_); (rintro e w6 ⟨u6, rfl, hI6, hB6⟩))
              | ((go_at_call 123); (with_reducible refine (HNU.out _ _ (And.left (by assumption)) hI6.rd).mono ?_); (rintro e w7 ⟨rfl, hB7⟩); (have hK7 : Below w4.heap.size w4 w7 := below_size (below_size hK5 hB6) hB7))
              | (obtain ⟨v8, w8, hr8, hI8, hB8⟩ := run_appJ (w7.alloc (.cells #[.int .i64 q] 2)) 22 w2.heap.size _ _ ((HR4.out.below hK7).below (below_alloc w7 _)) _ _ (Rd.litJ w7 q) (by rw [HRL.out]; omega) (by simp) (by have h1 := HB4.out.size; have h2 := hK7.size; simp; omega)
                 have hK8 : Below w2.heap.size w2 w8 := (ball (below_size HB4.out hK7) _).trans hB8
                 refine step_of_run rfl (.tmp 28) (.tmp 37) 22 rfl _ _ (by simp [Act.eval, Act.put]) (by simp [Act.eval, Act.put]) _ _ hr8 ?_))
          clear hI5 hI6 hB5 hB6 hB7 hB8 hK5 hK7 hr8 KEEP HAT HMU HNU
          go_wp2_with fail
          go_roundw
          case rel => exact ⟨m + 1, by omega, by go_num, by rw [HS.out]; exact hI8, hK8⟩
          case measure => simp [intOf]; omega
        · obtain rfl : m = N := by omega
          have HS := Lib.hid (regL_succ p m i)
          have HL := Lib.hid (regL_len p m i)
          generalize regR p i m = R at *
          generalize regL p m i = RL at *
          obtain ⟨v6, w6, hr6, hO6, hB6⟩ := step_rows HO.out HB.out.size (HR4.out.mono hz2) rfl (below_size HB2.out HB4.out) (by rw [HL.out]; omega)
          have hB7 := (HB.out.trans ((below_size HB2.out HB4.out).mono HB.out.size)).trans hB6
          clear hB6 HO HB HR4 HB4
          go_wp2_with (at_builtin; refine wp_of_run _ rfl _ _ _ rfl _ _ rfl rfl _ _ hr6 ?_)
          go_roundw
          case rel => exact ⟨i + 1, by omega, by go_num, by rw [HS.out]; exact hO6, hB7⟩
          case measure => simp [intOf]; omega
    · obtain rfl : i = p.n := by omega
      have hO5 := O2.grow hO (show w.heap.size ≤ w1.heap.size by omega)
      have g5 := below_size G0.out hB
      clear hO hB
      go_wp2_with fail
      go_ret
      exact ⟨_, rfl, hO5, g5⟩
--== spec.RegularRealisation
set_option maxHeartbeats 4000000 in
theorem s_RegularRealisation (v1 v2 v3 : Value) (p : Pres) (w : World) (hp : RdP w v1 v2 v3 p) :
    Calls Try.prog 47 #[.agg #[v1, v2, v3]] w (RetL2c w (regX p) (gexC p)) := by
  have HP := Lib.hid hp
  obtain ⟨ao1, cap1, rfl, _, _⟩ := hp.1.form
  obtain ⟨ao2, cap2, rfl, _, _⟩ := hp.2.1.form
  obtain ⟨ao3, cap3, rfl, _, _⟩ := hp.2.2.form
  have g0 := below_alloc w (Obj.cells #[Value.slice ao1 p.orders.length cap1, Value.slice ao2 p.powers.length cap2, Value.slice ao3 p.conj.length cap3] 28)
  have X0 := Lib.hid (Bx.new w (Value.slice ao1 p.orders.length cap1) (Value.slice ao2 p.powers.length cap2) (Value.slice ao3 p.conj.length cap3))
  clear hp
  by_cases hc : conB p = true
  case neg =>
    have hc' : conB p = false := by simpa using hc
    rw [regX_1 (gex_1 hc').1, (gex_1 hc').1]
    clear hc
    go_enter Try.func47, Try.ntmps47
    go_wp2_with fail
    refine (s_l08Group p _ _ _ _ (HP.out.below g0)).mono ?_
    rintro e w2 ⟨rfl, hb⟩
    have g2 := below_size g0 hb
    obtain ⟨c1, f1⟩ := bcell hb
    have z1 : w.heap.size < w2.heap.size := by have := hb.size; simp at this; omega
    rw [hc']
    clear hb hc'
    go_wp2_with fail
    go_ret2
    exact ⟨_, rfl, local_O2.nil _ _, g2⟩
  obtain ⟨hV, hG⟩ := conB_true hc
  have HV := Lib.hid hV
  have HG := Lib.hid hG
  obtain ⟨hq, hq7⟩ := gord_eq hV
  have HQ := Lib.hid hq
  obtain ⟨N, HN⟩ : ∃ N, Hid (gord p = N) := ⟨_, rfl⟩
  rw [HN.out] at hq7
  by_cases h128 : 128 < N
  case pos =>
    have HK := Lib.hid (gex_3 hc (by rw [HN.out]; exact h128))
    clear hV hG hq
    rw [regX_3 HK.out.1, HK.out.1]
    go_enter Try.func47, Try.ntmps47
    go_wp2_with fail
    refine (s_l08Group p _ _ _ _ (HP.out.below g0)).mono ?_
    rintro e w2 ⟨rfl, hb⟩
    have g2 := below_size g0 hb
    have x2 := X0.out.below hb (by simp)
    have m0 := x2.c0
    have m1 := x2.c1
    have m2 := x2.c2
    rw [hc]
    clear hb hc
    go_wp2_with fail
    refine (s_l10Order HV.out _ _ _ _ (HP.out.below g2)).mono ?_
    rintro e w3 ⟨rfl, hb3⟩
    have g3 := below_size g2 hb3
    rw [HQ.out, HN.out]
    clear hb3 m0 m1 m2 x2
    go_wp2_with fail
    go_ret2
    exact ⟨_, rfl, local_O2.nil _ _, g3⟩
  have HK := Lib.hid (gex_0 hc (by rw [HN.out]; exact h128))
  rw [regX_0 HK.out.1, HK.out.1]
  clear hV hG hq
  go_enter Try.func47, Try.ntmps47
  go_wp2_with fail
  refine (s_l08Group p _ _ _ _ (HP.out.below g0)).mono ?_
  rintro e w2 ⟨rfl, hb⟩
  have g2 := below_size g0 hb
  have x2 := X0.out.below hb (by simp)
  have m0 := x2.c0
  have m1 := x2.c1
  have m2 := x2.c2
  rw [hc]
  clear hb hc
  go_wp2_with fail
  refine (s_l10Order HV.out _ _ _ _ (HP.out.below g2)).mono ?_
  rintro e w3 ⟨rfl, hb3⟩
  have g3 := below_size g2 hb3
  have x3 := x2.below hb3 x2.lt
  rw [HQ.out, HN.out]
  clear hb3 m0 m1 m2 x2 g2
  have m0 := x3.c0
  have m1 := x3.c1
  have m2 := x3.c2
  go_wp2_with fail
  refine (s_l11Regular HV.out HG.out _ _ _ _ (HP.out.below g3)).mono ?_
  rintro e w4 ⟨u4, rfl, hO4, hB4⟩
  have g4 := below_size g3 hB4
  have hO5 := O2.grow hO4 g3.size
  obtain ⟨a4, c4, rfl, _, _⟩ := hO5.formN (regL_len p (gord p) p.n)
  clear hO4 hB4 m0 m1 m2 x3
  go_wp2_with fail
  go_ret2
  exact ⟨_, rfl, hO5, g4⟩
--== lengths
theorem gexC_0 {p : Pres} (h : gexC p = 0) : conB p = true ∧ ¬ 128 < gord p := by
  unfold gexC at h
  by_cases hc : conB p = true
  · rw [if_pos hc] at h
    by_cases h2 : 128 < gord p
    · rw [if_pos h2] at h; omega
    · exact ⟨hc, h2⟩
  · rw [if_neg hc] at h; omega
theorem len_RegularRealisation (p : Pres) : size2 (regX p) ≤ 1000000000 := by
  by_cases h : gexC p = 0
  · obtain ⟨hc, h2⟩ := gexC_0 h
    have hn6 := (conB_true hc).1.n6
    rw [regX_0 h]
    unfold size2
    rw [cat_len_n (gord p), regL_len]
    · have : gord p * p.n ≤ 128 * 6 := Nat.mul_le_mul (by omega) hn6
      omega
    · intro r hr
      unfold regL at hr
      obtain ⟨j, _, rfl⟩ := List.mem_map.1 hr
      exact regR_len p j (gord p)
  · have : regX p = [] := if_neg h
    rw [this]; simp [size2, cat]
end Go.Proofs.Ytanjeebdondpaaa
