/-
  The text of a presentation, by the reference.
-/
import Derived.Test.YtgcmhkihonadmaaGreatDoorPta
import Derived.Deep.RegionHeld3
namespace Go.Proofs.YtgcmhkihonadmaaGreatDoor
set_option linter.unusedVariables false
set_option linter.unusedSimpArgs false
set_option maxRecDepth 100000
open Go.RowKit

--== plain
theorem let26_nw {p : Pres} (hV : ValidP p) {v : List Int} (h : v.length = p.n) : Let26 (nwL v) := fun x hx => by
  have := nwL_pos h x hx
  have := hV.n6
  omega
theorem pow1_z {p : Pres} {i : Nat} (h : zeroB (p.P i) = true) : pow1 p i = [] := if_pos h
theorem pow1_x {p : Pres} {i : Nat} (h : zeroB (p.P i) = false) : pow1 p i = [powX p i] := by unfold pow1; rw [h]; rfl
theorem cnj1_z {p : Pres} {i j : Nat} (h : p.C i j = unitL p.n j) : cnj1 p i j = [] := if_pos h
theorem cnj1_x {p : Pres} {i j : Nat} (h : ¬ p.C i j = unitL p.n j) : cnj1 p i j = [cnjX p i j] := if_neg h
theorem ptx_zero {p : Pres} (h : p.n = 0) : ptx p = [49] := by
  rw [ptx_eq, h]
  unfold ordT
  rw [if_pos h]; rfl
theorem sz_of {s : ByteArray} {l : Txt} (h : s.data.toList = l) : s.size = l.length := by rw [← h]; exact Array.length_toList.symm
theorem lt_len (k : Nat) : (lt1 k).length = 1 := rfl
theorem dg_len {o : Int} (h0 : 0 ≤ o) (h1 : o < 10) : (dg o).length = 1 := by rw [dg_small h0 h1]; rfl
theorem txtW_size {xs : List Int} (h : xs.length ≤ 100) : (txtW xs).size ≤ 100 := by
  by_cases h0 : xs.length = 0
  · rw [txtW_empty h0]
    exact Nat.le_trans (Nat.le_of_eq (show _ = 1 from rfl)) (by omega)
  · rw [txtW_ne h0, strOfNums_size, txtL_length]; exact h
--== spec.l07Text
set_option maxHeartbeats 4000000 in
theorem s_l07Text {p : Pres} (hV : ValidP p) (v1 v2 v3 : Value) (w : World) (hp : RdP w v1 v2 v3 p) :
    Calls Tryz.prog 14 #[.agg #[v1, v2, v3]] w fun e w' => ∃ s, e = .returned (.string s) ∧ s.data.toList = ptx p ∧ Below w.heap.size w w' := by
  have hn6 := hV.n6
  have HP := Lib.hid hp
  have HVd := Lib.hid hV
  obtain ⟨p1, q1, rfl, _, _⟩ := hp.1.formN (n := p.n) rfl
  obtain ⟨p2, q2, rfl, _, _⟩ := hp.2.1.formN hV.pl
  obtain ⟨p3, q3, rfl, _, _⟩ := hp.2.2.formN hV.cl
  have G0 := Lib.hid (below_alloc w (Obj.cells #[Value.slice p1 p.n q1, Value.slice p2 p.n q2, Value.slice p3 p.n q3] 26))
  have X0 := Lib.hid (Bx.new w (Value.slice p1 p.n q1) (Value.slice p2 p.n q2) (Value.slice p3 p.n q3))
  by_cases hn0 : p.n = 0
  · have HZ := Lib.hid (ptx_zero hn0)
    have hB9 := G0.out
    have h00 : ((p.n : Int) == 0) = true := by simp [hn0]
    clear hp hV hn0
    go_enter Tryz.func14, Tryz.ntmps14
    go_wp2_with fail
    go_ret
    exact ⟨_, rfl, by rw [HZ.out], hB9⟩
  have hn1 : 0 < p.n := by omega
  have h00 : ((p.n : Int) == 0) = false := by simp; omega
  obtain ⟨bo, oo, qo, he, hord⟩ := ord_at hp.1 hn1
  obtain ⟨bp, op, qp, he2, hpow⟩ := pow_at hV hp.2.1 hn1
  simp only [Value.slice.injEq] at he he2
  obtain ⟨rfl, _, rfl⟩ := he
  obtain ⟨rfl, _, rfl⟩ := he2
  have HORD := Lib.hid hord
  have HPOW := Lib.hid hpow
  clear hp hV hord hpow hn0
  go_enter Tryz.func14, Tryz.ntmps14
  go_wp2_with fail
  generalize w.alloc (Obj.cells #[Value.slice (some ⟨bo, oo, none⟩) p.n q1, Value.slice (some ⟨bp, op, none⟩) p.n q2, Value.slice p3 p.n q3] 26) = w0 at *
  have BOX : Hid (∀ wx, Below w0.heap.size w0 wx → wx.cell? ⟨w.heap.size, 0, none⟩ = some (Value.slice (some ⟨bo, oo, none⟩) p.n q1) ∧ wx.cell? ⟨w.heap.size, 1, none⟩ = some (Value.slice (some ⟨bp, op, none⟩) p.n q2) ∧ wx.cell? ⟨w.heap.size, 2, none⟩ = some (Value.slice p3 p.n q3)) := fun wx hb =>
    ⟨below_cells hb _ _ X0.out.c0, below_cells hb _ _ X0.out.c1, below_cells hb _ _ X0.out.c2⟩
  have HLT : Hid (∀ wx (k : Nat), k ≤ 6 → Calls Tryz.prog 36 #[.int .i64 k] wx fun e w' => ∃ s, e = .returned (.string s) ∧ s.data.toList = lt1 k ∧ Below wx.heap.size wx w') := fun wx k hk => s_l07Letter k wx hk
  go_loopw [4, 5] (fun u t wr => ∃ (i : Nat) (s : ByteArray), i ≤ p.n ∧ t = .int .i64 i ∧ u = .string s ∧ s.size ≤ 200 * i ∧ Hid (s.data.toList = Lib.join (ordsT p i) [32]) ∧ Below w0.heap.size w0 wr) (fun _ t _ => p.n - (intOf t).toNat)
  case atStart => exact ⟨0, _, Nat.zero_le _, rfl, rfl, Nat.le_refl _, rfl, Below.refl _ _⟩
  case round =>
    obtain ⟨i, s, hi, rfl, rfl, hsz, HS, hB⟩ := hrel
    have HB := Lib.hid hB
    by_cases hlt : i < p.n
    · obtain ⟨m0, m1, m2⟩ := BOX.out _ hB
      have hco := below_cells (below_size G0.out hB) _ _ (HORD.out i hlt)
      have r7 := HVd.out.rk i hlt
      have hltI : (i : Int) < (p.n : Int) := by omega
      obtain ⟨od, hod⟩ : ∃ od, p.r i = od := ⟨_, rfl⟩
      have HOD := Lib.hid hod
      rw [hod] at hco r7
      clear hB hod
      by_cases hi0 : i = 0
      · subst hi0
        rw [Nat.add_zero] at hco
        go_wp2_with fail
        refine (s_l01Dec1 od _ (by omega) (by omega)).mono ?_
        rintro e w5 ⟨d, rfl, hd, hB5⟩
        have HD := Lib.hid hd
        have hdz : d.size = 1 := (sz_of hd).trans (dg_len (by omega) (by omega))
        have HB5 := Lib.hid (below_size HB.out hB5)
        clear hd hB5 m0 m1 m2 hco
        go_wp2_with fail
        go_roundw
        case rel => exact ⟨1, _, by omega, by go_num, rfl, by rw [ByteArray.size_append]; omega, by
          show _ = _
          rw [ba_app, HS.out, HD.out, ordsT_succ, HOD.out]
          exact (Lib.join_one _ _).symm, HB5.out⟩
        case measure => (simp [intOf]; try omega)
      · have hpos : (0 : Int) < (i : Int) := by omega
        have hpn : 0 < i := by omega
        go_wp2_with fail
        refine (s_l01Dec1 od _ (by omega) (by omega)).mono ?_
        rintro e w5 ⟨d, rfl, hd, hB5⟩
        have HD := Lib.hid hd
        have hdz : d.size = 1 := (sz_of hd).trans (dg_len (by omega) (by omega))
        have HB5 := Lib.hid (below_size HB.out hB5)
        clear hd hB5 m0 m1 m2 hco
        go_wp2_with fail
        go_roundw
        case rel => exact ⟨i + 1, _, by omega, by go_num, rfl, by rw [ByteArray.size_append, ByteArray.size_append]; show _ + 1 + _ ≤ _; omega, by
          show _ = _
          rw [ba_app, ba_app, HS.out, HD.out, ordsT_succ, HOD.out, join_snoc _ _ _ (fun h => by have := ordsT_len p i; rw [h] at this; simp at this; omega), List.append_assoc], HB5.out⟩
        case measure => (simp [intOf]; try omega)
    · obtain rfl : i = p.n := by omega
      have HS1 : Hid (s.data.toList = ordT p ++ Lib.joinTail [59, 32] (powsT p 0)) := by
        show _ = _
        rw [HS.out]
        unfold ordT
        rw [if_neg (by omega)]
        exact (List.append_nil _).symm
      clear hB HS
      go_wp2_with fail
      go_loopw [4, 6] (fun u t wr => ∃ (i : Nat) (s : ByteArray), i ≤ p.n ∧ t = .int .i64 i ∧ u = .string s ∧ s.size ≤ 2000 + 200 * i ∧ Hid (s.data.toList = ordT p ++ Lib.joinTail [59, 32] (powsT p i)) ∧ Below w0.heap.size w0 wr) (fun _ t _ => p.n - (intOf t).toNat)
      case atStart => exact ⟨0, s, Nat.zero_le _, rfl, rfl, by omega, HS1, HB.out⟩
      case round =>
        clear HS1 HB hsz
        obtain ⟨i, s, hi, rfl, rfl, hsz, HS, hB⟩ := hrel
        have HB := Lib.hid hB
        by_cases hlt : i < p.n
        · obtain ⟨m0, m1, m2⟩ := BOX.out _ hB
          have hBw := below_size G0.out hB
          have hco := below_cells hBw _ _ (HORD.out i hlt)
          obtain ⟨ap, zp, hcp, hrp⟩ := HPOW.out i hlt
          have hcp2 := below_cells hBw _ _ hcp
          have HRP := Lib.hid (hrp.below hBw)
          have hvi := HVd.out.valid.pow i hlt
          have HSM := Lib.hid (hvi.sm HVd.out)
          have HL26 := Lib.hid (let26_nw HVd.out hvi.len)
          have r7 := HVd.out.rk i hlt
          have hltI : (i : Int) < (p.n : Int) := by omega
          obtain ⟨od, hod⟩ : ∃ od, p.r i = od := ⟨_, rfl⟩
          have HOD := Lib.hid hod
          rw [hod] at hco r7
          obtain ⟨zb, hzb⟩ : ∃ zb, zeroB (p.P i) = zb := ⟨_, rfl⟩
          have HZB := Lib.hid hzb
          have HVL := Lib.hid hvi.len
          have hpowS := Lib.hid (powsT_succ p i)
          clear hB hod hzb hcp hrp hvi
          go_wp2_with fail
          refine (s_l01Zero _ (p.P i) _ HRP.out).mono ?_
          rintro e w5 ⟨rfl, rfl⟩
          rw [HZB.out]
          cases zb with
          | true =>
            clear m0 m1 m2 hco hcp2
            go_wp2_with fail
            go_roundw
            case rel => exact ⟨i + 1, s, by omega, by go_num, rfl, by omega, by show _ = _; rw [HS.out, hpowS.out, pow1_z HZB.out, List.append_nil], HB.out⟩
            case measure => (simp [intOf]; try omega)
          | false =>
            have KEEP : Hid (∀ wx, Below wr.heap.size wr wx → Below wr.heap.size wr wx ∧ wx.cell? ⟨w.heap.size, 0, none⟩ = some (Value.slice (some ⟨bo, oo, none⟩) p.n q1) ∧ wx.cell? ⟨w.heap.size, 1, none⟩ = some (Value.slice (some ⟨bp, op, none⟩) p.n q2) ∧ wx.cell? ⟨bo, oo + i, none⟩ = some (.int .i64 od) ∧ wx.cell? ⟨bp, op + i, none⟩ = some (.slice ap p.n zp)) := fun wx hb =>
              ⟨hb, below_cells hb _ _ m0, below_cells hb _ _ m1, below_cells hb _ _ hco, below_cells hb _ _ hcp2⟩
            have HWD : Hid (∀ wx, Below wr.heap.size wr wx → Calls Tryz.prog 38 #[.slice ap p.n zp] wx (RetInts wx (nwL (p.P i)))) := fun wx hb => s_l07Word _ _ wx (HRP.out.below hb) HSM.out
            have HTX : Hid (∀ wx vx, Rd wx vx (nwL (p.P i)) → Calls Tryz.prog 37 #[vx] wx (RetV wx (.string (txtW (nwL (p.P i)))))) := fun wx vx hx => s_l06Text _ _ wx hx (by have := nwL_len HSM.out; omega) HL26.out
            have HDC : Hid (∀ wx, Calls Tryz.prog 33 #[.int .i64 od] wx fun e w' => ∃ s, e = .returned (.string s) ∧ s.data.toList = dg od ∧ Below wx.heap.size wx w') := fun wx => s_l01Dec1 od wx (by omega) (by omega)
            have hz3 : (txtW (nwL (p.P i))).size ≤ 100 := txtW_size (nwL_len HSM.out)
            have hq1 : ¬ (9223372036854775807 < s.size + 2) := by omega
            have hq2 : ¬ (9223372036854775807 < s.size + 2 + 1) := by omega
            have hq3 : ¬ (9223372036854775807 < s.size + 2 + 1 + 1) := by omega
            have hq4 : ¬ (9223372036854775807 < s.size + 2 + 1 + 1 + 1) := by omega
            have hq5 : ¬ (9223372036854775807 < s.size + 2 + 1 + 1 + 1 + 1) := by omega
            have hq6 : ¬ (9223372036854775807 < s.size + 2 + 1 + 1 + 1 + 1 + (txtW (nwL (p.P i))).size) := by omega
            clear m0 m1 m2 hco hcp2
            go_wp2_with fail
            go_region_held3 (fun wx => Below wr.heap.size wr wx ∧ wx.cell? ⟨w.heap.size, 0, none⟩ = some (Value.slice (some ⟨bo, oo, none⟩) p.n q1) ∧ wx.cell? ⟨w.heap.size, 1, none⟩ = some (Value.slice (some ⟨bp, op, none⟩) p.n q2) ∧ wx.cell? ⟨bo, oo + i, none⟩ = some (.int .i64 od) ∧ wx.cell? ⟨bp, op + i, none⟩ = some (.slice ap p.n zp))
              (first | exact KEEP.out _ (Below.refl _ _).drew | exact KEEP.out _ (below_size (And.left (by assumption)) (by assumption)))
              (first
                | ((go_at_call 36); (with_reducible refine (HLT.out _ i (by omega)).mono ?_); (rintro e w6 ⟨s1, rfl, hs1, hB6⟩); (have hz1 : s1.size = 1 := sz_of hs1))
                | ((go_at_call 33); (with_reducible refine (HDC.out _).mono ?_); (rintro e w7 ⟨s2, rfl, hs2, hB7⟩); (have hz2 : s2.size = 1 := (sz_of hs2).trans (dg_len (by omega) (by omega))))
                | ((go_at_call 38); (with_reducible refine (HWD.out _ (And.left (by assumption))).mono ?_); (rintro e w8 ⟨u8, rfl, hI8, hB8⟩))
                | ((go_at_call 37); (with_reducible refine (HTX.out _ _ hI8.rd).mono ?_); (rintro e w9 ⟨rfl, hB9⟩)))
            have HB9 : Hid (Below w0.heap.size w0 w9) := below_size HB.out (And.left (by assumption))
            have HS1 := Lib.hid hs1
            have HS2 := Lib.hid hs2
            clear hB6 hB7 hI8 hB8 hB9 hs1 hs2 KEEP HWD HTX HDC
            go_wp2_with fail
            go_roundw
            case rel => exact ⟨i + 1, _, by omega, by go_num, rfl, by simp only [ByteArray.size_append, hz1, hz2]; show _ + 2 + 1 + 1 + 1 + 1 + _ ≤ _; omega, by
              show _ = _
              rw [hpowS.out, pow1_x HZB.out, joinTail_app, joinTail_one]
              simp only [ba_app, HS.out, HS1.out, HS2.out, powX, wtx, HOD.out, List.append_assoc], HB9.out⟩
            case measure => (simp [intOf]; try omega)
        · obtain rfl : i = p.n := by omega
          have HS1 : Hid (s.data.toList = ordT p ++ (Lib.joinTail [59, 32] (powsT p p.n) ++ Lib.joinTail [59, 32] (cnjsT p 0))) := by
            show _ = _
            rw [HS.out, show cnjsT p 0 = [] from rfl, joinTail_nil, List.append_nil]
          clear hB HS
          go_wp2_with fail
          obtain ⟨b3, o3, q3', he3, _⟩ := conj_at HVd.out HP.out.2.2 hn1
          simp only [Value.slice.injEq] at he3
          obtain ⟨rfl, _, rfl⟩ := he3
          go_loopw [4, 7] (fun u t wr => ∃ (i : Nat) (s : ByteArray), i ≤ p.n ∧ t = .int .i64 i ∧ u = .string s ∧ s.size ≤ 4000 + 2000 * i ∧ Hid (s.data.toList = ordT p ++ (Lib.joinTail [59, 32] (powsT p p.n) ++ Lib.joinTail [59, 32] (cnjsT p i))) ∧ Below w0.heap.size w0 wr) (fun _ t _ => p.n - (intOf t).toNat)
          case atStart => exact ⟨0, s, Nat.zero_le _, rfl, rfl, by omega, HS1, HB.out⟩
          case round =>
            clear HS1 HB hsz
            obtain ⟨i, s, hi, rfl, rfl, hsz, HS, hB⟩ := hrel
            have HB := Lib.hid hB
            by_cases hlt : i < p.n
            · have hltI : (i : Int) < (p.n : Int) := by omega
              obtain ⟨b3', o3', q3'', he3, a4, z4, k4, kc4⟩ := conj_at HVd.out HP.out.2.2 hlt
              cases he3
              have K4 := Lib.hid k4
              have KC := Lib.hid kc4
              have HCS := Lib.hid (cnjsT_succ p i)
              have HS1 : Hid (s.data.toList = ordT p ++ (Lib.joinTail [59, 32] (powsT p p.n) ++ (Lib.joinTail [59, 32] (cnjsT p i) ++ Lib.joinTail [59, 32] (cnjR p i 0)))) := by
                show _ = _
                rw [HS.out, show cnjR p i 0 = [] from rfl, joinTail_nil, List.append_nil]
              clear hB k4 kc4 HS
              go_wp2_with fail
              go_loopw [4, 8] (fun u t wr => ∃ (c : Nat) (s : ByteArray), c ≤ p.n - (i + 1) ∧ t = .int .i64 ((i : Int) + 1 + (c : Int)) ∧ u = .string s ∧ s.size ≤ 4000 + 2000 * i + 300 * c ∧ Hid (s.data.toList = ordT p ++ (Lib.joinTail [59, 32] (powsT p p.n) ++ (Lib.joinTail [59, 32] (cnjsT p i) ++ Lib.joinTail [59, 32] (cnjR p i c)))) ∧ Below w0.heap.size w0 wr) (fun _ t _ => p.n - (intOf t).toNat)
              case atStart => exact ⟨0, s, Nat.zero_le _, by simp, rfl, by omega, HS1, HB.out⟩
              case round =>
                clear HS1 HB hsz
                obtain ⟨c, s, hc, rfl, rfl, hsz, HS, hB⟩ := hrel
                have HB := Lib.hid hB
                by_cases hcl : c < p.n - (i + 1)
                · obtain ⟨m0, m1, m2⟩ := BOX.out _ hB
                  have hBw := below_size G0.out hB
                  have d4 := below_cells hBw _ _ K4.out
                  obtain ⟨b4, o4, rfl, a6, z6, kx, RX⟩ := KC.out c (by omega)
                  have d5 := below_cells hBw _ _ kx
                  have RX2 := Lib.hid (RX.below hBw)
                  have hvi := HVd.out.valid.cj i (i + 1 + c) (by omega) (by omega)
                  have HSM := Lib.hid (hvi.sm HVd.out)
                  have HL26 := Lib.hid (let26_nw HVd.out hvi.len)
                  have hxl : (p.C i (i + 1 + c)).length = p.n := hvi.len
                  have HXL := Lib.hid hxl
                  obtain ⟨fb, hfb⟩ : ∃ fb, decide (p.C i (i + 1 + c) = unitL p.n (i + 1 + c)) = fb := ⟨_, rfl⟩
                  have HFB := Lib.hid hfb
                  have HCR := Lib.hid (cnjR_succ p i c)
                  have HU : Hid (∀ wx, Calls Tryz.prog 29 #[.int .i64 (p.n : Int), .int .i64 ((i : Int) + 1 + (c : Int))] wx (RetInts wx (unitL p.n (i + 1 + c)))) := fun wx => by
                    have h := s_l07Unit p.n (i + 1 + c) wx (by omega) (by omega)
                    rwa [show ((i + 1 + c : Nat) : Int) = (i : Int) + 1 + (c : Int) by omega] at h
                  have HSAME : Hid (∀ wx u v, Rd wx u (p.C i (i + 1 + c)) → Rd wx v (unitL p.n (i + 1 + c)) → Calls Tryz.prog 39 #[u, v] wx (RetV wx (.bool fb))) := fun wx u v h1 h2 => by
                    refine (s_l01Same u v _ _ wx h1 h2 (by rw [HXL.out]; simp [unitL])).mono fun e w' h => ?_
                    rw [← HFB.out]; exact h.below
                  have W1 : IntKind.i64.wrap ((i : Int) + 1 + (c : Int) - (i : Int)) = (c : Int) + 1 := by rw [IntWalk.i64_in _ (by omega)]; omega
                  have W2 : IntKind.i64.wrap ((c : Int) + 1 - 1) = (c : Int) := by rw [IntWalk.i64_in _ (by omega)]; omega
                  have W3 : IntKind.i64.wrap (c : Int) = (c : Int) := IntWalk.i64_in _ (by omega)
                  have W4 : IntKind.i64.wrap (p.n : Int) = (p.n : Int) := IntWalk.i64_in _ (by omega)
                  have W5 : IntKind.i64.wrap ((i : Int) + 1 + (c : Int)) = (i : Int) + 1 + (c : Int) := IntWalk.i64_in _ (by omega)
                  have H3 : (c : Int) < ((p.n - (i + 1) : Nat) : Int) := by omega
                  have hD : decide ((i : Int) + 1 + (c : Int) < (p.n : Int)) = true := by simp; omega
                  have KEEP : Hid (∀ wx, Below wr.heap.size wr wx → Below wr.heap.size wr wx ∧ wx.cell? ⟨w.heap.size, 2, none⟩ = some (Value.slice (some ⟨b3, o3, none⟩) p.n q3) ∧ wx.cell? ⟨b3, o3 + i, none⟩ = some (.slice (some ⟨b4, o4, none⟩) (p.n - (i + 1)) z4) ∧ wx.cell? ⟨b4, o4 + c, none⟩ = some (.slice a6 p.n z6)) := fun wx hb =>
                    ⟨hb, below_cells hb _ _ m2, below_cells hb _ _ d4, below_cells hb _ _ d5⟩
                  clear hfb kx RX hB hBw m0 m1 m2 d4 d5 hxl hvi
                  go_wp2_with fail
                  go_region_held3 (fun wx => Below wr.heap.size wr wx ∧ wx.cell? ⟨w.heap.size, 2, none⟩ = some (Value.slice (some ⟨b3, o3, none⟩) p.n q3) ∧ wx.cell? ⟨b3, o3 + i, none⟩ = some (.slice (some ⟨b4, o4, none⟩) (p.n - (i + 1)) z4) ∧ wx.cell? ⟨b4, o4 + c, none⟩ = some (.slice a6 p.n z6))
                    (first | exact KEEP.out _ (Below.refl _ _).drew | exact KEEP.out _ (below_size (And.left (by assumption)) (by assumption)))
                    (first
                      | ((go_at_call 29); (with_reducible refine (HU.out _).mono ?_); (rintro e w5 ⟨u5, rfl, hI5, hB5⟩))
                      | ((go_at_call 39); (with_reducible refine (HSAME.out _ _ _ (RX2.out.below (And.left (by assumption))) hI5.rd).mono ?_); (rintro e w6 ⟨rfl, hB6⟩)))
                  have HKC := Lib.hid (show Below wr.heap.size wr w6 from And.left (by assumption))
                  clear hI5 hB5 hB6 HU HSAME
                  cases fb with
                  | true =>
                    have HB9 : Hid (Below w0.heap.size w0 w6) := below_size HB.out HKC.out
                    clear W1 W2 W3 W4 W5 H3 hD KEEP RX2
                    go_wp2_with fail
                    go_roundw
                    case rel => exact ⟨c + 1, s, by omega, by go_num, rfl, by omega, by
                      show _ = _
                      rw [HS.out, HCR.out, cnj1_z (of_decide_eq_true HFB.out), List.append_nil], HB9.out⟩
                    case measure => (simp [intOf]; try omega)
                  | false =>
                    have KEEP2 : Hid (∀ wx, Below w6.heap.size w6 wx → Below w6.heap.size w6 wx ∧ wx.cell? ⟨w.heap.size, 2, none⟩ = some (Value.slice (some ⟨b3, o3, none⟩) p.n q3) ∧ wx.cell? ⟨b3, o3 + i, none⟩ = some (.slice (some ⟨b4, o4, none⟩) (p.n - (i + 1)) z4) ∧ wx.cell? ⟨b4, o4 + c, none⟩ = some (.slice a6 p.n z6)) := fun wx hb =>
                      ⟨hb, (KEEP.out _ (below_size HKC.out hb)).2⟩
                    have HWD : Hid (∀ wx, Below w6.heap.size w6 wx → Calls Tryz.prog 38 #[.slice a6 p.n z6] wx (RetInts wx (nwL (p.C i (i + 1 + c))))) := fun wx hb => s_l07Word _ _ wx ((RX2.out.below HKC.out).below hb) HSM.out
                    have HTX : Hid (∀ wx vx, Rd wx vx (nwL (p.C i (i + 1 + c))) → Calls Tryz.prog 37 #[vx] wx (RetV wx (.string (txtW (nwL (p.C i (i + 1 + c))))))) := fun wx vx hx => s_l06Text _ _ wx hx (by have := nwL_len HSM.out; omega) HL26.out
                    have HLJ : Hid (∀ wx, Calls Tryz.prog 36 #[.int .i64 ((i : Int) + 1 + (c : Int))] wx fun e w' => ∃ s, e = .returned (.string s) ∧ s.data.toList = lt1 (i + 1 + c) ∧ Below wx.heap.size wx w') := fun wx => by
                      have h := HLT.out wx (i + 1 + c) (by omega)
                      rwa [show ((i + 1 + c : Nat) : Int) = (i : Int) + 1 + (c : Int) by omega] at h
                    have hz3 : (txtW (nwL (p.C i (i + 1 + c)))).size ≤ 100 := txtW_size (nwL_len HSM.out)
                    have hq1 : ¬ (9223372036854775807 < s.size + 2) := by omega
                    have hq2 : ¬ (9223372036854775807 < s.size + 2 + 1) := by omega
                    have hq3 : ¬ (9223372036854775807 < s.size + 2 + 1 + 1) := by omega
                    have hq4 : ¬ (9223372036854775807 < s.size + 2 + 1 + 1 + 1) := by omega
                    have hq5 : ¬ (9223372036854775807 < s.size + 2 + 1 + 1 + 1 + 1) := by omega
                    have hq6 : ¬ (9223372036854775807 < s.size + 2 + 1 + 1 + 1 + 1 + (txtW (nwL (p.C i (i + 1 + c)))).size) := by omega
                    clear KEEP
                    go_wp2_with fail
                    go_region_held3 (fun wx => Below w6.heap.size w6 wx ∧ wx.cell? ⟨w.heap.size, 2, none⟩ = some (Value.slice (some ⟨b3, o3, none⟩) p.n q3) ∧ wx.cell? ⟨b3, o3 + i, none⟩ = some (.slice (some ⟨b4, o4, none⟩) (p.n - (i + 1)) z4) ∧ wx.cell? ⟨b4, o4 + c, none⟩ = some (.slice a6 p.n z6))
                      (first | exact KEEP2.out _ (Below.refl _ _).drew | exact KEEP2.out _ (below_size (And.left (by assumption)) (by assumption)))
                      (first
                        | ((go_at_call 36); (with_reducible refine (HLJ.out _).mono ?_); (rintro e w7 ⟨s1, rfl, hs1, hB7⟩); (have hz1 : s1.size = 1 := sz_of hs1))
                        | ((go_at_call 36); (with_reducible refine (HLT.out _ i (by omega)).mono ?_); (rintro e w8 ⟨s2, rfl, hs2, hB8⟩); (have hz2 : s2.size = 1 := sz_of hs2))
                        | ((go_at_call 38); (with_reducible refine (HWD.out _ (And.left (by assumption))).mono ?_); (rintro e w9 ⟨u9, rfl, hI9, hB9⟩))
                        | ((go_at_call 37); (with_reducible refine (HTX.out _ _ hI9.rd).mono ?_); (rintro e w10 ⟨rfl, hB10⟩)))
                    have HB11 : Hid (Below w0.heap.size w0 w10) := below_size HB.out (below_size HKC.out (And.left (by assumption)))
                    have HS1 := Lib.hid hs1
                    have HS2 := Lib.hid hs2
                    clear hB7 hB8 hI9 hB9 hB10 hs1 hs2 KEEP2 HWD HTX HLJ
                    go_wp2_with fail
                    go_roundw
                    case rel => exact ⟨c + 1, _, by omega, by go_num, rfl, by simp only [ByteArray.size_append, hz1, hz2]; show _ + 2 + 1 + 1 + 1 + 1 + _ ≤ _; omega, by
                      show _ = _
                      rw [HCR.out, cnj1_x (of_decide_eq_false HFB.out), joinTail_app, joinTail_one]
                      simp only [ba_app, HS.out, HS1.out, HS2.out, cnjX, wtx, List.append_assoc], HB11.out⟩
                    case measure => (simp [intOf]; try omega)
                · obtain rfl : c = p.n - (i + 1) := by omega
                  clear hB
                  go_wp2_with fail
                  go_roundw
                  case rel => exact ⟨i + 1, s, by omega, by go_num, rfl, by omega, by
                    show _ = _
                    rw [HS.out, HCS.out, joinTail_app], HB.out⟩
                  case measure => (simp [intOf]; try omega)
            · obtain rfl : i = p.n := by omega
              have hB9 := below_size G0.out HB.out
              have HX : Hid (s.data.toList = ptx p) := by
                show _ = _
                rw [HS.out, ptx_eq]
              clear hB
              go_wp2_with fail
              go_ret
              exact ⟨_, rfl, HX.out, hB9⟩
--== end
end Go.Proofs.YtgcmhkihonadmaaGreatDoor
