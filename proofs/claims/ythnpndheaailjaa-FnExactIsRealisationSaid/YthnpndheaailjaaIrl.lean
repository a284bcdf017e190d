/-
  IsRealisation: the program's side.
-/
import Derived.Test.YthnpndheaailjaaRch
import Derived.Test.YthnpndheaailjaaPresD
import Derived.Test.YthnpndheaailjaaTim
namespace Go.Proofs.Ythnpndheaailjaa
set_option linter.unusedVariables false
set_option linter.unusedSimpArgs false
set_option maxRecDepth 100000
open Go.RowKit

--== slices.Index
def IdxP (w : World) (xs : List Int) (x : Int) (e : Ending) (w' : World) : Prop := ∃ r : Int, e = .returned (.int .i64 r) ∧ decide (0 ≤ r) = xs.contains x ∧ -1 ≤ r ∧ r ≤ 1000000000 ∧ w = w'
theorem contains_take {xs : List Int} {x : Int} {j : Nat} (h : ∀ t, t < j → xs.getD t 0 ≠ x) (hj : j = xs.length) : xs.contains x = false := by
  cases hc : xs.contains x
  · rfl
  · have : x ∈ xs := by simpa using hc
    obtain ⟨k, hk, rfl⟩ := mem_getD this
    exact absurd rfl (h k (by omega))
theorem contains_at {xs : List Int} {x : Int} {j : Nat} (hj : j < xs.length) (h : xs.getD j 0 = x) : xs.contains x = true := by
  have := getD_mem hj
  rw [h] at this
  simpa using this
set_option maxHeartbeats 1000000 in
theorem f_Index (v : Value) (xs : List Int) (x : Int) (w : World) (hv : Rd w v xs) (hs : xs.length ≤ 1000000) :
    Calls Try.prog 146 #[v, .int .i64 x] w (IdxP w xs x) := by
  have HV := Lib.hid hv
  obtain ⟨ao, cap, rfl, _, _⟩ := hv.form
  clear hv
  go_enter Try.func146, Try.ntmps146
  go_wp2
  go_loop [8] (fun i => ∃ j : Nat, j ≤ xs.length ∧ i = .int .i64 j ∧ ∀ t, t < j → xs.getD t 0 ≠ x) (fun i => xs.length - (intOf i).toNat)
  case atStart => exact ⟨0, Nat.zero_le _, rfl, fun t ht => by omega⟩
  case round =>
    obtain ⟨j, hj, rfl, hall⟩ := hrel
    have HA := Lib.hid hall
    clear hall
    by_cases hlt : j < xs.length
    · obtain ⟨b, off, rfl, hcell⟩ := HV.out.at hlt
      generalize hy : xs.getD j 0 = y at hcell
      have HY := Lib.hid hy
      clear hy
      by_cases hyx : x = y
      · subst hyx
        have HC := Lib.hid (contains_at hlt HY.out)
        go_wp2
        go_ret
        exact ⟨j, rfl, by rw [HC.out]; simp, by omega, by omega, rfl⟩
      · have h1 : (x == y) = false := by simpa using hyx
        have HN := Lib.hid hyx
        clear hyx
        go_wp2
        go_round
        case rel => exact ⟨j + 1, by omega, by go_num, fun t ht => by
          by_cases h : t = j
          · subst h; rw [HY.out]; exact fun e => HN.out e.symm
          · exact HA.out t (by omega)⟩
        case measure => simp [intOf]; omega
    · obtain rfl : j = xs.length := by omega
      have HC := Lib.hid (contains_take HA.out rfl)
      go_wp2
      go_ret
      exact ⟨-1, rfl, by rw [HC.out]; rfl, by omega, by omega, rfl⟩
--== slices.Contains
theorem f_Contains (v : Value) (xs : List Int) (x : Int) (w : World) (hv : Rd w v xs) (hs : xs.length ≤ 1000000) :
    Calls Try.prog 101 #[v, .int .i64 x] w fun e w' => e = .returned (.bool (xs.contains x)) ∧ w = w' := by
  have HV := Lib.hid hv
  obtain ⟨ao, cap, rfl, _, _⟩ := hv.form
  clear hv
  go_enter Try.func101, Try.ntmps101
  go_wp2_with fail
  refine (f_Index _ xs x _ HV.out hs).mono ?_
  rintro e w' ⟨r, rfl, hr, hr1, hr2, rfl⟩
  have HR := Lib.hid hr
  clear hr
  go_wp2_with fail
  go_ret
  exact ⟨ret_bool HR.out, rfl⟩
--== one literal
theorem Ints.lit1 (w : World) (a : Int) : Ints (w.alloc (.cells #[.int .i64 a] 2)) w.heap.size (.slice (some ⟨w.heap.size, 0, none⟩) 1 1) [a] :=
  ⟨rfl, .inr ⟨w.heap.size, 1, #[.int .i64 a], rfl, Nat.le_refl _, heap_alloc_new w _, by simp, by simp [maxLen], by simp, by simp⟩⟩
theorem gordN_eq {p : Pres} (hV : ValidP p) : prodO p.orders = (gordN p : Int) ∧ 1 ≤ gordN p ∧ gordN p ≤ 729 := by
  obtain ⟨_, _, h1, h2⟩ := ordB_true hV.ord
  unfold gordN
  omega
theorem sized_first {l : List (List Int)} {N : Nat} (hs : sizedB N l = true) (hl : 0 < l.length) : (l.getD 0 []).length = N := (sizedB_at hs hl).1
theorem ret_bi2 {a b : Bool} {c : Int} (h : a = b) : Ending.returned (.tuple #[.bool a, .int .i64 c]) = .returned (.tuple #[.bool b, .int .i64 c]) := by rw [h]
--== impl.IsRealisation
set_option maxHeartbeats 16000000 in
theorem i_IsRealisation (v1 v2 v3 : Value) (p : Pres) (vl : Value) (l : List (List Int)) (w : World) (hp : RdP w v1 v2 v3 p) (hl : Rd2 w vl l) :
    Calls Try.prog 37 #[.agg #[v1, v2, v3], vl] w (RetV w (.tuple #[.bool (irR p l), .int .i64 (irC p)])) := by
  obtain ⟨i0, hi, hz0, hz1, hz2⟩ := info_parts Try.info2
  have HP := Lib.hid hp
  have HL := Lib.hid hl
  obtain ⟨ao1, cap1, rfl, _, _⟩ := hp.1.formN (n := p.n) rfl
  obtain ⟨ao2, cap2, rfl, _, _⟩ := hp.2.1.form
  obtain ⟨ao3, cap3, rfl, _, _⟩ := hp.2.2.form
  obtain ⟨al, cl, rfl, _, _⟩ := hl.form
  have g0 := below_alloc w (Obj.cells #[Value.slice ao1 p.n cap1, Value.slice ao2 p.powers.length cap2, Value.slice ao3 p.conj.length cap3] 32)
  have b0 := Bx.new w (Value.slice ao1 p.n cap1) (Value.slice ao2 p.powers.length cap2) (Value.slice ao3 p.conj.length cap3)
  have HG := Lib.hid g0
  have HB := Lib.hid b0
  clear hp hl g0 b0
  by_cases hV : validB p = true
  case neg =>
    have hV' : validB p = false := by simpa using hV
    have HK := Lib.hid (irC_1 hV')
    have HR := Lib.hid (irR_ne (l := l) (by rw [HK.out]; omega))
    clear hV
    go_enter Try.func37, Try.ntmps37
    go_wp2_with fail
    refine (i_IsPresentation _ _ _ p _ (HP.out.below HG.out)).mono ?_
    rintro e w1 ⟨rfl, hb⟩
    have g1 := below_size HG.out hb
    rw [hV']
    clear hb hV'
    go_wp2_with fail
    go_ret2
    rw [HK.out, HR.out]
    exact ⟨rfl, g1⟩
  have HV := Lib.hid (validB_true.1 hV)
  have HVt := Lib.hid hV
  obtain ⟨hN, hN1, hN7⟩ := gordN_eq HV.out
  have HN := Lib.hid hN
  have hn6 := HV.out.n6
  have HC3 : Hid (¬ gordN p ≤ 128 → irC p = 3) := fun h => irC_3 HVt.out h
  have HC0 : Hid (gordN p ≤ 128 → irC p = 0) := fun h => irC_0 HVt.out h
  have HR0 : Hid (irC p = 0 → irR p l = irB p l (gordN p)) := fun h => irR_0 h
  clear hN
  generalize gordN p = N at *
  by_cases h128 : N ≤ 128
  case neg =>
    have HK := Lib.hid (HC3.out h128)
    have HR := Lib.hid (irR_ne (l := l) (by rw [HK.out]; omega))
    go_enter Try.func37, Try.ntmps37
    go_wp2_with fail
    refine (i_IsPresentation _ _ _ p _ (HP.out.below HG.out)).mono ?_
    rintro e w1 ⟨rfl, hb⟩
    have g1 := below_size HG.out hb
    have b1 := HB.out.below hb HB.out.lt
    rw [hV]
    clear hb hV
    go_wp2_with fail
    refine (i_orderOf _ p _ (b1.ptr (HP.out.below g1)) HV.out.ord).mono ?_
    rintro e w' ⟨rfl, rfl⟩
    rw [HN.out]
    go_wp2_with fail
    go_ret2
    rw [HK.out, HR.out]
    exact ⟨rfl, g1⟩
  have HK := Lib.hid (HC0.out h128)
  have HR := Lib.hid (HR0.out HK.out)
  clear HC3 HC0 HR0
  by_cases hln : l.length = p.n
  case neg =>
    have HB0 := Lib.hid (irB_len (N := N) hln)
    have hl1 : ((l.length : Int) != (p.n : Int)) = true := by simp; omega
    clear hln
    go_enter Try.func37, Try.ntmps37
    go_wp2_with fail
    refine (i_IsPresentation _ _ _ p _ (HP.out.below HG.out)).mono ?_
    rintro e w1 ⟨rfl, hb⟩
    have g1 := below_size HG.out hb
    have b1 := HB.out.below hb HB.out.lt
    rw [hV]
    clear hb hV
    go_wp2_with fail
    refine (i_orderOf _ p _ (b1.ptr (HP.out.below g1)) HV.out.ord).mono ?_
    rintro e w' ⟨rfl, rfl⟩
    rw [HN.out]
    have n0 := b1.c0
    go_wp2_with fail
    go_ret2
    rw [HK.out, HR.out, HB0.out]
    exact ⟨rfl, g1⟩
  have HLN := Lib.hid hln
  have hl1 : ((l.length : Int) != (p.n : Int)) = false := by simp [hln]
  have hl6 : l.length ≤ 6 := by omega
  clear hln
  go_enter Try.func37, Try.ntmps37
  go_wp2_with fail
  refine (i_IsPresentation _ _ _ p _ (HP.out.below HG.out)).mono ?_
  rintro e w1 ⟨rfl, hb⟩
  have g1 := below_size HG.out hb
  have b1 := HB.out.below hb HB.out.lt
  rw [hV]
  clear hb hV
  go_wp2_with fail
  refine (i_orderOf _ p _ (b1.ptr (HP.out.below g1)) HV.out.ord).mono ?_
  rintro e w' ⟨rfl, rfl⟩
  rw [HN.out]
  have n0 := b1.c0
  go_wp2_with fail
  clear hl1 n0
  go_loopw [33] (fun i wr => ∃ j : Nat, j ≤ l.length ∧ i = .int .i64 j ∧ sizedB N (l.take j) = true ∧ Below w1.heap.size w1 wr) (fun i _ => l.length - (intOf i).toNat)
  case atStart => exact ⟨0, Nat.zero_le _, rfl, rfl, Below.refl _ _⟩
  case round =>
    obtain ⟨j, hj, rfl, hsz, hB⟩ := hrel
    have gW := below_size g1 hB
    by_cases hlt : j < l.length
    · obtain ⟨bz, oz, r, rfl, hcz, hrz⟩ := (HL.out.below gW).at hlt
      have HS := Lib.hid (sizedB_take N l j hlt)
      have HF : Hid (szB N (l.getD j []) = false → irB p l N = false) := fun h => irB_sized (sizedB_false hlt h)
      have HSZ := Lib.hid hsz
      clear hsz
      generalize l.getD j [] = bj at *
      obtain ⟨ar, cr, rfl, _, _⟩ := hrz.form
      have HRZ := Lib.hid hrz
      clear hrz
      by_cases hbl : bj.length = N
      · have hb1 : ((bj.length : Int) != (N : Int)) = false := by simp [hbl]
        have HBL := Lib.hid hbl
        clear hbl
        by_cases hbb : bijB bj = true
        · have HZ1 : Hid (szB N bj = true) := by show _ = _; simp [szB, isBijB, HBL.out, hbb, h128]
          go_wp2_with fail
          refine (i_isBijection _ bj _ HRZ.out (by have := HBL.out; omega)).mono ?_
          rintro e w2 ⟨rfl, hb⟩
          rw [hbb]
          have hB2 := below_size hB hb
          clear hbb hb
          go_wp2_with fail
          go_roundw
          case rel => exact ⟨j + 1, by omega, by go_num, by rw [HS.out, HSZ.out, HZ1.out]; rfl, hB2⟩
          case measure => simp [intOf]; omega
        · have hbb' : bijB bj = false := by simpa using hbb
          have HZ1 : Hid (irB p l N = false) := HF.out (by simp [szB, isBijB, hbb'])
          clear hbb
          go_wp2_with fail
          refine (i_isBijection _ bj _ HRZ.out (by have := HBL.out; omega)).mono ?_
          rintro e w2 ⟨rfl, hb⟩
          rw [hbb']
          have hB2 := below_size gW hb
          clear hbb' hb
          go_wp2_with fail
          go_ret2
          rw [HK.out, HR.out, HZ1.out]
          exact ⟨rfl, hB2⟩
      · have hb1 : ((bj.length : Int) != (N : Int)) = true := by simp; omega
        have HZ1 : Hid (irB p l N = false) := HF.out (by simp [szB, hbl])
        clear hbl
        go_wp2_with fail
        go_ret2
        rw [HK.out, HR.out, HZ1.out]
        exact ⟨rfl, gW⟩
    · obtain rfl : j = l.length := by omega
      rw [List.take_length] at hsz
      have HSZ := Lib.hid hsz
      have bW := b1.below hB b1.lt
      have n0 := bW.c0
      have n1 := bW.c1
      have n2 := bW.c2
      clear hsz hB
      go_wp2_with fail
      refine (i_PresentationRelators' _ _ _ p _ (HP.out.below gW) HVt.out).mono ?_
      rintro e w3 ⟨u3, rfl, hO3, hb⟩
      have g3 := below_size gW hb
      have HO3 := Lib.hid hO3.rd
      obtain ⟨a3, c3, rfl, _, _⟩ := hO3.rd.form
      clear hb hO3 n0 n1 n2 gW
      go_wp2_with fail
      go_loopw [54] (fun i wr => ∃ k : Nat, k ≤ (relL p).length ∧ i = .int .i64 k ∧ (∀ t, t < k → evL ((relL p).getD t []) l = selfL N) ∧ Below w3.heap.size w3 wr) (fun i _ => (relL p).length - (intOf i).toNat)
      case atStart => exact ⟨0, Nat.zero_le _, rfl, fun t ht => by omega, Below.refl _ _⟩
      case round =>
        obtain ⟨k, hk, rfl, hall, hB⟩ := hrel
        have HA := Lib.hid hall
        have gW := below_size g3 hB
        clear hall
        by_cases hlk : k < (relL p).length
        · obtain ⟨bz, oz, r, rfl, hcz, hrz⟩ := (HO3.out.below hB).at hlk
          have HWd := Lib.hid (rel_at HV.out hlk)
          have HF : Hid (evL ((relL p).getD k []) l ≠ selfL N → irB p l N = false) := fun h => irB_rel (relsB_false hlk h)
          have hl0 : 0 < l.length := by
            have h1 := HLN.out
            rcases Nat.eq_zero_or_pos p.n with h0 | h0
            · rw [rel_none h0] at hlk; simp at hlk
            · omega
          have HFN := Lib.hid (sized_first HSZ.out hl0)
          have hev := i_composeWord _ _ ((relL p).getD k []) l wr hrz (HL.out.below gW) hl6 (by rw [HLN.out]; exact HWd.out) (by rw [HFN.out]; exact HSZ.out) (by rw [HFN.out]; exact h128)
          rw [HFN.out] at hev
          have HEV := Lib.hid hev
          have HCL : Hid ((evL ((relL p).getD k []) l).length = N) := by have := evTo_len ((relL p).getD k []) l ((relL p).getD k []).length (Nat.le_refl _); rw [HFN.out] at this; exact this
          obtain ⟨ar, cr, rfl, _, _⟩ := hrz.form
          generalize hrk : (relL p).getD k [] = rk at *
          have HRK := Lib.hid hrk
          clear hrk
          clear hev hrz
          go_wp2_with fail
          refine HEV.out.mono ?_
          rintro e w4 ⟨u4, rfl, hI4, hb⟩
          have g4 := below_size gW hb
          have hB4 := below_size hB hb
          have HI4 := Lib.hid hI4.rd
          obtain ⟨a4, c4, rfl, _, _⟩ := hI4.rd.formN HCL.out
          clear hI4 hb
          generalize hev : evL rk l = c at *
          have HEC := Lib.hid hev
          clear hev HEV
          go_wp2_with fail
          go_loop [63] (fun i => ∃ t : Nat, t ≤ N ∧ i = .int .i64 t ∧ ∀ s, s < t → c.getD s 0 = (s : Int)) (fun i => N - (intOf i).toNat)
          case atStart => exact ⟨0, Nat.zero_le _, rfl, fun s hs => by omega⟩
          case round =>
            obtain ⟨t, ht, rfl, hal⟩ := hrel
            have HA2 := Lib.hid hal
            clear hal
            by_cases hlt2 : t < N
            · obtain ⟨bx, ox, rfl, hcx⟩ := HI4.out.at (show t < c.length by have := HCL.out; omega)
              generalize hy : c.getD t 0 = y at *
              have HY := Lib.hid hy
              clear hy
              by_cases hyt : y = (t : Int)
              · subst hyt
                go_wp2_with fail
                go_round
                case rel => exact ⟨t + 1, by omega, by go_num, fun s hs => by
                  by_cases h : s = t
                  · subst h; exact HY.out
                  · exact HA2.out s (by omega)⟩
                case measure => simp [intOf]; omega
              · have hy1 : (y != (t : Int)) = true := by simpa using hyt
                have HZ1 : Hid (irB p l N = false) := HF.out (fun e => hyt (by rw [← HY.out, e]; simp [selfL, List.getD, hlt2]))
                clear hyt
                go_wp2_with fail
                go_ret2
                rw [HK.out, HR.out, HZ1.out]
                exact ⟨rfl, g4⟩
            · obtain rfl : N = t := by omega
              have HEQ : Hid (c = selfL N) := by
                refine all_eq (by rw [HCL.out, selfL_len]) fun s hs => ?_
                rw [HA2.out s (by have := HCL.out; omega)]
                have : s < N := by have := HCL.out; omega
                simp [selfL, List.getD, this]
              go_wp2_with fail
              go_roundw
              case rel => exact ⟨k + 1, by omega, by go_num, fun t ht2 => by
                by_cases h : t = k
                · subst h; rw [HRK.out, HEC.out]; exact HEQ.out
                · exact HA.out t (by omega), hB4⟩
              case measure => simp [intOf]; omega
        · obtain rfl : k = (relL p).length := by omega
          have HRT := Lib.hid (relsB_true HA.out)
          have HFI := Lib.hid (irB_fin HLN.out HSZ.out HRT.out)
          clear hlk hk
          obtain ⟨wo, hwo⟩ : ∃ x, x = wr := ⟨_, rfl⟩
          subst hwo
          go_wp2_with fail
          go_loopw [15, 16] (fun u i wq => ∃ k : Nat, k ≤ N ∧ i = .int .i64 k ∧ (∀ j, j < k → j < (rcTo l j).length) ∧ Ints wq wo.heap.size u (rcTo l k) ∧ Below wo.heap.size wo wq) (fun _ i _ => N - (intOf i).toNat)
          case atStart => exact ⟨0, Nat.zero_le _, rfl, fun j hj => by omega, Ints.lit1 _ _, below_alloc _ _⟩
          case round =>
            clear hB
            obtain ⟨k, hkN, rfl, hall, hI, hB⟩ := hrel
            obtain ⟨wq, hwq⟩ : ∃ x, x = wr := ⟨_, rfl⟩
            subst hwq
            have HA3 := Lib.hid hall
            have HOK := Lib.hid (rcTo_ok hN1 HSZ.out k hall)
            have hlen := HOK.out.len
            have hmore := rc_more hall
            have gQ := below_size gW hB
            clear hall
            by_cases hlt : k < (rcTo l k).length
            · obtain ⟨c, hc, hcN⟩ := HOK.out.2 k hlt
              have HC := Lib.hid hc
              have HP0 : Hid (rcTo l (k + 1) = rcIn l c (rcTo l k) l.length) := by show _ = _; rw [show rcTo l (k + 1) = rcIn l ((rcTo l k).getD k 0).toNat (rcTo l k) l.length from rfl, hc, Int.toNat_natCast]
              have HPre : Hid (∀ j, k < (rcIn l c (rcTo l k) j).length ∧ (rcIn l c (rcTo l k) j).getD k 0 = (c : Int)) := fun j => by
                have := rcIn_pre l c (rcTo l k) j hlt
                exact ⟨this.1, this.2.trans hc⟩
              have HInOK : Hid (∀ j, j ≤ l.length → RcOK N (rcIn l c (rcTo l k) j)) := fun j hj => rcIn_ok HSZ.out hcN HOK.out j hj
              have HZ0 : Hid (rcIn l c (rcTo l k) 0 = rcTo l k) := rfl
              have HSC : Hid (∀ j, rcIn l c (rcTo l k) (j + 1) = rcAdd (rcIn l c (rcTo l k) j) ((l.getD j []).getD c 0)) := fun j => rfl
              clear hc
              generalize hRk : rcTo l k = Rk at *
              have HRk := Lib.hid hRk
              clear hRk
              obtain ⟨a15, c15, rfl, _, _⟩ := hI.form
              go_wp2_with fail
              go_loopw [15, 82] (fun u i wz => ∃ j : Nat, j ≤ l.length ∧ i = .int .i64 j ∧ Ints wz wo.heap.size u (rcIn l c Rk j) ∧ Below wo.heap.size wo wz) (fun _ i _ => l.length - (intOf i).toNat)
              case atStart => exact ⟨0, Nat.zero_le _, rfl, by rw [HZ0.out]; exact hI, hB⟩
              case round =>
                clear hI hB gQ HZ0
                obtain ⟨j, hj, rfl, hI, hB⟩ := hrel
                obtain ⟨wz, hwz⟩ : ∃ x, x = wr := ⟨_, rfl⟩
                subst hwz
                have gQ := below_size gW hB
                have HPj := Lib.hid (HPre.out j)
                have hlj := (HInOK.out j hj).len
                by_cases hlj2 : j < l.length
                · obtain ⟨bz, oz, r, rfl, hcz, hrz⟩ := (HL.out.below gQ).at hlj2
                  obtain ⟨m, hm, hmN⟩ := rc_img HSZ.out hlj2 hcN
                  have HSj := Lib.hid (HSC.out j)
                  have HLj := Lib.hid (sizedB_at HSZ.out hlj2).1
                  have hOj := HInOK.out (j + 1) (by omega)
                  have HM := Lib.hid hm
                  rw [hm] at HSj
                  clear hm
                  generalize l.getD j [] = bj at *
                  generalize rcIn l c Rk j = Rj at *
                  obtain ⟨hp1, hp2⟩ := HPj.out
                  obtain ⟨ar, cr, rfl, _, _⟩ := hrz.formN HLj.out
                  obtain ⟨bb, ob, rfl, hcb⟩ := hrz.at (show c < bj.length by have := HLj.out; omega)
                  rw [HM.out] at hcb
                  have hRR := Lib.hid hI.rd
                  obtain ⟨a16, c16, e16, _, _⟩ := hI.form
                  subst e16
                  obtain ⟨bq, oq, rfl, hcq⟩ := hI.rd.at hp1
                  rw [hp2] at hcq
                  clear hp2 hrz
                  by_cases hct : Rj.contains (m : Int) = true
                  · have HAd := Lib.hid (rcAdd_in hct)
                    go_wp2_with fail
                    refine (f_Contains _ Rj (m : Int) _ hRR.out (by omega)).mono ?_
                    rintro e w' ⟨rfl, rfl⟩
                    rw [hct]
                    clear hct
                    go_wp2_with fail
                    go_roundw
                    case rel => exact ⟨j + 1, by omega, by go_num, by rw [HSj.out, HAd.out]; exact hI, hB⟩
                    case measure => simp [intOf]; omega
                  · have hct' : Rj.contains (m : Int) = false := by simpa using hct
                    have HAd := Lib.hid (rcAdd_out hct')
                    clear hct
                    go_wp2_with fail
                    refine (f_Contains _ Rj (m : Int) _ hRR.out (by omega)).mono ?_
                    rintro e w' ⟨rfl, rfl⟩
                    rw [hct']
                    clear hct'
                    have sB := hB.size
                    obtain ⟨v7, w7, hr7, hI7, hB7⟩ := run_appI (wz.alloc (.cells #[.int .i64 (m : Int)] 2)) 22 wo.heap.size _ Rj (hI.below (below_alloc _ _)) _ [(m : Int)] (Rd.lit1 wz (m : Int)) (by omega) (by simp) (by simp; omega)
                    have hB8 := (hB.alloc sB (.cells #[.int .i64 (m : Int)] 2)).trans hB7
                    clear hB7 hB hI
                    go_wp2_with (at_builtin; refine wp_of_run _ rfl _ _ _ rfl _ _ rfl rfl _ _ hr7 ?_)
                    go_roundw
                    case rel => exact ⟨j + 1, by omega, by go_num, by rw [HSj.out, HAd.out]; exact hI7, hB8⟩
                    case measure => simp [intOf]; omega
                · obtain rfl : j = l.length := by omega
                  have hl2 := (HPre.out l.length).1
                  rw [← HP0.out] at hI hlj hl2
                  go_wp2_with fail
                  go_roundw
                  case rel => exact ⟨k + 1, by omega, by go_num, fun j hj => by
                    by_cases h : j = k
                    · subst h; rw [HRk.out]; exact hlt
                    · exact HA3.out j (by omega), hI, hB⟩
                  case measure => simp [intOf]; omega
            · have he : (rcTo l k).length = k := by omega
              have HRN := Lib.hid (rcN_at HA3.out he (by omega))
              have hIF := hI.rd
              obtain ⟨a15, c15, rfl, _, _⟩ := hI.rd.formN he
              clear hI hIF he
              go_wp2_with fail
              go_ret2
              rw [HK.out, HR.out, HFI.out, HRN.out]
              exact ⟨ret_bi2 (by rw [Bool.eq_iff_iff]; simp; omega), gQ⟩
end Go.Proofs.Ythnpndheaailjaa
