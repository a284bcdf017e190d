/-
  The text of a presentation, by the program: joined rows of strings.
-/
import Derived.Test.YtgcmhkihonadmaaGreatDoorPtb
import Derived.Test.YtgcmhkihonadmaaGreatDoorShf
namespace Go.Proofs.YtgcmhkihonadmaaGreatDoor
set_option linter.unusedVariables false
set_option linter.unusedSimpArgs false
set_option maxRecDepth 100000
open Go.RowKit

--== plain
theorem flat_len {α : Type} (f : Nat → List α) (K : Nat) (H : ∀ i, (f i).length ≤ K) : ∀ m, ((List.range m).flatMap f).length ≤ m * K := by
  intro m
  induction m with
  | zero => simp
  | succ m ih =>
    have := H m
    rw [List.range_succ, List.flatMap_append, List.length_append, Nat.succ_mul]
    simp only [List.flatMap_cons, List.flatMap_nil, List.append_nil]
    omega
theorem pow1_len (p : Pres) (i : Nat) : (pow1 p i).length ≤ 1 := by unfold pow1; split <;> simp
theorem cnj1_len (p : Pres) (i j : Nat) : (cnj1 p i j).length ≤ 1 := by unfold cnj1; split <;> simp
theorem powsT_len (p : Pres) (m : Nat) : (powsT p m).length ≤ m := by simpa [powsT] using flat_len (pow1 p) 1 (pow1_len p) m
theorem cnjR_len (p : Pres) (i m : Nat) : (cnjR p i m).length ≤ m := by simpa [cnjR] using flat_len (fun d => cnj1 p i (i + 1 + d)) 1 (fun d => cnj1_len p i _) m
theorem cnjsT_len (p : Pres) (m : Nat) : (cnjsT p m).length ≤ m * p.n := flat_len _ p.n (fun i => Nat.le_trans (cnjR_len p i _) (Nat.sub_le _ _)) m
theorem lens_le (L : Nat) : ∀ xs : List Txt, (∀ x ∈ xs, x.length ≤ L) → Lib.lens xs ≤ xs.length * L := by
  intro xs
  induction xs with
  | nil => intro _; exact Nat.zero_le _
  | cons a r ih =>
    intro H
    have h1 := ih fun x hx => H x (List.mem_cons_of_mem _ hx)
    have h2 := H a List.mem_cons_self
    rw [List.length_cons, Nat.succ_mul]
    simp only [Lib.lens, List.map_cons, List.sum_cons] at h1 ⊢
    omega
theorem join_le {xs : List Txt} {sep : Txt} (H : ∀ x ∈ xs, x.length ≤ 1000) (hs : sep.length ≤ 2) (hn : xs.length ≤ 100) : (Lib.join xs sep).length ≤ 140737488355328 := by
  cases xs with
  | nil => rw [Lib.join_nil]; simp
  | cons a r =>
    have h1 := lens_le 1000 _ H
    rw [Lib.join_length]
    rw [List.length_cons] at hn h1
    have := Nat.mul_le_mul hs (show r.length ≤ 100 by omega)
    omega
theorem wtx_len {p : Pres} (hV : ValidP p) {v : List Int} (h : SmE v) : (wtx v).length ≤ 100 := by
  have := txtW_size (nwL_len h)
  rw [sz_of (s := txtW (nwL v)) rfl] at this
  exact this
theorem dgr_len {p : Pres} (hV : ValidP p) {i : Nat} (hi : i < p.n) : (dg (p.r i)).length = 1 := by
  have := hV.rk i hi
  exact dg_len (by omega) (by omega)
theorem ords_le {p : Pres} (hV : ValidP p) : (Lib.join (ordsT p p.n) [32]).length ≤ 140737488355328 ∧ (0 < p.n → (Lib.join (ordsT p p.n) [32]).length ≤ 1000) := by
  have hn6 := hV.n6
  have H : ∀ x ∈ ordsT p p.n, x.length ≤ 1 := fun x hx => by
    unfold ordsT at hx
    obtain ⟨i, hi, rfl⟩ := List.mem_map.1 hx
    exact Nat.le_of_eq (dgr_len hV (List.mem_range.1 hi))
  have hl := ordsT_len p p.n
  refine ⟨join_le (fun x hx => by have := H x hx; omega) (by simp) (by omega), fun _ => ?_⟩
  revert H hl
  generalize ordsT p p.n = xs
  intro H hl
  cases xs with
  | nil => rw [Lib.join_nil]; simp
  | cons a r =>
    have h1 := lens_le 1 _ H
    rw [Lib.join_length]
    rw [List.length_cons] at hl h1
    rw [show ([32] : Txt).length = 1 from rfl]
    omega
theorem parts_le {p : Pres} (hV : ValidP p) (h0 : 0 < p.n) : (Lib.join (ordT p :: (powsT p p.n ++ cnjsT p p.n)) [59, 32]).length ≤ 140737488355328 := by
  have hn6 := hV.n6
  refine join_le (fun x hx => ?_) (by simp) ?_
  · rcases List.mem_cons.1 hx with rfl | hx
    · unfold ordT
      rw [if_neg (by omega)]
      exact (ords_le hV).2 h0
    rcases List.mem_append.1 hx with hx | hx
    · unfold powsT at hx
      obtain ⟨i, hi, hx⟩ := List.mem_flatMap.1 hx
      have hi := List.mem_range.1 hi
      unfold pow1 at hx
      split at hx
      · simp at hx
      · rw [List.mem_singleton.1 hx]
        have h1 := wtx_len hV ((hV.valid.pow i hi).sm hV)
        have h2 := dgr_len hV hi
        unfold powX
        simp only [List.length_append, lt_len, h2, List.length_cons, List.length_nil]
        omega
    · unfold cnjsT at hx
      obtain ⟨i, hi, hx⟩ := List.mem_flatMap.1 hx
      have hi := List.mem_range.1 hi
      unfold cnjR at hx
      obtain ⟨d, hd, hx⟩ := List.mem_flatMap.1 hx
      have hd := List.mem_range.1 hd
      unfold cnj1 at hx
      split at hx
      · simp at hx
      · rw [List.mem_singleton.1 hx]
        have h1 := wtx_len hV ((hV.valid.cj i (i + 1 + d) (by omega) (by omega)).sm hV)
        unfold cnjX
        simp only [List.length_append, lt_len, List.length_cons, List.length_nil]
        omega
  · have h1 := powsT_len p p.n
    have h2 := cnjsT_len p p.n
    have h3 := Nat.mul_le_mul hn6 hn6
    rw [List.length_cons, List.length_append]
    omega
theorem strs_len {ss : List ByteArray} {l : List Txt} (h : ss.map (·.data.toList) = l) : ss.length = l.length := by rw [← h]; simp
theorem allocB {w0 w1 : World} (h : Below w0.heap.size w0 w1) (o : Obj) : Below w0.heap.size w0 (w1.alloc o) := h.trans ((below_alloc w1 o).mono h.size)
theorem f_EqualW (va vb : Value) (xs ys : List Int) (w : World) (b : Bool) (ha : Rd w va xs) (hb : Rd w vb ys) (h : decide (xs = ys) = b) :
    Calls Tryz.prog 65 #[va, vb] w (RetV w (.bool b)) := by
  subst h
  exact (f_Equal va vb xs ys w ha hb).mono fun e w' h => h.below
--== joins
theorem f_Join {w : World} {B : Nat} {a : Option Addr} {n c : Nat} {ss : List ByteArray} (h : Strs w B (.slice a n c) ss) (h0 : 0 < ss.length) (hn : ss.length ≤ 100) (sep : ByteArray) (l : List Txt) (hl : ss.map (·.data.toList) = l)
    (hL : (Lib.join l sep.data.toList).length ≤ 140737488355328) :
    Calls Tryz.prog 60 #[.slice a n c, .string sep] w fun e w' => ∃ s, e = .returned (.string s) ∧ s.data.toList = Lib.join l sep.data.toList ∧ Below w.heap.size w w' := by
  subst hl
  obtain ⟨a', c', he, hc⟩ := h.form
  simp only [Value.slice.injEq] at he
  obtain ⟨rfl, rfl, rfl⟩ := he
  obtain ⟨g, rfl, _, hg, _⟩ := h.at (j := 0) (s := ss[0]) (by simp [h0])
  refine (Tryz.strings_Join g 0 c ss sep w (fun j x hx => ?_) hg (by omega) hc hL).mono ?_
  · obtain ⟨g', he, _, _, hc'⟩ := h.at hx
    cases he
    rw [Nat.zero_add]; exact hc'
  · rintro e w' ⟨rfl, hb⟩
    exact ⟨_, rfl, ba_of _, hb⟩
--== impl.presentationText, no letters
set_option maxHeartbeats 4000000 in
theorem i_presentationText0 {p : Pres} (hV : ValidP p) (hn0 : p.n = 0) (vp : Value) (w : World) (hp : PtrP w vp p) :
    Calls Tryz.prog 47 #[vp] w fun e w' => ∃ s, e = .returned (.string s) ∧ s.data.toList = ptx p ∧ Below w.heap.size w w' := by
  have HZ := Lib.hid (ptx_zero hn0)
  obtain ⟨pb, v1, v2, v3, rfl, c1, c2, c3, R1, R2, R3⟩ := hp
  obtain ⟨a1, q1, rfl, _, _⟩ := R1.formN (n := 0) hn0
  obtain ⟨a2, q2, rfl, _, _⟩ := R2.formN (n := 0) (hV.pl.trans hn0)
  obtain ⟨a3, q3, rfl, _, _⟩ := R3.formN (n := 0) (hV.cl.trans hn0)
  clear R1 R2 R3 hV
  have C1 := Lib.hid c1
  have C2 := Lib.hid c2
  go_enter Tryz.func47, Tryz.ntmps47
  go_wp2_with fail
  go_loopw [3, 18] (fun u t wr => t = .int .i64 0 ∧ u = .slice none 0 0 ∧ wr = w) (fun _ _ _ => 0)
  case atStart => exact ⟨rfl, rfl, rfl⟩
  case round =>
    obtain ⟨rfl, rfl, rfl⟩ := hrel
    clear c1 c2 c3
    go_wp2_with fail
    have HJ := f_Join (Strs.one wr ⟨#[49]⟩) (by simp) (by simp) ⟨#[32]⟩ [[49]] rfl (by rw [Lib.join_one]; simp)
    have HB0 := Lib.hid (below_alloc wr (Obj.cells #[.string ⟨#[49]⟩] 9))
    refine HJ.mono ?_
    rintro e w5 ⟨s5, rfl, hs5, hB5⟩
    have HS5 : Hid (s5.data.toList = [49]) := hs5.trans (Lib.join_one _ _)
    have hB6 := below_size HB0.out hB5
    have HB6 := Lib.hid (hB6.trans (Below.mono (below_alloc w5 (Obj.cells #[.string s5] 9)) hB6.size))
    have c2' := below_cells HB6.out _ _ C2.out
    have c1' := below_cells HB6.out _ _ C1.out
    have HJ2 := f_Join (Strs.one w5 s5) (by simp) (by simp) ⟨#[59, 32]⟩ [[49]] (by rw [List.map_cons, List.map_nil, HS5.out]) (by rw [Lib.join_one]; simp)
    clear hs5 hB5 hB6 HJ HS5
    go_wp2_with fail
    go_loopw [6, 40] (fun u t wx => t = .int .i64 0 ∧ u = .slice (some ⟨w5.heap.size, 0, none⟩) 1 1 ∧ wx = w5.alloc (Obj.cells #[.string s5] 9)) (fun _ _ _ => 0)
    case atStart => exact ⟨rfl, rfl, rfl⟩
    case round =>
      obtain ⟨rfl, rfl, hw⟩ := hrel
      subst hw
      go_wp2_with fail
      go_loopw [6, 70] (fun u t wx => t = .int .i64 0 ∧ u = .slice (some ⟨w5.heap.size, 0, none⟩) 1 1 ∧ wx = w5.alloc (Obj.cells #[.string s5] 9)) (fun _ _ _ => 0)
      case atStart => exact ⟨rfl, rfl, rfl⟩
      case round =>
        obtain ⟨rfl, rfl, hw⟩ := hrel
        subst hw
        clear c1' c2'
        go_wp2_with fail
        refine HJ2.mono ?_
        rintro e w9 ⟨s9, rfl, hs9, hB9⟩
        have HS9 : Hid (s9.data.toList = [49]) := hs9.trans (Lib.join_one _ _)
        have hB10 := below_size HB6.out hB9
        clear hs9 hB9
        go_wp2_with fail
        go_ret
        exact ⟨_, rfl, HS9.out.trans HZ.out.symm, hB10⟩
--== impl.presentationText
set_option maxHeartbeats 4000000 in
theorem i_presentationText {p : Pres} (hV : ValidP p) (vp : Value) (w : World) (hp : PtrP w vp p) :
    Calls Tryz.prog 47 #[vp] w fun e w' => ∃ s, e = .returned (.string s) ∧ s.data.toList = ptx p ∧ Below w.heap.size w w' := by
  by_cases hn0 : p.n = 0
  · exact i_presentationText0 hV hn0 vp w hp
  have hn6 := hV.n6
  have hn1 : 0 < p.n := by omega
  have HV := Lib.hid hV
  obtain ⟨pb, v1, v2, v3, rfl, c1, c2, c3, R1, R2, R3⟩ := hp
  obtain ⟨b1, o1, q1, rfl, hord⟩ := ord_at R1 hn1
  obtain ⟨b2, o2, q2, rfl, hpow⟩ := pow_at hV R2 hn1
  obtain ⟨b3, o3, q3, rfl, _⟩ := conj_at hV R3 hn1
  have BOX : Hid (∀ wx, Below w.heap.size w wx → wx.cell? ⟨pb, 0, none⟩ = some (Value.slice (some ⟨b1, o1, none⟩) p.n q1) ∧ wx.cell? ⟨pb, 1, none⟩ = some (Value.slice (some ⟨b2, o2, none⟩) p.n q2) ∧ wx.cell? ⟨pb, 2, none⟩ = some (Value.slice (some ⟨b3, o3, none⟩) p.n q3)) := fun wx hb =>
    ⟨below_cells hb _ _ c1, below_cells hb _ _ c2, below_cells hb _ _ c3⟩
  have HORD := Lib.hid hord
  have HPOW := Lib.hid hpow
  have HR3 := Lib.hid R3
  clear c2 c3 R1 R2 R3 hord hpow hV
  go_enter Tryz.func47, Tryz.ntmps47
  go_wp2_with fail
  clear c1
  go_loopw [3, 18] (fun u t wr => ∃ (i : Nat) (os : List ByteArray), i ≤ p.n ∧ t = .int .i64 i ∧ Strs wr w.heap.size u os ∧ Hid (os.map (·.data.toList) = ordsT p i) ∧ Below w.heap.size w wr) (fun _ t _ => p.n - (intOf t).toNat)
  case atStart => exact ⟨0, [], Nat.zero_le _, rfl, Strs.nil _ _, rfl, Below.refl _ _⟩
  case round =>
    obtain ⟨i, os, hi, rfl, hO, HS, hB⟩ := hrel
    have hol : os.length = i := (strs_len HS.out).trans (ordsT_len p i)
    have HB := Lib.hid hB
    have HO := Lib.hid hO
    obtain ⟨a4, q4, rfl, hcap⟩ := hO.formN hol
    by_cases hlt : i < p.n
    · have hco := below_cells hB _ _ (HORD.out i hlt)
      have r7 := HV.out.rk i hlt
      have hltI : (i : Int) < (p.n : Int) := by omega
      obtain ⟨k, hk⟩ : ∃ k : Nat, p.r i = (k : Int) := ⟨(p.r i).toNat, by omega⟩
      have HK := Lib.hid hk
      rw [hk] at hco r7
      have HF : Hid (∀ wx, Calls Tryz.prog 59 #[.int .i64 k, .int .i64 10] wx fun e w' => e = .returned (.string ⟨(Lib.decDigits k).toArray⟩) ∧ w' = wx) := fun wx => Tryz.strconv_FormatInt_10_small k (by omega) wx
      obtain ⟨ob, hob⟩ : ∃ ob : ByteArray, (⟨(Lib.decDigits k).toArray⟩ : ByteArray) = ob := ⟨_, rfl⟩
      have HOB : Hid (ob.data.toList = dg (p.r i)) := by
        show _ = _
        rw [← hob, HK.out]
        exact ba_of _
      obtain ⟨v6, w6, hr6, hO6, hB6⟩ := run_appStr wr w.heap.size _ os HO.out ob (by omega) hB.size
      clear hB hO hk
      go_wp2_with fail
      refine (HF.out _).mono ?_
      rintro e w5 ⟨rfl, rfl⟩
      rw [hob]
      have HB7 := Lib.hid (HB.out.trans hB6)
      clear hob hco hB6
      go_wp2_with (at_builtin; refine wp_of_run _ rfl _ _ _ rfl _ _ rfl rfl _ _ hr6 ?_)
      go_roundw
      case rel => exact ⟨i + 1, os ++ [ob], by omega, by go_num, hO6, by
        show _ = _
        rw [List.map_append, HS.out, ordsT_succ, List.map_cons, List.map_nil, HOB.out], HB7.out⟩
      case measure => (simp [intOf]; try omega)
    · obtain rfl : i = p.n := by omega
      have h0I : ((p.n : Int) == 0) = false := by simp; omega
      have HJ := Lib.hid (f_Join hO (by omega) (by omega) ⟨#[32]⟩ (ordsT p p.n) HS.out (ords_le HV.out).1)
      obtain ⟨g, hag, _, hgw, _⟩ := hO.at (j := 0) (s := os[0]'(by omega)) (by simp)
      have HOC : Hid (∀ wx, Below wr.heap.size wr wx → ∀ j, j < p.n → ∃ ob : ByteArray, ob.data.toList = dg (p.r j) ∧ wx.cell? ⟨g, j, none⟩ = some (.string ob)) := fun wx hb j hj => by
        have hj' : j < os.length := by omega
        obtain ⟨g', he, _, _, hc⟩ := HO.out.at (j := j) (s := os[j]) (by simp [hj'])
        rw [hag] at he
        cases he
        refine ⟨os[j], ?_, below_cells hb _ _ hc⟩
        have h1 : (os.map (·.data.toList))[j]? = (ordsT p p.n)[j]? := by rw [HS.out]
        simpa [ordsT, hj', hj] using h1
      subst hag
      clear hB hO HO
      go_wp2_with fail
      refine HJ.out.mono ?_
      rintro e w5 ⟨s5, rfl, hs5, hB5⟩
      have HS5 : Hid (s5.data.toList = ordT p) := by
        show _ = _
        rw [hs5]
        unfold ordT
        rw [if_neg (by omega)]
      have HB5 := Lib.hid hB5
      have HBW := Lib.hid (below_size HB.out hB5)
      have HA := Lib.hid (below_alloc w5 (Obj.cells #[.string s5] 9))
      have hg5 : g < w5.heap.size := Nat.lt_of_lt_of_le hgw hB5.size
      have m1 := (BOX.out _ (below_size HBW.out HA.out)).2.1
      clear hs5 hB5 HJ
      go_wp2_with fail
      clear m1
      have HOC5 : Hid (∀ wx, Below w5.heap.size w5 wx → ∀ j, j < p.n → ∃ ob : ByteArray, ob.data.toList = dg (p.r j) ∧ ∀ wy, Below w5.heap.size w5 wy → wy.cell? ⟨g, j, none⟩ = some (.string ob)) := fun wx hb j hj => by
        obtain ⟨ob, h1, h2⟩ := HOC.out w5 HB5.out j hj
        exact ⟨ob, h1, fun wy hy => below_cells hy _ _ h2⟩
      go_loopw [6, 40] (fun u t wr => ∃ (i : Nat) (ps : List ByteArray), i ≤ p.n ∧ t = .int .i64 i ∧ Strs wr w5.heap.size u ps ∧ Hid (ps.map (·.data.toList) = ordT p :: powsT p i) ∧ Below w5.heap.size w5 wr) (fun _ t _ => p.n - (intOf t).toNat)
      case atStart => exact ⟨0, [s5], Nat.zero_le _, rfl, Strs.one _ _, by show _ = _; rw [List.map_cons, List.map_nil, HS5.out]; rfl, HA.out⟩
      case round =>
        clear HOC HB5
        obtain ⟨i, ps, hi, rfl, hO, HS2, hB⟩ := hrel
        have hpl : ps.length ≤ 1 + i := by
          have h1 := strs_len HS2.out
          have h2 := powsT_len p i
          rw [List.length_cons] at h1
          omega
        have HB := Lib.hid hB
        have HO := Lib.hid hO
        obtain ⟨a6, q6, rfl, hcap6⟩ := hO.form
        by_cases hlt : i < p.n
        · have hBw := below_size HBW.out hB
          obtain ⟨ap, zp, hcp, hrp⟩ := HPOW.out i hlt
          have hcp2 := below_cells hBw _ _ hcp
          have HRP := Lib.hid (hrp.below hBw)
          have hvi := HV.out.valid.pow i hlt
          have HSM := Lib.hid (hvi.sm HV.out)
          have HL26 := Lib.hid (let26_nw HV.out hvi.len)
          have hltI : (i : Int) < (p.n : Int) := by omega
          obtain ⟨zb, hzb⟩ : ∃ zb, zeroB (p.P i) = zb := ⟨_, rfl⟩
          have HZB := Lib.hid hzb
          have hpowS := Lib.hid (powsT_succ p i)
          obtain ⟨ob, hob, hobc⟩ := HOC5.out _ hB i hlt
          have hoz : ob.size = 1 := (sz_of hob).trans (dgr_len HV.out hlt)
          have HOB := Lib.hid hob
          have HOBC := Lib.hid hobc
          clear hB hO hzb hcp hrp hvi hob hobc hBw
          go_wp2_with fail
          refine (i_isZero _ (p.P i) _ HRP.out).mono ?_
          rintro e w7 ⟨rfl, rfl⟩
          rw [HZB.out]
          clear hcp2
          cases zb with
          | true =>
            go_wp2_with fail
            go_roundw
            case rel => exact ⟨i + 1, ps, by omega, by go_num, HO.out, by show _ = _; rw [HS2.out, hpowS.out, pow1_z HZB.out, List.append_nil], HB.out⟩
            case measure => (simp [intOf]; try omega)
          | false =>
            have KEEP : Hid (∀ wx, Below w5.heap.size w5 wx → wx.cell? ⟨g, i, none⟩ = some (.string ob)) := HOBC.out
            have HLT : Hid (∀ wx, Calls Tryz.prog 62 #[.int .i64 i] wx fun e w' => ∃ s, e = .returned (.string s) ∧ s.data.toList = lt1 i ∧ wx = w') := fun wx => i_letterOf i wx (by omega)
            have HWD : Hid (∀ wx, Below wr.heap.size wr wx → Calls Tryz.prog 64 #[.slice ap p.n zp] wx (RetInts wx (nwL (p.P i)))) := fun wx hb => i_normalWord _ _ wx (HRP.out.below hb) HSM.out
            have HTX : Hid (∀ wx vx, Rd wx vx (nwL (p.P i)) → Calls Tryz.prog 63 #[vx] wx (RetV wx (.string (txtW (nwL (p.P i)))))) := fun wx vx hx => i_wordText _ _ wx hx (by have := nwL_len HSM.out; omega) HL26.out
            have hz3 : (txtW (nwL (p.P i))).size ≤ 100 := txtW_size (nwL_len HSM.out)
            obtain ⟨tx, htx⟩ : ∃ tx, txtW (nwL (p.P i)) = tx := ⟨_, rfl⟩
            have HTE := Lib.hid htx
            rw [htx] at hz3 HTX
            have hq6 : ¬ (9223372036854775807 < 4 + tx.size) := by omega
            have hq7 : ¬ (9223372036854775807 < 1 + 1 + 1 + 1 + tx.size) := by omega
            have hzz := HB.out.size
            clear htx
            go_wp2_with fail
            go_region_held3 (fun wx => wx.cell? ⟨g, i, none⟩ = some (.string ob))
              (first
                | assumption
                | exact KEEP.out _ (below_size HB.out (Below.refl _ _).drew)
                | exact KEEP.out _ hK11
                | exact KEEP.out _ (below_size HB.out hK9)
                | exact KEEP.out _ (allocB (below_size HB.out hK9) _)
                | exact KEEP.out _ (below_size HB.out hK8))
              (first
                | ((go_at_call 62); (with_reducible refine (HLT.out _).mono ?_); (rintro e w6 ⟨s1, rfl, hs1, rfl⟩); (have hz1 : s1.size = 1 := sz_of hs1))
                | ((go_at_call 64); (with_reducible refine (HWD.out _ (Below.refl _ _).drew).mono ?_); (rintro e w8 ⟨u8, rfl, hI8, hB8⟩); (have hK8 : Below wr.heap.size wr w8 := below_size (Below.refl _ _).drew hB8))
                | ((go_at_call 63); (with_reducible refine (HTX.out _ _ hI8.rd).mono ?_); (rintro e w9 ⟨rfl, hB9⟩); (have hK9 : Below wr.heap.size wr w9 := below_size hK8 hB9))
                | (obtain ⟨v11, w11, hr11, hO11, hB11⟩ := run_appStr w9 w5.heap.size _ ps (HO.out.below hK9) (s1 ++ ⟨#[94]⟩ ++ ob ++ ⟨#[61]⟩ ++ tx) (by omega) (Nat.le_trans hzz hK9.size)
                   have hK11 : Below w5.heap.size w5 w11 := (below_size HB.out hK9).trans hB11
                   refine step_of_run rfl (.tmp 48) (.tmp 62) 32 rfl _ _ (by simp [Act.eval, Act.put]) (by simp [Act.eval, Act.put]) _ _ hr11 ?_))
            have HB9 := Lib.hid hK11
            have HS1 := Lib.hid hs1
            clear hI8 hB8 hB9 hK8 hK9 hr11 hB11 hs1 KEEP HWD HTX HLT hK11
            go_wp2_with fail
            go_roundw
            case rel => exact ⟨i + 1, _, by omega, by go_num, hO11, by
              show _ = _
              rw [List.map_append, HS2.out, hpowS.out, pow1_x HZB.out, List.map_cons, List.map_nil]
              simp only [ba_app, HS1.out, HOB.out, powX, wtx, HTE.out, List.append_assoc, List.cons_append], HB9.out⟩
            case measure => (simp [intOf]; try omega)
        · obtain rfl : i = p.n := by omega
          have HS3 : Hid (ps.map (·.data.toList) = ordT p :: (powsT p p.n ++ cnjsT p 0)) := by
            show _ = _
            rw [HS2.out, show cnjsT p 0 = [] from rfl, List.append_nil]
          have m0 := (BOX.out _ (below_size HBW.out hB)).1
          clear hB hO HS2
          go_wp2_with fail
          clear m0
          go_loopw [6, 70] (fun u t wr => ∃ (i : Nat) (ps : List ByteArray), i ≤ p.n ∧ t = .int .i64 i ∧ Strs wr w5.heap.size u ps ∧ Hid (ps.map (·.data.toList) = ordT p :: (powsT p p.n ++ cnjsT p i)) ∧ Below w5.heap.size w5 wr) (fun _ t _ => p.n - (intOf t).toNat)
          case atStart => exact ⟨0, ps, Nat.zero_le _, rfl, HO.out, HS3, HB.out⟩
          case round =>
            clear HS3 HO HB hpl hcap6
            obtain ⟨i, ps, hi, rfl, hO, HS3, hB⟩ := hrel
            have HB := Lib.hid hB
            have HO := Lib.hid hO
            by_cases hlt : i < p.n
            · have hBw := below_size HBW.out hB
              have m2 := (BOX.out _ hBw).2.2
              obtain ⟨b3', o3', q3', he3, a4, z4, k4, kc4⟩ := conj_at HV.out HR3.out hlt
              cases he3
              have e4 := below_cells hBw _ _ k4
              have KC := Lib.hid kc4
              have hltI : (i : Int) < (p.n : Int) := by omega
              have HCS := Lib.hid (cnjsT_succ p i)
              have HS4 : Hid (ps.map (·.data.toList) = ordT p :: (powsT p p.n ++ (cnjsT p i ++ cnjR p i 0))) := by
                show _ = _
                rw [HS3.out, show cnjR p i 0 = [] from rfl, List.append_nil]
              clear hB hO hBw k4 kc4 HS3
              go_wp2_with fail
              clear m2 e4
              go_loopw [6, 81] (fun u t wr => ∃ (c : Nat) (ps : List ByteArray), c ≤ p.n - (i + 1) ∧ t = .int .i64 c ∧ Strs wr w5.heap.size u ps ∧ Hid (ps.map (·.data.toList) = ordT p :: (powsT p p.n ++ (cnjsT p i ++ cnjR p i c))) ∧ Below w5.heap.size w5 wr) (fun _ t _ => (p.n - (i + 1)) - (intOf t).toNat)
              case atStart => exact ⟨0, ps, Nat.zero_le _, rfl, HO.out, HS4, HB.out⟩
              case round =>
                clear HS4 HO HB
                obtain ⟨c, ps, hc, rfl, hO, HS4, hB⟩ := hrel
                have hpl : ps.length ≤ 100 := by
                  have h1 := strs_len HS4.out
                  have h2 := powsT_len p p.n
                  have h3 := cnjsT_len p i
                  have h4 := cnjR_len p i c
                  have h5 := Nat.mul_le_mul (show i ≤ 6 by omega) hn6
                  rw [List.length_cons, List.length_append, List.length_append] at h1
                  omega
                have HB := Lib.hid hB
                have HO := Lib.hid hO
                obtain ⟨a6, q6, rfl, hcap6⟩ := hO.form
                by_cases hcl : c < p.n - (i + 1)
                · have hBw := below_size HBW.out hB
                  obtain ⟨b4, o4, rfl, a7, z7, kx, RX⟩ := KC.out c (by omega)
                  have d5 := below_cells hBw _ _ kx
                  have HRX := Lib.hid (RX.below hBw)
                  have hvi := HV.out.valid.cj i (i + 1 + c) (by omega) (by omega)
                  have HSM := Lib.hid (hvi.sm HV.out)
                  have HL26 := Lib.hid (let26_nw HV.out hvi.len)
                  obtain ⟨fb, hfb⟩ : ∃ fb, decide (p.C i (i + 1 + c) = unitL p.n (i + 1 + c)) = fb := ⟨_, rfl⟩
                  have HFB := Lib.hid hfb
                  have HCR := Lib.hid (cnjR_succ p i c)
                  have HU : Hid (∀ wx, Calls Tryz.prog 54 #[.int .i64 (p.n : Int), .int .i64 ((i : Int) + 1 + (c : Int))] wx (RetInts wx (unitL p.n (i + 1 + c)))) := fun wx => by
                    have h := i_unitVector p.n (i + 1 + c) wx (by omega) (by omega)
                    rwa [show ((i + 1 + c : Nat) : Int) = (i : Int) + 1 + (c : Int) by omega] at h
                  have hclI : (c : Int) < ((p.n - (i + 1) : Nat) : Int) := by omega
                  clear hB hO hBw kx RX hvi hfb
                  go_wp2_with fail
                  clear d5
                  refine (HU.out _).mono ?_
                  rintro e w7 ⟨u7, rfl, hI7, hB7⟩
                  obtain ⟨a8, c8, rfl, _, _⟩ := hI7.form
                  have HX7 := Lib.hid (HRX.out.below hB7)
                  have HI7 := Lib.hid hI7
                  have HB7 := Lib.hid (below_size HB.out hB7)
                  have HO7 := Lib.hid (HO.out.below hB7)
                  clear hI7 hB7 HRX HO HB
                  go_wp2_with fail
                  refine (f_EqualW _ _ _ _ _ fb HX7.out HI7.out.rd HFB.out).mono ?_
                  rintro e w8 ⟨rfl, hB8⟩
                  have HX8 := Lib.hid (HX7.out.below hB8)
                  have HB8 := Lib.hid (below_size HB7.out hB8)
                  have HO8 := Lib.hid (HO7.out.below hB8)
                  clear hB8 HX7 HI7 HB7 HO7
                  cases fb with
                  | true =>
                    go_wp2_with fail
                    go_roundw
                    case rel => exact ⟨c + 1, ps, by omega, by go_num, HO8.out, by
                      show _ = _
                      rw [HS4.out, HCR.out, cnj1_z (of_decide_eq_true HFB.out), List.append_nil], HB8.out⟩
                    case measure => (simp [intOf]; try omega)
                  | false =>
                    have HLJ : Hid (Calls Tryz.prog 62 #[.int .i64 ((i : Int) + 1 + (c : Int))] w8 fun e w' => ∃ s, e = .returned (.string s) ∧ s.data.toList = lt1 (i + 1 + c) ∧ w8 = w') := by
                      have h := i_letterOf (i + 1 + c) w8 (by omega)
                      rw [show ((i + 1 + c : Nat) : Int) = (i : Int) + 1 + (c : Int) by omega] at h
                      exact h
                    have hz3 : (txtW (nwL (p.C i (i + 1 + c)))).size ≤ 100 := txtW_size (nwL_len HSM.out)
                    obtain ⟨tx, htx⟩ : ∃ tx, txtW (nwL (p.C i (i + 1 + c))) = tx := ⟨_, rfl⟩
                    have HTE := Lib.hid htx
                    have HTX : Hid (∀ wx vx, Rd wx vx (nwL (p.C i (i + 1 + c))) → Calls Tryz.prog 63 #[vx] wx (RetV wx (.string tx))) := fun wx vx hx => by
                      have h := i_wordText _ _ wx hx (by have := nwL_len HSM.out; omega) HL26.out
                      rw [HTE.out] at h
                      exact h
                    rw [htx] at hz3
                    clear htx
                    go_wp2_with fail
                    refine HLJ.out.mono ?_
                    rintro e w9 ⟨s1, rfl, hs1, rfl⟩
                    have hz1 : s1.size = 1 := sz_of hs1
                    have HS1 := Lib.hid hs1
                    clear hs1
                    go_wp2_with fail
                    refine (i_letterOf i _ (by omega)).mono ?_
                    rintro e w9 ⟨s2, rfl, hs2, rfl⟩
                    have hz2 : s2.size = 1 := sz_of hs2
                    have HS2 := Lib.hid hs2
                    clear hs2
                    go_wp2_with fail
                    refine (i_normalWord _ _ _ HX8.out HSM.out).mono ?_
                    rintro e w10 ⟨u10, rfl, hI10, hB10⟩
                    obtain ⟨a10, c10, rfl, _, _⟩ := hI10.form
                    have HI10 := Lib.hid hI10
                    have HB10 := Lib.hid (below_size HB8.out hB10)
                    have HO10 := Lib.hid (HO8.out.below hB10)
                    clear hI10 hB10 HO8 HB8 HX8
                    go_wp2_with fail
                    refine (HTX.out _ _ HI10.out.rd).mono ?_
                    rintro e w11 ⟨rfl, hB11⟩
                    have HB11 := Lib.hid (below_size HB10.out hB11)
                    obtain ⟨v12, w12, hr12, hO12, hB12⟩ := run_appStr w11 w5.heap.size _ ps (HO10.out.below hB11) (s1 ++ ⟨#[94]⟩ ++ s2 ++ ⟨#[61]⟩ ++ tx) (by omega) HB11.out.size
                    have HB12 := Lib.hid (HB11.out.trans hB12)
                    have HO12 := Lib.hid hO12
                    clear hB11 HO10 HB10 hB12 hO12
                    go_wp2_with (at_builtin; refine wp_of_run _ rfl _ _ _ rfl _ _ rfl rfl _ _ hr12 ?_)
                    go_roundw
                    case rel => exact ⟨c + 1, _, by omega, by go_num, HO12.out, by
                      show _ = _
                      rw [List.map_append, HS4.out, HCR.out, cnj1_x (of_decide_eq_false HFB.out), List.map_cons, List.map_nil]
                      simp only [ba_app, HS1.out, HS2.out, cnjX, wtx, HTE.out, List.append_assoc, List.cons_append], HB12.out⟩
                    case measure => (simp [intOf]; try omega)
                · obtain rfl : c = p.n - (i + 1) := by omega
                  clear hB hO
                  go_wp2_with fail
                  go_roundw
                  case rel => exact ⟨i + 1, ps, by omega, by go_num, HO.out, by
                    show _ = _
                    rw [HS4.out, HCS.out], HB.out⟩
                  case measure => (simp [intOf]; try omega)
            · obtain rfl : i = p.n := by omega
              have hps0 : 0 < ps.length := by rw [strs_len HS3.out]; simp
              have hpl : ps.length ≤ 100 := by
                have h1 := strs_len HS3.out
                have h2 := powsT_len p p.n
                have h3 := cnjsT_len p p.n
                have h5 := Nat.mul_le_mul hn6 hn6
                rw [List.length_cons, List.length_append] at h1
                omega
              obtain ⟨a6, q6, rfl, hcap6⟩ := hO.form
              have HJ := Lib.hid (f_Join hO hps0 hpl ⟨#[59, 32]⟩ _ HS3.out (parts_le HV.out hn1))
              have HBF := Lib.hid (below_size HBW.out hB)
              clear hB hO
              go_wp2_with fail
              refine HJ.out.mono ?_
              rintro e w9 ⟨s9, rfl, hs9, hB9⟩
              have HS9 : Hid (s9.data.toList = ptx p) := hs9
              have hB10 := below_size HBF.out hB9
              clear hs9 hB9
              go_wp2_with fail
              go_ret
              exact ⟨_, rfl, HS9.out, hB10⟩
--== end
end Go.Proofs.YtgcmhkihonadmaaGreatDoor
