/-
  The relative orders of a text: the reference's walk.
-/
import Derived.Test.YtgcmhkihonadmaaGreatDoorPpd
namespace Go.Proofs.YtgcmhkihonadmaaGreatDoor
set_option linter.unusedVariables false
set_option linter.unusedSimpArgs false
set_option maxRecDepth 100000
open Go.RowKit Go.PlainAid

--== plain
theorem r_at {p : Pres} {i : Nat} : p.orders.getD i 0 = p.r i := rfl
theorem ordT_one {p : Pres} (hV : ValidP p) (h : ordT p = [49]) : p.orders = [] := by
  by_cases h0 : p.n = 0
  · exact List.eq_nil_of_length_eq_zero h0
  exfalso
  have h1 := (spl_ord hV (by omega)).2
  rw [h] at h1
  have h2 : Lib.split [49] [32] = [[49]] := split_tail 32 [] [] [49] (by decide) (fun x hx => by cases hx)
  rw [h2] at h1
  have h3 : (ordsT p p.n)[0]? = some [49] := by rw [← h1]; rfl
  have hr := hV.rk 0 (by omega)
  have h4 : (ordsT p p.n)[0]? = some (dg (p.r 0)) := by
    unfold ordsT
    rw [List.getElem?_map, List.getElem?_range (by omega)]; rfl
  rw [h4, dg_small (by omega) (by omega)] at h3
  have h5 := List.cons.inj (Option.some.inj h3)
  have h6 := congrArg UInt8.toNat h5.1
  rw [UInt8.toNat_ofNat'] at h6
  have : (49 : UInt8).toNat = 49 := rfl
  omega
theorem ords_parts {p : Pres} (hV : ValidP p) {ss : List ByteArray} (h : ss.map (·.data.toList) = spl 32 (ordT p)) (h1 : ¬ ordT p = [49]) : ss.length = p.n ∧ ∀ i (hi : i < ss.length), vlI ss[i] = p.r i := by
  have h0 : 0 < p.n := by
    rcases Nat.eq_zero_or_pos p.n with h0 | h0
    · exact absurd (by unfold ordT; rw [if_pos h0]) h1
    · exact h0
  rw [(spl_ord hV h0).1] at h
  have hl : ss.length = p.n := (strs_lenS h).trans (ordsT_len p p.n)
  refine ⟨hl, fun i hi => ?_⟩
  have hr := hV.rk i (by omega)
  have e : (ss.map (·.data.toList))[i]? = (ordsT p p.n)[i]? := by rw [h]
  have e1 : (ordsT p p.n)[i]? = some (dg (p.r i)) := by
    unfold ordsT
    rw [List.getElem?_map, List.getElem?_range (by omega)]; rfl
  rw [e1, List.getElem?_map, List.getElem?_eq_getElem hi] at e
  exact vlI_dg (by omega) (by omega) (Option.some.inj e)
theorem ords_all {p : Pres} (hV : ValidP p) {ss : List ByteArray} (h : ss.map (·.data.toList) = spl 32 (ordT p)) (h1 : ¬ ordT p = [49]) : ss.map vlI = p.orders := by
  obtain ⟨hl, ha⟩ := ords_parts hV h h1
  apply List.ext_getElem
  · rw [List.length_map]; exact hl
  · intro i h2 h3
    have := ha i (by simpa using h2)
    rw [List.getElem_map, this]
    show p.orders.getD i 0 = _
    rw [List.getD_eq_getElem?_getD, List.getElem?_eq_getElem h3]; rfl
def OrdR (w : World) (t : Txt) (e : Ending) (w' : World) : Prop := ∃ v os ok, e = .returned (.tuple #[v, .bool ok]) ∧ Ints w' w.heap.size v os ∧ Below w.heap.size w w' ∧ (ok = true → os.length ≤ 6 ∧ primesB os = true) ∧ (∀ p, ValidP p → t = ordT p → ok = true ∧ os = p.orders)
--== spec.l07Orders
set_option maxHeartbeats 4000000 in
theorem s_l07Orders (s : ByteArray) (w : World) (hs : s.size ≤ 2000000) :
    Calls Tryz.prog 10 #[.string s] w (OrdR w s.data.toList) := by
  obtain ⟨i0, hi0, hz0, hz1, hz2⟩ := info_parts Tryz.info2
  have hE := Ints.empty w
  have hB0 := below_alloc w (Obj.cells #[] 2)
  by_cases h1 : (s.toList == [49]) = true
  · have HX : Hid (∀ p, ValidP p → s.data.toList = ordT p → ([] : List Int) = p.orders) := fun p hV h => by
      refine (ordT_one hV ?_).symm
      rw [← h, ← ByteArray.toList_eq]
      exact beq_iff_eq.1 h1
    go_enter Tryz.func10, Tryz.ntmps10
    go_wp2_with fail
    go_ret2
    exact ⟨_, _, _, rfl, hE, hB0, fun _ => ⟨by simp, rfl⟩, fun p hV h => ⟨rfl, HX.out p hV h⟩⟩
  have h1' : (s.toList == [49]) = false := by simpa using h1
  have HN : Hid (∀ p, ValidP p → s.data.toList = ordT p → ¬ ordT p = [49]) := fun p hV h e => by
    rw [← h, ← ByteArray.toList_eq] at e
    exact h1 (beq_iff_eq.2 e)
  have HSP : Hid (∀ wx, Calls Tryz.prog 9 #[.string s, .int .u8 32] wx (RetStrs wx (spl 32 s.data.toList))) := fun wx => s_l01Split s 32 wx (by omega)
  clear h1
  go_enter Tryz.func10, Tryz.ntmps10
  go_wp2_with fail
  generalize hw1 : w.alloc (Obj.cells #[] 2) = w1 at *
  have hz : w1.heap.size = w.heap.size + 1 := by rw [← hw1]; simp
  have HZ := Lib.hid hz
  clear hw1 hz
  refine (HSP.out _).mono ?_
  rintro e w2 ⟨sv, ss, rfl, hSS, hss, hB2⟩
  obtain ⟨sa, sc, rfl, hsc⟩ := hSS.form
  have HSS := Lib.hid hss
  have HB2 := Lib.hid (hB0.trans (hB2.mono (by have := HZ.out; omega)))
  have hE2 : Ints w2 w.heap.size (.slice (some ⟨w.heap.size, 0, none⟩) 0 0) [] := own_below hE hB2
  have hD2 : Hid (∀ g, (Value.slice sa ss.length sc).ownBlock = some g → (Value.slice (some ⟨w.heap.size, 0, none⟩) 0 0).ownBlock ≠ some g) := fun g hg e => by
    have h3 := (own_lt hSS hg).1
    have h4 : w.heap.size = g := by simpa [Value.ownBlock] using e
    have := HZ.out
    omega
  have HLL := Lib.hid hSS
  clear hss hB2 hB0 hE
  go_wp2_with fail
  go_loopw [4, 6] (fun u t wr => ∃ (i : Nat) (os : List Int), i ≤ ss.length ∧ i ≤ 6 ∧ t = .int .i64 i ∧ Ints wr w.heap.size u os ∧ os.length = i ∧ primesB os = true ∧ Hid (os = (ss.take i).map vlI) ∧ Hid (Strs wr w1.heap.size (.slice sa ss.length sc) ss) ∧ Hid (∀ g, (Value.slice sa ss.length sc).ownBlock = some g → u.ownBlock ≠ some g) ∧ Below w.heap.size w wr) (fun _ t _ => ss.length - (intOf t).toNat)
  case atStart => exact ⟨0, [], Nat.zero_le _, by omega, rfl, hE2, rfl, rfl, rfl, HLL, hD2, HB2.out⟩
  case round =>
    clear hE2 hD2 HLL HB2 hSS
    obtain ⟨i, os, hi, hi6, rfl, hI, hol, hpr, HOS, HLL, HD, hB⟩ := hrel
    have HB := Lib.hid hB
    by_cases hlt : i < ss.length
    · obtain ⟨g, hag, _, hgw, hc⟩ := HLL.out.at (j := i) (s := ss[i]) (by simp [hlt])
      subst hag
      have hltI : (i : Int) < (ss.length : Int) := by omega
      obtain ⟨x, hx⟩ : ∃ x, ss[i] = x := ⟨_, rfl⟩
      have HP : Hid (∀ p, ValidP p → s.data.toList = ordT p → i < p.n ∧ ss.length = p.n ∧ vlI x = p.r i) := fun p hV h => by
        obtain ⟨e1, e2⟩ := ords_parts hV (by rw [HSS.out, h]) (HN.out p hV h)
        exact ⟨by omega, e1, by rw [← hx]; exact e2 i hlt⟩
      have HTK : Hid ((ss.take (i + 1)).map vlI = (ss.take i).map vlI ++ [vlI x]) := by
        show _ = _
        rw [List.take_add_one, List.getElem?_eq_getElem hlt, ← hx, List.map_append]; rfl
      rw [hx] at hc
      obtain ⟨n, hn⟩ : ∃ n, vlI x = n := ⟨_, rfl⟩
      have HV := Lib.hid hn
      clear hx hn
      go_wp2_with fail
      refine (s_l01Value x _).mono ?_
      rintro e w5 ⟨rfl, rfl⟩
      rw [HV.out]
      go_wp2_with fail
      refine (s_l01Prime n _).mono ?_
      rintro e w5 ⟨rfl, rfl⟩
      clear hc
      by_cases hp : primeB n = true
      · have hnb : 2 ≤ n ∧ n ≤ 7 := by have := primeB_true.1 hp; omega
        have HPN := Lib.hid hp
        rw [hp]
        clear hp
        by_cases h6 : i < 6
        · have h6I : (i : Int) < 6 := by omega
          go_wp2_with (at_builtin; refine wp_app1 _ rfl _ _ rfl w.heap.size i0 Tryz.underlying22 hi0 hz0 hz1 hz2 _ _ rfl hI n rfl (by omega) HB.out.size ?_)
          intro v' w6 hI6 hG hB6
          have HLL6 : Hid (Strs w6 w1.heap.size (.slice (some ⟨g, 0, none⟩) ss.length sc) ss) := hG.own HLL.out HD.out
          have HD6 : Hid (∀ g', (Value.slice (some ⟨g, 0, none⟩) ss.length sc).ownBlock = some g' → v'.ownBlock ≠ some g') := fun g' hg' e => by
            rcases hG.moved g' e with h | h
            · exact HD.out g' hg' h
            · have := (own_lt HLL.out hg').2
              omega
          have HB7 := Lib.hid (HB.out.trans hB6)
          clear hG hB6 hB
          go_wp2_with fail
          go_roundw
          case rel => exact ⟨i + 1, os ++ [n], by omega, by omega, by go_num, hI6, by rw [List.length_append, hol]; rfl, by rw [primesB_snoc, hpr, HPN.out]; rfl, by
            show _ = _
            rw [HTK.out, HV.out, HOS.out], HLL6, HD6, HB7.out⟩
          case measure => (simp [intOf]; try omega)
        · have h6I : ¬ (i : Int) < 6 := by omega
          have HF : Hid (∀ p, ValidP p → s.data.toList = ordT p → False) := fun p hV h => by
            obtain ⟨e1, _, _⟩ := HP.out p hV h
            have := hV.n6
            omega
          clear hI hB
          go_wp2_with fail
          go_ret2
          exact ⟨_, _, _, rfl, Ints.nil _ _, HB.out, fun h => (by cases h), fun p hV h => (HF.out p hV h).elim⟩
      · have hp' : primeB n = false := by simpa using hp
        have HF : Hid (∀ p, ValidP p → s.data.toList = ordT p → False) := fun p hV h => by
          obtain ⟨e1, _, e3⟩ := HP.out p hV h
          have hq := List.all_eq_true.1 (ordB_true hV.ord).1 _ (getD_mem (xs := p.orders) (k := i) e1)
          rw [HV.out] at e3
          rw [r_at, ← e3, hp'] at hq
          cases hq
        rw [hp']
        clear hI hB hp hp'
        go_wp2_with fail
        go_ret2
        exact ⟨_, _, _, rfl, Ints.nil _ _, HB.out, fun h => (by cases h), fun p hV h => (HF.out p hV h).elim⟩
    · obtain rfl : i = ss.length := by omega
      obtain ⟨oa, oc, rfl, _, _⟩ := hI.form
      have HI := Lib.hid hI
      have HF : Hid (∀ p, ValidP p → s.data.toList = ordT p → decide (prodS os ≤ 729) = true ∧ os = p.orders) := fun p hV h => by
        have e : os = p.orders := by
          rw [HOS.out, List.take_length]
          exact ords_all hV (by rw [HSS.out, h]) (HN.out p hV h)
        have h2 := ordB_true hV.ord
        exact ⟨by rw [e, h2.2.1]; simp; omega, e⟩
      have HPR := Lib.hid hpr
      have HOL : Hid (os.length ≤ 6) := (by omega : os.length ≤ 6)
      clear hI hB hol
      go_wp2_with fail
      refine (s_l07Product _ os _ HI.out.rd HPR.out).mono ?_
      rintro e w5 ⟨rfl, rfl⟩
      go_wp2_with fail
      go_ret2
      exact ⟨_, _, _, rfl, HI.out, HB.out, fun _ => ⟨HOL.out, HPR.out⟩, HF.out⟩
--== end
end Go.Proofs.YtgcmhkihonadmaaGreatDoor
