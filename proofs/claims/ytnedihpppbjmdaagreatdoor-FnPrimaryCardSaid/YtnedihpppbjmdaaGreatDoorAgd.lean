/-
  The reference's text of an abelian group.
-/
import Derived.Test.YtnedihpppbjmdaaGreatDoorAgc
import Derived.Laws.Strings
namespace Go.Proofs.YtnedihpppbjmdaaGreatDoor
set_option linter.unusedVariables false
set_option linter.unusedSimpArgs false
set_option maxRecDepth 100000
open Go.RowKit Go.PlainAid

--== spec.l05Text
set_option maxHeartbeats 8000000 in
theorem s_l05Text (v : Value) (fs : List Nat) (r : Nat) (w : World) (hv : Rd w v (nI fs)) (hf : ∀ f ∈ fs, f ≤ 1000000) (hn : fs.length ≤ 10) (hr : r ≤ 10) : Calls Tryz.prog 21 #[.agg #[v, .int .i64 (r : Int)]] w (RetTx w (atx fs r)) := by
  have HV := Lib.hid hv
  have HF := Lib.hid hf
  obtain ⟨ao, cap, rfl, _, _⟩ := hv.form
  rw [nI_length] at *
  obtain ⟨nf, hnf⟩ : ∃ n, fs.length = n := ⟨_, rfl⟩
  have HNF := Lib.hid hnf
  rw [hnf] at hn HV ⊢
  have HB0 := Lib.hid (below_alloc w (.cells #[.slice ao nf cap, .int .i64 (r : Int)] 26))
  clear hv hf hnf
  go_enter Tryz.func21, Tryz.ntmps21
  go_wp2_with fail
  go_loopw [3, 4] (fun u t wr => ∃ (i : Nat) (s : ByteArray), u = .string s ∧ t = .int .i64 i ∧ i ≤ nf ∧ s.data.toList = Lib.joinTail sepX ((fs.take i).map (fun f => 67 :: Lib.decDigits f)) ∧ s.size ≤ 11 * i ∧ wr.cell? ⟨w.heap.size, 0, none⟩ = some (.slice ao nf cap) ∧ wr.cell? ⟨w.heap.size, 1, none⟩ = some (.int .i64 (r : Int)) ∧ Below w.heap.size w wr) (fun _ t _ => nf - (intOf t).toNat)
  case atStart => exact ⟨0, _, rfl, rfl, Nat.zero_le _, rfl, Nat.zero_le _, by simp, by simp, HB0.out⟩
  case round =>
    clear HB0
    obtain ⟨i, s, rfl, rfl, hin, hs, hsz, hx0, hx1, hB⟩ := hrel
    have HS := Lib.hid hs
    have HX0 := Lib.hid hx0
    have HX1 := Lib.hid hx1
    have HB := Lib.hid hB
    clear hs
    by_cases hlt : i < nf
    · obtain ⟨b0, o0, rfl, hc⟩ := (HV.out.below hB).at (j := i) (by rw [nI_length, HNF.out]; exact hlt)
      rw [nI_getD] at hc
      have hfi := HF.out (fs.getD i 0) (getD_mem_nat (by rw [HNF.out]; exact hlt))
      have HTK : Hid ((fs.take (i + 1)).map (fun f => 67 :: Lib.decDigits f) = (fs.take i).map (fun f => 67 :: Lib.decDigits f) ++ [67 :: Lib.decDigits (fs.getD i 0)]) := by
        show _ = _
        have hl : i < fs.length := by rw [HNF.out]; exact hlt
        rw [List.take_add_one, List.getElem?_eq_getElem hl, Option.toList_some, List.map_append, List.map_cons, List.map_nil, show fs.getD i 0 = fs[i] from by rw [List.getD_eq_getElem?_getD, List.getElem?_eq_getElem hl]; rfl]
      generalize fs.getD i 0 = q at *
      have hD8 := dec_len8 hfi
      have hz1 : ¬ 9223372036854775807 < s.size + 4 := by omega
      have i1 : (0 : Int) ≤ (i : Int) := by omega
      have i2 : (i : Int) < (nf : Int) := by omega
      clear hB
      go_wp2_with fail
      clear hc
      refine (s_l01Dec q wr hfi).mono ?_
      rintro e w5 ⟨t, rfl, ht, hB5⟩
      have hz : t.size ≤ 7 := by rw [ba_size, ht]; exact hD8
      have hz2 : ¬ 9223372036854775807 < s.size + 4 + t.size := by omega
      have HX5 : Hid (w5.cell? ⟨w.heap.size, 0, none⟩ = some (.slice (some ⟨b0, o0, none⟩) nf cap) ∧ w5.cell? ⟨w.heap.size, 1, none⟩ = some (.int .i64 (r : Int))) := ⟨below_cells hB5 _ _ HX0.out, below_cells hB5 _ _ HX1.out⟩
      have HB5 := Lib.hid (below_size HB.out hB5)
      have HS5 : Hid ((s ++ (⟨#[32, 120, 32, 67]⟩ : ByteArray) ++ t).data.toList = Lib.joinTail sepX ((fs.take (i + 1)).map (fun f => 67 :: Lib.decDigits f))) := by
        show _ = _
        rw [ba_app, ba_app, HS.out, HTK.out, ht]
        simp [Lib.joinTail, sepX]
      have HZ5 : Hid ((s ++ (⟨#[32, 120, 32, 67]⟩ : ByteArray) ++ t).size ≤ 11 * (i + 1)) := by
        have e4 : (⟨#[32, 120, 32, 67]⟩ : ByteArray).size = 4 := rfl
        show _ ≤ _
        rw [ByteArray.size_append, ByteArray.size_append, e4]; omega
      clear ht hB5 hD8 hx0 hx1
      go_wp2_with fail
      go_roundw
      case rel => exact ⟨i + 1, _, rfl, by go_num, by omega, HS5.out, HZ5.out, HX5.out.1, HX5.out.2, HB5.out⟩
      case measure => simp [intOf]; omega
    · obtain rfl : nf = i := by omega
      have HS0 : Hid (s.data.toList = Lib.joinTail sepX (fs.map (fun f => 67 :: Lib.decDigits f))) := by
        show _ = _
        rw [HS.out, ← HNF.out, List.take_length]
      clear hB HS
      go_wp2_with fail
      obtain ⟨wo, hwo⟩ : ∃ x, x = wr := ⟨_, rfl⟩
      subst hwo
      go_loopw [3, 5] (fun u t wr => ∃ (j : Nat) (s : ByteArray), u = .string s ∧ t = .int .i64 j ∧ j ≤ r ∧ s.data.toList = Lib.joinTail sepX (fs.map (fun f => 67 :: Lib.decDigits f) ++ List.replicate j [90]) ∧ s.size ≤ 11 * nf + 4 * j ∧ wr = wo) (fun _ t _ => r - (intOf t).toNat)
      case atStart => exact ⟨0, s, rfl, rfl, Nat.zero_le _, by rw [HS0.out]; simp, by omega, rfl⟩
      case round =>
        clear HS0 hsz
        obtain ⟨j, t, rfl, rfl, hjr, ht, htz, rfl⟩ := hrel
        have HT := Lib.hid ht
        clear ht
        by_cases hlt2 : j < r
        · have hz1 : ¬ 9223372036854775807 < t.size + 4 := by omega
          have j1 : (j : Int) < (r : Int) := by omega
          have HT5 : Hid ((t ++ (⟨#[32, 120, 32, 90]⟩ : ByteArray)).data.toList = Lib.joinTail sepX (fs.map (fun f => 67 :: Lib.decDigits f) ++ List.replicate (j + 1) [90])) := by
            show _ = _
            rw [ba_app, HT.out, List.replicate_succ', ← List.append_assoc]
            simp [Lib.joinTail, sepX]
          have HZ5 : Hid ((t ++ (⟨#[32, 120, 32, 90]⟩ : ByteArray)).size ≤ 11 * nf + 4 * (j + 1)) := by
            have e4 : (⟨#[32, 120, 32, 90]⟩ : ByteArray).size = 4 := rfl
            show _ ≤ _
            rw [ByteArray.size_append, e4]; omega
          go_wp2_with fail
          go_roundw
          case rel => exact ⟨j + 1, _, rfl, by go_num, by omega, HT5.out, HZ5.out, by first | rfl | trivial⟩
          case measure => simp [intOf]; omega
        · obtain rfl : r = j := by omega
          have HW : Hid (t.data.toList = refT fs r) := HT.out
          by_cases h0 : nf + r = 0
          · have hw0 : atw fs r = [] := List.eq_nil_of_length_eq_zero (by rw [atw_len, HNF.out]; exact h0)
            have HE : Hid (atx fs r = [49]) := atx_one.2 hw0
            have ht0 : t = ⟨#[]⟩ := ba_ext (HW.out.trans (refT_nil.2 hw0))
            subst ht0
            go_wp2_with fail
            go_ret
            exact ⟨_, rfl, HE.out.symm, HB.out⟩
          · have hw0 : atw fs r ≠ [] := fun h => by have h1 := congrArg List.length h; rw [atw_len, HNF.out] at h1; exact h0 h1
            have ht0 : ¬ t = ⟨#[]⟩ := fun h => hw0 (refT_nil.1 (HW.out.symm.trans (by rw [h])))
            have hd := refT_drop hw0
            have ht3 : 3 ≤ t.size := by rw [ba_size, HW.out]; exact hd.2
            have HE : Hid ((t.extract 3 t.size).data.toList = atx fs r) := by
              show _ = _
              rw [← hd.1, ← HW.out]
              rw [ByteArray.data_extract, Array.toList_extract, List.extract_eq_take_drop]
              exact List.take_of_length_le (by rw [List.length_drop, ba_size]; omega)
            have ht1 : t.toList.isEmpty = false := by
              rw [ByteArray.toList_eq]
              cases h : t.data.toList with
              | nil => rw [ba_size, h] at ht3; simp at ht3
              | cons a l => rfl
            have hti : (3 : Int) ≤ (t.size : Int) := by omega
            clear hd hw0
            go_wp2_with fail
            go_ret
            exact ⟨_, rfl, HE.out, HB.out⟩
end Go.Proofs.YtnedihpppbjmdaaGreatDoor
