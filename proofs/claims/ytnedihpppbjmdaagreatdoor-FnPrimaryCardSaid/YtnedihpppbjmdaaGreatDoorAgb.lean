/-
  The program's text of an abelian group.
-/
import Derived.Test.YtnedihpppbjmdaaGreatDoorQbs
import Derived.Test.YtnedihpppbjmdaaGreatDoorAbb
namespace Go.Proofs.YtnedihpppbjmdaaGreatDoor
set_option linter.unusedVariables false
set_option linter.unusedSimpArgs false
set_option maxRecDepth 100000
open Go.RowKit

/-- a call that hands back a text -/
def RetTx (w : World) (t : Tx) (e : Ending) (w' : World) : Prop := ∃ s, e = .returned (.string s) ∧ s.data.toList = t ∧ Below w.heap.size w w'
/-- numbers are written as numerals, from this world on -/
def FmtOK (w : World) : Prop := ∀ wx, Below w.heap.size w wx → ∀ f : Nat, f ≤ 1000000 → Calls Tryz.prog 37 #[.int .i64 (f : Int), .int .i64 10] wx (RetTx wx (Lib.decDigits f))
theorem FmtOK.below {w w' : World} (h : FmtOK w) (hb : Below w.heap.size w w') : FmtOK w' := fun wx hx => h wx (below_size hb hx)
theorem dec_len8 {f : Nat} (h : f ≤ 1000000) : (Lib.decDigits f).length ≤ 7 := dec_len 6 f (by omega)
theorem ba_size (s : ByteArray) : s.size = s.data.toList.length := Array.length_toList.symm
theorem join_le (l : List Tx) (h : ∀ x ∈ l, x.length ≤ 8) : (Lib.join l sepX).length ≤ 11 * l.length := by
  cases l with
  | nil => simp [Lib.join]
  | cons a r =>
    have h2 : ∀ r : List Tx, (∀ x ∈ r, x.length ≤ 8) → (Lib.joinTail sepX r).length ≤ 11 * r.length := by
      intro r
      induction r with
      | nil => intro _; simp [Lib.joinTail]
      | cons b r ih =>
        intro h
        have h3 := ih fun x hx => h x (List.mem_cons_of_mem _ hx)
        have h4 := h b (by simp)
        simp only [Lib.joinTail, List.map_cons, List.flatten_cons, List.length_append] at h3 ⊢
        simp only [sepX, List.length_cons, List.length_nil] at h3 ⊢
        omega
    rw [Lib.join_cons, List.length_append]
    have h3 := h2 r fun x hx => h x (List.mem_cons_of_mem _ hx)
    have h4 := h a (by simp)
    simp only [List.length_cons]; omega
--== impl.abelianText
set_option maxHeartbeats 8000000 in
theorem i_abelianText (v : Value) (fs : List Nat) (r : Nat) (w : World) (hv : Rd w v (nI fs)) (hf : ∀ f ∈ fs, f ≤ 1000000) (hF : FmtOK w) (hn : fs.length ≤ 10) (hr : r ≤ 10) : Calls Tryz.prog 20 #[.agg #[v, .int .i64 (r : Int)]] w (RetTx w (atx fs r)) := by
  have HV := Lib.hid hv
  have HF := Lib.hid hf
  obtain ⟨ao, cap, rfl, _, _⟩ := hv.form
  rw [nI_length] at *
  obtain ⟨nf, hnf⟩ : ∃ n, fs.length = n := ⟨_, rfl⟩
  have HNF := Lib.hid hnf
  rw [hnf] at hn HV ⊢
  have HB0 := Lib.hid (below_alloc w (.cells #[.slice ao nf cap, .int .i64 (r : Int)] 26))
  clear hv hf hnf
  go_enter Tryz.func20, Tryz.ntmps20
  go_wp2_with fail
  have HFO := Lib.hid hF
  clear hF
  go_loopw [3, 9] (fun u t wr => ∃ (i : Nat) (ss : List ByteArray), t = .int .i64 i ∧ i ≤ nf ∧ ss.map (·.data.toList) = (fs.take i).map (fun f => 67 :: Lib.decDigits f) ∧ Strs wr (w.heap.size + 1) u ss ∧ wr.cell? ⟨w.heap.size, 1, none⟩ = some (.int .i64 (r : Int)) ∧ Below w.heap.size w wr) (fun _ t _ => nf - (intOf t).toNat)
  case atStart => exact ⟨0, [], rfl, Nat.zero_le _, rfl, Strs.nil _ _, by simp, HB0.out⟩
  case round =>
    clear HB0
    obtain ⟨i, ss, rfl, hin, hss, hO, hx, hB⟩ := hrel
    have HX := Lib.hid hx
    have hxl : w.heap.size + 1 ≤ wr.heap.size := World.block_lt_of_cell? _ _ hx
    have HSS := Lib.hid hss
    have HSL : Hid (ss.length = i) := by
      have h := congrArg List.length hss
      rw [List.length_map, List.length_map, List.length_take, HNF.out, Nat.min_eq_left hin] at h
      exact h
    have HB := Lib.hid hB
    have HO := Lib.hid hO
    obtain ⟨a4, q4, rfl, hcap⟩ := hO.formN HSL.out
    clear hss hx
    by_cases hlt : i < nf
    · obtain ⟨b0, o0, rfl, hc⟩ := (HV.out.below hB).at (j := i) (by rw [nI_length, HNF.out]; exact hlt)
      rw [nI_getD] at hc
      have hfi := HF.out (fs.getD i 0) (getD_mem_nat (by rw [HNF.out]; exact hlt))
      have HTK : Hid ((fs.take (i + 1)).map (fun f => 67 :: Lib.decDigits f) = (fs.take i).map (fun f => 67 :: Lib.decDigits f) ++ [67 :: Lib.decDigits (fs.getD i 0)]) := by
        show _ = _
        have hl : i < fs.length := by rw [HNF.out]; exact hlt
        rw [List.take_add_one, List.getElem?_eq_getElem hl, Option.toList_some, List.map_append, List.map_cons, List.map_nil, show fs.getD i 0 = fs[i] from by rw [List.getD_eq_getElem?_getD, List.getElem?_eq_getElem hl]; rfl]
      generalize fs.getD i 0 = q at *
      have HFQ : Hid (Calls Tryz.prog 37 #[.int .i64 (q : Int), .int .i64 10] wr (RetTx wr (Lib.decDigits q))) := HFO.out wr hB q hfi
      have hD8 := dec_len8 hfi
      clear hB hO
      go_wp2_with fail
      clear hc
      refine HFQ.out.mono ?_
      rintro e w5 ⟨s, rfl, hs, hB5⟩
      have hz : s.size ≤ 7 := by rw [ba_size, hs]; exact hD8
      have hz2 : ¬ 9223372036854775807 < 1 + s.size := by omega
      have hO5 := HO.out.below hB5
      have HB5 := Lib.hid (below_size HB.out hB5)
      have hBs : w.heap.size + 1 ≤ w5.heap.size := Nat.le_trans hxl hB5.size
      have HX5 : Hid (w5.cell? ⟨w.heap.size, 1, none⟩ = some (.int .i64 (r : Int))) := below_cells hB5 _ _ HX.out
      obtain ⟨v6, w6, hr6, hO6, hB6⟩ := run_appStr w5 (w.heap.size + 1) _ ss hO5 (⟨#[67]⟩ ++ s) (by rw [HSL.out]; omega) hBs
      have HS6 : Hid ((ss ++ [(⟨#[67]⟩ : ByteArray) ++ s]).map (·.data.toList) = (fs.take (i + 1)).map (fun f => 67 :: Lib.decDigits f)) := by
        show _ = _
        rw [List.map_append, HSS.out, HTK.out, List.map_cons, List.map_nil, ba_app, hs]; rfl
      have HB6 := Lib.hid (HB5.out.trans (hB6.mono (Nat.le_succ _)))
      have HX6 : Hid (w6.cell? ⟨w.heap.size, 1, none⟩ = some (.int .i64 (r : Int))) := (hB6.cell (Nat.lt_succ_self _)).trans HX5.out
      clear hs hB5 hO5 hB6 hD8
      go_wp2_with (at_builtin; refine wp_of_run _ rfl _ _ _ rfl _ _ rfl rfl _ _ hr6 ?_)
      go_roundw
      case rel => exact ⟨i + 1, _, by go_num, by omega, HS6.out, hO6, HX6.out, HB6.out⟩
      case measure => simp [intOf]; omega
    · obtain rfl : nf = i := by omega
      have hx := HX.out
      have HS0 : Hid (ss.map (·.data.toList) = fs.map (fun f => 67 :: Lib.decDigits f)) := by
        show _ = _
        rw [HSS.out, ← HNF.out, List.take_length]
      clear hO hB HX HSS
      go_wp2_with fail
      clear hx
      obtain ⟨wo, hwo⟩ : ∃ x, x = wr := ⟨_, rfl⟩
      subst hwo
      go_loopw [3, 22] (fun u t wr => ∃ (j : Nat) (ts : List ByteArray), t = .int .i64 j ∧ j ≤ r ∧ ts.map (·.data.toList) = fs.map (fun f => 67 :: Lib.decDigits f) ++ List.replicate j [90] ∧ Strs wr (w.heap.size + 1) u ts ∧ Below w.heap.size w wr ∧ w.heap.size + 1 ≤ wr.heap.size) (fun _ t _ => r - (intOf t).toNat)
      case atStart => exact ⟨0, ss, rfl, Nat.zero_le _, by rw [HS0.out]; simp, HO.out, HB.out, hxl⟩
      case round =>
        clear HO HB HS0 HSL hxl
        obtain ⟨j, ts, rfl, hjr, hts, hO, hB, hxl⟩ := hrel
        have HTS := Lib.hid hts
        have HTL : Hid (ts.length = nf + j) := by
          have h := congrArg List.length hts
          rw [List.length_map, List.length_append, List.length_map, List.length_replicate, HNF.out] at h
          exact h
        have HB := Lib.hid hB
        have HO := Lib.hid hO
        obtain ⟨a5, q5, rfl, hcap5⟩ := hO.formN HTL.out
        clear hts hB hO
        by_cases hlt2 : j < r
        · obtain ⟨v6, w6, hr6, hO6, hB6⟩ := run_appStr wr (w.heap.size + 1) _ ts HO.out ⟨#[90]⟩ (by rw [HTL.out]; omega) hxl
          have HS6 : Hid ((ts ++ [(⟨#[90]⟩ : ByteArray)]).map (·.data.toList) = fs.map (fun f => 67 :: Lib.decDigits f) ++ List.replicate (j + 1) [90]) := by
            show _ = _
            rw [List.map_append, HTS.out, List.replicate_succ', List.append_assoc]; rfl
          have HB6 := Lib.hid (HB.out.trans (hB6.mono (Nat.le_succ _)))
          have hs6 := Nat.le_trans hxl hB6.size
          clear hB6
          go_wp2_with (at_builtin; refine wp_of_run _ rfl _ _ _ rfl _ _ rfl rfl _ _ hr6 ?_)
          go_roundw
          case rel => exact ⟨j + 1, _, by go_num, by omega, HS6.out, hO6, HB6.out, hs6⟩
          case measure => simp [intOf]; omega
        · obtain rfl : r = j := by omega
          have HW : Hid (ts.map (·.data.toList) = atw fs r) := HTS.out
          by_cases h0 : nf + r = 0
          · have HE : Hid (atx fs r = [49]) := atx_one.2 (List.eq_nil_of_length_eq_zero (by rw [atw_len, HNF.out]; exact h0))
            obtain ⟨h1, h2⟩ : nf = 0 ∧ r = 0 := by omega
            go_wp2_with fail
            go_ret
            exact ⟨_, rfl, HE.out.symm, HB.out⟩
          · have hne : ¬ ((nf : Int) + (r : Int)) = 0 := by omega
            have HJ := Lib.hid (f_Join HO.out (by rw [HTL.out]; omega) (by rw [HTL.out]; omega) ⟨#[32, 120, 32]⟩ (atw fs r) HW.out (by
              have h := join_le (atw fs r) (fun x hx => by
                rcases atw_mem hx with ⟨f, hf, rfl⟩ | rfl
                · have := dec_len8 (HF.out f hf); simp; omega
                · simp)
              rw [atw_len, HNF.out] at h
              exact Nat.le_trans h (by omega)))
            have HE : Hid (Lib.join (atw fs r) sepX = atx fs r) := by
              show _ = _
              unfold atx
              rw [if_neg (fun h => by have h1 := congrArg List.length h; rw [atw_len, HNF.out] at h1; exact h0 h1)]
            go_wp2_with fail
            refine HJ.out.mono ?_
            rintro e w7 ⟨s7, rfl, hs7, hB7⟩
            have HS7 : Hid (s7.data.toList = atx fs r) := hs7.trans HE.out
            have HB7 := Lib.hid (below_size HB.out hB7)
            clear hs7 hB7
            go_wp2_with fail
            go_ret
            exact ⟨_, rfl, HS7.out, HB7.out⟩
end Go.Proofs.YtnedihpppbjmdaaGreatDoor
