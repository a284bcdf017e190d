/-
  The program reads the text of an abelian group.
-/
import Derived.Test.YtnedihpppbjmdaaGreatDoorAgh
import Derived.Test.YtnedihpppbjmdaaGreatDoorAge
namespace Go.Proofs.YtnedihpppbjmdaaGreatDoor
set_option linter.unusedVariables false
set_option linter.unusedSimpArgs false
set_option maxRecDepth 100000
open Go.RowKit Go.PlainAid

/-- word number i of a group's text -/
theorem atw_at {fs : List Nat} {r i : Nat} (h : i < fs.length) : (atw fs r)[i]? = some (67 :: Lib.decDigits (fs.getD i 0)) := by
  unfold atw
  rw [List.getElem?_append_left (by simpa using h), List.getElem?_map, List.getElem?_eq_getElem h, List.getD_eq_getElem?_getD, List.getElem?_eq_getElem h]; rfl
theorem atw_z {fs : List Nat} {r i : Nat} (h : fs.length ≤ i) (h2 : i < fs.length + r) : (atw fs r)[i]? = some [90] := by
  unfold atw
  rw [List.getElem?_append_right (by simpa using h), List.getElem?_replicate, List.length_map, if_pos (by omega)]
theorem strs_word {ss : List ByteArray} {l : List Txt} (h : ss.map (·.data.toList) = l) {i : Nat} {t : Txt} (ht : l[i]? = some t) : ∃ x, ss[i]? = some x ∧ x.data.toList = t := by
  rw [← h, List.getElem?_map] at ht
  cases hx : ss[i]? with
  | none => rw [hx] at ht; cases ht
  | some x => rw [hx] at ht; exact ⟨x, rfl, Option.some.inj ht⟩
theorem b2_set0 {w : World} {b : Nat} {v1 v2 : Value} (h : B2 w b v1 v2) (x : Value) : B2 (w.setCell ⟨b, 0, none⟩ x) b x v2 := by
  have h1 := heap_setCell_same w b 0 #[v1, v2] _ x h
  unfold B2; rw [h1]; simp
theorem b2_set1 {w : World} {b : Nat} {v1 v2 : Value} (h : B2 w b v1 v2) (x : Value) : B2 (w.setCell ⟨b, 1, none⟩ x) b v1 x := by
  have h1 := heap_setCell_same w b 1 #[v1, v2] _ x h
  unfold B2; rw [h1]; simp
/-- a group that a reader makes in box bb -/
structure RA (bb : Nat) (w2 : World) (fs : List Nat) (r : Int) (v : Value) (wr : World) : Prop where
  bx : B2 wr bb v (.int .i64 r)
  own : Ints wr w2.heap.size v (nI fs)
  chg : Chg bb (bb + 1) w2 wr
  hb : bb < w2.heap.size
theorem RA.bel {bb : Nat} {w2 : World} {fs : List Nat} {r : Int} {v : Value} {wr w' : World} (h : RA bb w2 fs r v wr) (hb : Below wr.heap.size wr w') : RA bb w2 fs r v w' :=
  ⟨h.bx.below hb h.bx.lt, h.own.below hb, h.chg.bel hb, h.hb⟩
theorem RA.ne {bb : Nat} {w2 : World} {fs : List Nat} {r : Int} {v : Value} {wr : World} (h : RA bb w2 fs r v wr) : ∀ g, v.ownBlock = some g → w2.heap.size ≤ g := fun g hg => (h.own.lt g hg).1
theorem RA.len {bb : Nat} {w2 : World} {fs : List Nat} {r : Int} {v : Value} {wr : World} (h : RA bb w2 fs r v wr) {n : Nat} (hn : fs.length = n) : ∃ ao cap, v = .slice ao n cap := by
  obtain ⟨ao, cap, e, _⟩ := rd_formN h.own.rd (n := n) (by rw [nI_length, hn]); exact ⟨ao, cap, e⟩
theorem RA.grow {bb : Nat} {w2 : World} {fs fs9 : List Nat} {r : Int} {v v9 : Value} {wr w9 : World} (h : RA bb w2 fs r v wr) (hI : Ints w9 w2.heap.size v9 (nI fs9)) (hG : Grew wr w9 v v9) :
    RA bb w2 fs9 r v9 (w9.setCell ⟨bb, 0, none⟩ v9) ∧ w9.cell? ⟨bb, 0, none⟩ = some v ∧ w9.frozen? ⟨bb, 0, none⟩ = false ∧ bb < w9.heap.size := by
  have hx : B2 w9 bb v (.int .i64 r) := (hG.grown.block bb h.bx.lt (fun e => by have := h.ne bb e.symm; have := h.hb; omega)).trans h.bx
  have hsz : wr.heap.size ≤ w9.heap.size := hG.grown.size
  have hs2 := h.chg.size
  have hb := h.hb
  refine ⟨⟨b2_set0 hx v9, own_of_block hI fun g hg => heap_setCell_other w9 ⟨bb, 0, none⟩ g v9 (by have := (hI.lt g hg).1; show g ≠ bb; omega), ⟨hG.grown.os.trans h.chg.os, hG.grown.tape.trans h.chg.tape, hG.grown.output.trans h.chg.output, by simp; omega, fun k hk hn => ?_⟩, hb⟩, hx.c0, hx.f 0, hx.lt⟩
  rw [heap_setCell_other w9 ⟨bb, 0, none⟩ k v9 (by show k ≠ bb; omega), hG.grown.block k (by omega) (fun e => by have := h.ne k e.symm; omega)]
  exact h.chg.block k hk hn
theorem RA.setR {bb : Nat} {w2 : World} {fs : List Nat} {r : Int} {v : Value} {wr : World} (h : RA bb w2 fs r v wr) (r9 : Int) : RA bb w2 fs r9 v (wr.setCell ⟨bb, 1, none⟩ (.int .i64 r9)) where
  bx := b2_set1 h.bx _
  own := own_of_block h.own fun g hg => heap_setCell_other wr ⟨bb, 1, none⟩ g _ (by have := h.ne g hg; have := h.hb; show g ≠ bb; omega)
  chg := ⟨h.chg.os, h.chg.tape, h.chg.output, by simp; exact h.chg.size, fun k hk hn => by
    rw [heap_setCell_other wr ⟨bb, 1, none⟩ k _ (by show k ≠ bb; omega)]; exact h.chg.block k hk hn⟩
  hb := h.hb
theorem RA.be {b : Nat} {w0 w2 : World} {fs : List Nat} {r : Int} {v : Value} {wr : World} (h : RA (b + 1) w2 fs r v wr) (h0 : Below b w0 w2) : Below b w0 wr :=
  h0.trans (h.chg.below (by omega) (by have := h.hb; omega))
theorem RA.done {w0 w2 : World} {fs : List Nat} {r : Int} {v : Value} {wr : World} (h : RA (w0.heap.size + 1) w2 fs r v wr) (hX : B2 wr w0.heap.size (.slice none 0 0) (.int .i64 0)) (hb : Below w0.heap.size w0 wr) :
    B2 ((wr.setCell ⟨w0.heap.size, 0, none⟩ v).setCell ⟨w0.heap.size, 1, none⟩ (.int .i64 r)) w0.heap.size v (.int .i64 r) ∧ Ints ((wr.setCell ⟨w0.heap.size, 0, none⟩ v).setCell ⟨w0.heap.size, 1, none⟩ (.int .i64 r)) w0.heap.size v (nI fs) ∧
      Below w0.heap.size w0 ((wr.setCell ⟨w0.heap.size, 0, none⟩ v).setCell ⟨w0.heap.size, 1, none⟩ (.int .i64 r)) :=
  ⟨hX.set _ _, (h.own.chg (chg_set2 _ _ _ _) fun g hg => .inr (by have := h.ne g hg; have := h.hb; omega)).mono (by have := h.hb; omega), below_set2 hb (Nat.le_refl _) _ _⟩
theorem neq_nnX (w : World) : (binOp .neq 49 .nilIface .nilIface).run Tryz.prog w = .ok (.bool false) w := by
  simp [binOp, run_equal_nil_nil _ _ (show Tryz.prog.underlying 49 = some (.interface (Tryz.prog.methodsAt 49)) by kernel_rfl), go_sem]
--== impl.ReadAbelian
set_option maxHeartbeats 4000000 in
theorem i_ReadAbelian (s : ByteArray) (fs : List Nat) (r : Nat) (w : World) (ha : abP fs (r : Int)) (hs : s.data.toList = atx fs r) (hF : FmtOK w) (hM : MaxL w) : Calls Tryz.prog 11 #[.string s] w (RetAb w fun fs' r' k' => fs' = fs ∧ r' = (r : Int) ∧ k' = 0) := by
  obtain ⟨i0, hi, hz0, hz1, hz2⟩ := info_parts Tryz.info2
  have hbl := below_size (below_alloc w (.cells #[.slice none 0 0, .int .i64 0] 26)) (below_alloc _ (.cells #[.slice none 0 0, .int .i64 0] 26))
  have HX1 : Hid (B2 ((w.alloc (.cells #[.slice none 0 0, .int .i64 0] 26)).alloc (.cells #[.slice none 0 0, .int .i64 0] 26)) w.heap.size (.slice none 0 0) (.int .i64 0)) := (B2.new w _ _).alloc _
  have HX2 : Hid (B2 ((w.alloc (.cells #[.slice none 0 0, .int .i64 0] 26)).alloc (.cells #[.slice none 0 0, .int .i64 0] 26)) (w.heap.size + 1) (.slice none 0 0) (.int .i64 0)) := by
    have h := B2.new (w.alloc (.cells #[.slice none 0 0, .int .i64 0] 26)) (.slice none 0 0) (.int .i64 0)
    rwa [show (w.alloc (.cells #[.slice none 0 0, .int .i64 0] 26)).heap.size = w.heap.size + 1 by simp] at h
  have HZ1 : Hid (w.heap.size + 2 ≤ ((w.alloc (.cells #[.slice none 0 0, .int .i64 0] 26)).alloc (.cells #[.slice none 0 0, .int .i64 0] 26)).heap.size) := by show _ ≤ _; simp
  have HM1 := Lib.hid (hM.below hbl)
  have HBL := Lib.hid hbl
  have h10 : fs.length + r ≤ 10 := by have := ha.1; have := ha.2.1; omega
  obtain ⟨nf, hnf⟩ : ∃ n, fs.length = n := ⟨_, rfl⟩
  have HNF := Lib.hid hnf
  have HFB : Hid (∀ f ∈ fs, f ≤ 1000000) := fun f hf => (ha.chn.1 f hf).2
  have HS := Lib.hid hs
  rw [hnf] at h10
  have hsl : s.size ≤ 110 := by
    rw [ba_size, hs]
    unfold atx
    split
    · simp
    · have h := join_le (atw fs r) (fun x hx => by
        rcases atw_mem hx with ⟨f, hf, rfl⟩ | rfl
        · have := dec_len8 (HFB.out f hf); simp; omega
        · simp)
      rw [atw_len, hnf] at h
      omega
  have HIS : Hid (∀ (v : Value) (wx : World), Rd wx v (nI fs) → Calls Tryz.prog 16 #[.agg #[v, .int .i64 (r : Int)]] wx (RetB wx (abP fs (r : Int)))) := fun v wx hr => i_IsAbelian v fs r wx hr (fun f hf => by have := HFB.out f hf; omega) (by omega) (by omega) (by omega)
  have HTX : Hid (∀ (v : Value) (wx : World), Rd wx v (nI fs) → Below w.heap.size w wx → Calls Tryz.prog 20 #[.agg #[v, .int .i64 (r : Int)]] wx (RetTx wx (atx fs r))) := fun v wx hr hb => i_abelianText v fs r wx hr HFB.out (hF.below hb) (by omega) (by omega)
  have HAB := Lib.hid ha
  obtain ⟨rI, hrI⟩ : ∃ x : Int, (r : Int) = x := ⟨_, rfl⟩
  have HRI := Lib.hid hrI
  rw [hrI] at HIS HTX HAB ⊢
  clear hbl hF hM ha hnf hs
  go_enter Tryz.func11, Tryz.ntmps11
  by_cases h0 : atw fs r = []
  case pos =>
    have hone : (s.toList == [49]) = true := by rw [beq_iff_eq, ByteArray.toList_eq, HS.out]; exact atx_one.2 h0
    have hl := congrArg List.length h0
    rw [atw_len, List.length_nil] at hl
    obtain rfl : fs = [] := List.eq_nil_of_length_eq_zero (by omega)
    have hr0 : rI = 0 := by omega
    subst hr0
    have HRA : Hid (RA (w.heap.size + 1) ((w.alloc (.cells #[.slice none 0 0, .int .i64 0] 26)).alloc (.cells #[.slice none 0 0, .int .i64 0] 26)) [] 0 (.slice none 0 0) ((w.alloc (.cells #[.slice none 0 0, .int .i64 0] 26)).alloc (.cells #[.slice none 0 0, .int .i64 0] 26))) :=
      ⟨HX2.out, Ints.nil _ _, Chg.refl _ _ _, by have := HZ1.out; omega⟩
    have HX := HX1
    have HBE := HBL
    clear h0 hl hrI HX1 HX2 HM1 HBL HZ1
    go_wp2_with fail
    refine (HIS.out _ _ HRA.out.own.rd).mono ?_
    rintro e wa ⟨b, rfl, hb, hBa⟩
    obtain rfl : b = true := hb.2 HAB.out
    have HRA2 := Lib.hid (HRA.out.bel hBa)
    have HX2 := Lib.hid (HX.out.below hBa HX.out.lt)
    have HBE2 := Lib.hid (below_size HBE.out hBa)
    have c0 := HRA2.out.bx.c0
    have c1 := HRA2.out.bx.c1
    clear hb hBa HRA HX HBE
    go_wp2_with fail
    clear c0 c1
    refine (HTX.out _ _ HRA2.out.own.rd HBE2.out).mono ?_
    rintro e wb ⟨t, rfl, ht, hBb⟩
    obtain rfl : t = s := ba_ext (ht.trans HS.out.symm)
    have HRA3 := Lib.hid (HRA2.out.bel hBb)
    have HX3 := Lib.hid (HX2.out.below hBb HX2.out.lt)
    have HBE3 := Lib.hid (below_size HBE2.out hBb)
    have c0 := HRA3.out.bx.c0
    have c1 := HRA3.out.bx.c1
    clear ht hBb HRA2 HX2 HBE2
    have z0 := HX3.out.c0
    have z1 := HX3.out.c1
    have f0 := HX3.out.f 0
    have f1 := HX3.out.f 1
    obtain ⟨q, hq1, hq2⟩ := HRA3.out.done HX3.out HBE3.out
    have q0 := q.c0
    have q1 := q.c1
    have HQ1 := Lib.hid hq1
    have HQ2 := Lib.hid hq2
    have hsz := HX3.out.lt
    clear q hq1 hq2 HRA3 HX3 HBE3
    go_wp2_with fail
    refine bodyPost_ret (v := .tuple #[.agg #[.slice none 0 0, .int .i64 0], .int .i64 0]) (by simp [results, Tryz.results11, go_sem, q0, q1]) rfl ?_
    exact ⟨_, _, _, 0, rfl, HQ1.out, ⟨rfl, rfl, rfl⟩, HQ2.out⟩
  case neg =>
    have hone : (s.toList == [49]) = false := by
      rw [beq_eq_false_iff_ne, ne_eq, ByteArray.toList_eq, HS.out]; exact fun h => h0 (atx_one.1 h)
    have HSP : Hid (∀ wx, MaxL wx → Calls Tryz.prog 22 #[.string s, .string ⟨#[32, 120, 32]⟩] wx (RetStrs wx (atw fs r))) := fun wx hx => by
      have h := f_SplitX hx s ⟨#[32, 120, 32]⟩ (by omega) (by decide)
      rw [HS.out, show (⟨#[32, 120, 32]⟩ : ByteArray).data.toList = sepX from rfl, split_atx h0] at h
      exact h
    have HAN : Hid (∀ i, (atw fs r)[i]? = if i < nf then some (67 :: Lib.decDigits (fs.getD i 0)) else if i < nf + r then some [90] else none) := fun i => by
      split
      · exact atw_at (by rw [HNF.out]; assumption)
      · split
        · exact atw_z (by rw [HNF.out]; omega) (by rw [HNF.out]; assumption)
        · exact List.getElem?_eq_none (by rw [atw_len, HNF.out]; omega)
    have hne : nf + r ≠ 0 := fun h => h0 (List.eq_nil_of_length_eq_zero (by rw [atw_len, HNF.out]; exact h))
    clear hrI h0
    go_wp2_with fail
    generalize (w.alloc (.cells #[.slice none 0 0, .int .i64 0] 26)).alloc (.cells #[.slice none 0 0, .int .i64 0] 26) = w1 at *
    refine (HSP.out _ HM1.out).mono ?_
    rintro e w2 ⟨sv, ss, rfl, hSS, hss, hB2⟩
    have HWL : Hid (ss.length = nf + r) := by
      have h := strs_len hss
      rw [atw_len, HNF.out] at h
      exact h
    obtain ⟨sa, sc, rfl, hsc⟩ := hSS.formN HWL.out
    have HSS := Lib.hid hss
    have HSR := Lib.hid hSS
    have HX3 : Hid (B2 w2 w.heap.size (.slice none 0 0) (.int .i64 0)) := HX1.out.below hB2 HX1.out.lt
    have HRA0 : Hid (RA (w.heap.size + 1) w2 (fs.take 0) ((0 - nf : Nat) : Int) (.slice none 0 0) w2) := ⟨by rw [Nat.zero_sub]; exact HX2.out.below hB2 HX2.out.lt, Ints.nil _ _, Chg.refl _ _ _, by have := HZ1.out; have := hB2.size; omega⟩
    have HW2 : Hid (Below w.heap.size w w2) := below_size HBL.out hB2
    clear hss hSS hB2 HM1 HSP HX1 HX2 HBL
    go_wp2_with fail
    go_loopw [17] (fun t wr => ∃ (i : Nat) (v : Value), t = .int .i64 i ∧ i ≤ nf + r ∧ RA (w.heap.size + 1) w2 (fs.take i) ((i - nf : Nat) : Int) v wr) (fun t _ => nf + r - (intOf t).toNat)
    case atStart => exact ⟨0, _, rfl, Nat.zero_le _, HRA0.out⟩
    case round =>
      clear HRA0
      obtain ⟨i, v, rfl, hin, hA⟩ := hrel
      have HA := Lib.hid hA
      clear hA
      by_cases hlt : i < nf + r
      · by_cases hif : i < nf
        · obtain ⟨x, hxs, hxt⟩ := strs_word HSS.out (show (atw fs r)[i]? = some (67 :: Lib.decDigits (fs.getD i 0)) by rw [HAN.out, if_pos hif])
          obtain ⟨g, hg, hgl, hgw, hgc⟩ := HSR.out.at hxs
          subst hg
          have hgz := HZ1.out
          have hc := (World.cell?_of_block (HA.out.chg.block g hgw (.inr (by omega)))).trans hgc
          have hq10 := HFB.out (fs.getD i 0) (getD_mem_nat (by rw [HNF.out]; exact hif))
          have HTK : Hid (fs.take (i + 1) = fs.take i ++ [fs.getD i 0]) := by
            show _ = _
            have hl : i < fs.length := by rw [HNF.out]; exact hif
            rw [List.take_add_one, List.getElem?_eq_getElem hl, Option.toList_some, show fs.getD i 0 = fs[i] from by rw [List.getD_eq_getElem?_getD, List.getElem?_eq_getElem hl]; rfl]
          generalize fs.getD i 0 = q at *
          have hz : (x.toList == [90]) = false := by
            rw [beq_eq_false_iff_ne, ne_eq, ByteArray.toList_eq, hxt]
            intro h
            exact absurd (List.cons.inj h).1 (by decide)
          have HTL : Hid ((fs.take i).length = i) := by show _ = _; rw [List.length_take, HNF.out, Nat.min_eq_left (by omega)]
          obtain ⟨av, cv, hv⟩ := HA.out.len HTL.out
          subst hv
          have HCC := Lib.hid (f_CutC x q hxt wr)
          clear hgc hxt hxs hgl hgw hgz
          go_wp2_with fail
          clear hc hz
          refine HCC.out.mono ?_
          rintro e w3 ⟨t, rfl, ht, hB3⟩
          have HA3 := Lib.hid (HA.out.bel hB3)
          have HPC := Lib.hid (f_ParseDec t q hq10 ht w3)
          clear hB3 ht HCC
          go_wp2_with fail
          refine HPC.out.mono ?_
          rintro e w4 ⟨rfl, hB4⟩
          have HA4 := Lib.hid (HA3.out.bel hB4)
          have c0 := HA4.out.bx.c0
          have hsz := HA4.out.chg.size
          have hI := HA4.out.own
          have hnn := neq_nnX
          clear hB4 HPC HA3
          go_wp2_with (at_builtin; refine wp_app1 _ rfl _ _ rfl w2.heap.size i0 Tryz.underlying24 hi hz0 hz1 hz2 _ _ rfl hI (q : Int) rfl (by rw [nI_length, HTL.out]; omega) hsz ?_)
          intro v9 w9 hI9 hG9 hB9
          have hI10 : Ints w9 w2.heap.size v9 (nI (fs.take (i + 1))) := by rw [HTK.out, nI_snoc]; exact hI9
          obtain ⟨a9, p9, rfl, _, _⟩ := rd_formN hI10.rd (n := i + 1) (by rw [nI_length, HTK.out, List.length_append, HTL.out]; rfl)
          obtain ⟨hA9, c9, f9, l9⟩ := HA4.out.grow hI10 hG9
          have HA9 := Lib.hid hA9
          clear hI9 hG9 hB9 hI10 hA9 hI c0 hnn
          go_wp2_with fail
          go_roundw
          case rel => exact ⟨i + 1, _, by go_num, by omega, by
            have h := HA9.out
            rw [show i - nf = i + 1 - nf by omega] at h
            exact h⟩
          case measure => simp [intOf]; omega
        · obtain ⟨x, hxs, hxt⟩ := strs_word HSS.out (show (atw fs r)[i]? = some [90] by rw [HAN.out, if_neg hif, if_pos hlt])
          obtain ⟨g, hg, hgl, hgw, hgc⟩ := HSR.out.at hxs
          subst hg
          have hgz := HZ1.out
          have hc := (World.cell?_of_block (HA.out.chg.block g hgw (.inr (by omega)))).trans hgc
          have hz : (x.toList == [90]) = true := by rw [beq_iff_eq, ByteArray.toList_eq, hxt]
          obtain ⟨K, hK⟩ : ∃ K, i - nf = K := ⟨_, rfl⟩
          have hK1 : i + 1 - nf = K + 1 := by omega
          have hK2 : K ≤ 10 := by omega
          have HK1 := Lib.hid hK1
          have HTK : Hid (fs.take (i + 1) = fs.take i) := by
            show _ = _
            rw [List.take_of_length_le (by rw [HNF.out]; omega), List.take_of_length_le (by rw [HNF.out]; omega)]
          rw [hK] at HA
          have c1 := HA.out.bx.c1
          have f1 := HA.out.bx.f 1
          have HA9 := Lib.hid (HA.out.setR ((K : Int) + 1))
          have hl9 := HA.out.bx.lt
          clear hgc hxt hxs hgl hgw hgz hK hK1
          go_wp2_with fail
          go_roundw
          case rel => exact ⟨i + 1, v, by go_num, by omega, by
            have h := HA9.out
            rw [HTK.out, HK1.out, Int.natCast_add]
            exact h⟩
          case measure => simp [intOf]; omega
      · obtain rfl : i = nf + r := by omega
        have HRA : Hid (RA (w.heap.size + 1) w2 fs rI v wr) := by
          have h := HA.out
          rw [List.take_of_length_le (by rw [HNF.out]; omega), Nat.add_sub_cancel_left, HRI.out] at h
          exact h
        obtain ⟨av, cv, hv⟩ := HRA.out.len HNF.out
        subst hv
        have HBE : Hid (Below w.heap.size w wr) := HRA.out.be HW2.out
        have HX : Hid (B2 wr w.heap.size (.slice none 0 0) (.int .i64 0)) := (HRA.out.chg.block _ HX3.out.lt (.inl (Nat.lt_succ_self _))).trans HX3.out
        have c0 := HRA.out.bx.c0
        have c1 := HRA.out.bx.c1
        clear HA HX3 HW2 HSR HSS HWL HAN
        go_wp2_with fail
        clear c0 c1
        refine (HIS.out _ _ HRA.out.own.rd).mono ?_
        rintro e wa ⟨b, rfl, hb, hBa⟩
        obtain rfl : b = true := hb.2 HAB.out
        have HRA2 := Lib.hid (HRA.out.bel hBa)
        have HX2 := Lib.hid (HX.out.below hBa HX.out.lt)
        have HBE2 := Lib.hid (below_size HBE.out hBa)
        have c0 := HRA2.out.bx.c0
        have c1 := HRA2.out.bx.c1
        clear hb hBa HRA HX HBE
        go_wp2_with fail
        clear c0 c1
        refine (HTX.out _ _ HRA2.out.own.rd HBE2.out).mono ?_
        rintro e wb ⟨t, rfl, ht, hBb⟩
        obtain rfl : t = s := ba_ext (ht.trans HS.out.symm)
        have HRA3 := Lib.hid (HRA2.out.bel hBb)
        have HX3 := Lib.hid (HX2.out.below hBb HX2.out.lt)
        have HBE3 := Lib.hid (below_size HBE2.out hBb)
        have c0 := HRA3.out.bx.c0
        have c1 := HRA3.out.bx.c1
        clear ht hBb HRA2 HX2 HBE2
        have z0 := HX3.out.c0
        have z1 := HX3.out.c1
        have f0 := HX3.out.f 0
        have f1 := HX3.out.f 1
        obtain ⟨q, hq1, hq2⟩ := HRA3.out.done HX3.out HBE3.out
        have q0 := q.c0
        have q1 := q.c1
        have HQ1 := Lib.hid hq1
        have HQ2 := Lib.hid hq2
        have hsz := HX3.out.lt
        clear q hq1 hq2 HRA3 HX3 HBE3
        go_wp2_with fail
        refine bodyPost_ret (v := .tuple #[.agg #[.slice av nf cv, .int .i64 rI], .int .i64 0]) (by simp [results, Tryz.results11, go_sem, q0, q1]) rfl ?_
        exact ⟨_, _, _, 0, rfl, HQ1.out, ⟨rfl, rfl, rfl⟩, HQ2.out⟩
end Go.Proofs.YtnedihpppbjmdaaGreatDoor
