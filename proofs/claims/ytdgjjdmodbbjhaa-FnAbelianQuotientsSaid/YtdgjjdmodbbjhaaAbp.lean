/-
  The program's test for quotients.
-/
import Derived.Test.YtdgjjdmodbbjhaaAbo
namespace Go.Proofs.Ytdgjjdmodbbjhaa
set_option linter.unusedVariables false
set_option linter.unusedSimpArgs false
set_option maxRecDepth 100000
open Go.RowKit Go.Maps

--== impl.HasAbelianQuotient
set_option maxHeartbeats 16000000 in
theorem i_HasAbelianQuotient (va vb : Value) (fa fb : List Nat) (ra rb : Int) (w : World) (hva : Rd w va (nI fa)) (hvb : Rd w vb (nI fb)) (hfa : ∀ f ∈ fa, f ≤ 1000000000) (hfb : ∀ f ∈ fb, f ≤ 1000000000) (hna : fa.length ≤ 1000) (hnb : fb.length ≤ 1000)
    (ha1 : -1000 ≤ ra) (ha2 : ra ≤ 1000) (hb1 : -1000 ≤ rb) (hb2 : rb ≤ 1000) : Calls Try.prog 6 #[.agg #[va, .int .i64 ra], .agg #[vb, .int .i64 rb]] w (RetHas w fa ra fb rb) := by
  have HA := Lib.hid hva
  have HB := Lib.hid hvb
  have HIA : Hid (∀ wx, Below w.heap.size w wx → Calls Try.prog 15 #[.agg #[va, .int .i64 ra]] wx (RetB wx (abP fa ra))) := fun wx hx => i_IsAbelian va fa ra wx (hva.below hx) hfa (by omega) ha1 ha2
  have HIB : Hid (∀ wx, Below w.heap.size w wx → Calls Try.prog 15 #[.agg #[vb, .int .i64 rb]] wx (RetB wx (abP fb rb))) := fun wx hx => i_IsAbelian vb fb rb wx (hvb.below hx) hfb (by omega) hb1 hb2
  have HPA : Hid (abP fa ra → ∀ wx, Below w.heap.size w wx → Calls Try.prog 16 #[.agg #[va, .int .i64 ra]] wx (RetInts wx (nI (sortP (parts fa))))) := fun h wx hx => i_primaryParts va fa ra wx (hva.below hx) h.chn.1 (by have := h.1; have := h.2.1; omega)
  have HPB : Hid (abP fb rb → ∀ wx, Below w.heap.size w wx → Calls Try.prog 16 #[.agg #[vb, .int .i64 rb]] wx (RetInts wx (nI (sortP (parts fb))))) := fun h wx hx => i_primaryParts vb fb rb wx (hvb.below hx) h.chn.1 (by have := h.1; have := h.2.1; omega)
  have HLA : Hid (abP fa ra → (sortP (parts fa)).length ≤ 20000) := fun h => by
    have h1 := h.1; have h2 := h.2.1; have h3 := parts_len fa
    rw [(sortP_perm _).length_eq]; omega
  have HLB : Hid (abP fb rb → (sortP (parts fb)).length ≤ 20000) := fun h => by
    have h1 := h.1; have h2 := h.2.1; have h3 := parts_len fb
    rw [(sortP_perm _).length_eq]; omega
  obtain ⟨aa, ca', hea, _, _⟩ := rd_formN hva (nI_length fa)
  obtain ⟨ab, cb', heb, _, _⟩ := rd_formN hvb (nI_length fb)
  subst hea heb
  generalize fa.length = na at *
  generalize fb.length = nb at *
  have hmm := @run_makeMap Try.prog
  have hBa := below_size (below_alloc w (.cells #[.slice aa na ca', .int .i64 ra] 26)) (below_alloc _ (.cells #[.slice ab nb cb', .int .i64 rb] 26))
  have HB0 := Lib.hid hBa
  clear hva hvb hfa hfb hBa
  go_enter Try.func6, Try.ntmps6
  go_wp2_with fail
  refine (HIA.out _ HB0.out).mono ?_
  rintro e w1 ⟨ba, rfl, hba, hB1⟩
  have HBA := Lib.hid hba
  have hx0 : B2 w1 w.heap.size (.slice aa na ca') (.int .i64 ra) := ((B2.new w _ _).alloc _).below hB1 (by simp; omega)
  have hy0 : B2 w1 (w.heap.size + 1) (.slice ab nb cb') (.int .i64 rb) := by
    have h := (B2.new (w.alloc (.cells #[.slice aa na ca', .int .i64 ra] 26)) (.slice ab nb cb') (.int .i64 rb)).below hB1 (by simp)
    rwa [show (w.alloc (.cells #[.slice aa na ca', .int .i64 ra] 26)).heap.size = w.heap.size + 1 by simp] at h
  have HB1 := Lib.hid (below_size HB0.out hB1)
  have hs1 : w.heap.size + 1 < w1.heap.size := hy0.lt
  clear hB1 HB0 HIA hba
  have m0 := hy0.c0
  have m1 := hy0.c1
  have HX0 := Lib.hid hx0
  have HY0 := Lib.hid hy0
  clear hx0 hy0
  cases ba
  · have HO : Hid (HasO fa ra fb rb false 1) := .inr ⟨fun h => by have := HBA.out.2 h.1; simp at this, rfl, rfl⟩
    go_wp2_with fail
    refine bodyPost_ret (v := .tuple #[_, _]) (by simp [results, Try.results6, go_sem]; exact ⟨rfl, rfl⟩) rfl ?_
    exact ⟨false, 1, rfl, HO.out, HB1.out⟩
  · go_wp2_with fail
    refine (HIB.out _ HB1.out).mono ?_
    rintro e w2 ⟨bb, rfl, hbb, hB2⟩
    have HBB := Lib.hid hbb
    have HX1 := Lib.hid (HX0.out.below hB2 (by omega))
    have HY1 := Lib.hid (HY0.out.below hB2 hs1)
    have HB2 := Lib.hid (below_size HB1.out hB2)
    have hs2 : w.heap.size + 1 < w2.heap.size := HY1.out.lt
    clear hB2 HIB HX0 HY0 HB1 m0 m1 hs1 hbb
    cases bb
    · have HO : Hid (HasO fa ra fb rb false 1) := .inr ⟨fun h => by have := HBB.out.2 h.2; simp at this, rfl, rfl⟩
      go_wp2_with fail
      refine bodyPost_ret (v := .tuple #[_, _]) (by simp [results, Try.results6, go_sem]; exact ⟨rfl, rfl⟩) rfl ?_
      exact ⟨false, 1, rfl, HO.out, HB2.out⟩
    · have hA := HBA.out.1 (by trivial)
      have hB := HBB.out.1 (by trivial)
      have hr0 := hA.1
      have hr1 := hB.1
      have HOK : Hid (∀ ok, (ok = true ↔ QD fa fb ra.toNat rb.toNat) → HasO fa ra fb rb ok 0) := fun ok h => .inl ⟨hA, hB, rfl, h⟩
      have m0 := HX1.out.c0
      have m1 := HX1.out.c1
      have m2 := HY1.out.c0
      have m3 := HY1.out.c1
      by_cases hrk : ra < rb
      · have HNO : Hid (¬ QD fa fb ra.toNat rb.toNat) := fun h => by have := h.1; omega
        clear hA hB HPA HPB HLA HLB
        go_wp2_with fail
        refine bodyPost_ret (v := .tuple #[_, _]) (by simp [results, Try.results6, go_sem]; exact ⟨rfl, rfl⟩) rfl ?_
        exact ⟨false, 0, rfl, HOK.out false ⟨fun h => by simp at h, fun h => (HNO.out h).elim⟩, HB2.out⟩
      · obtain ⟨f, hf⟩ : ∃ f : Nat, ra - rb = (f : Int) := ⟨(ra - rb).toNat, by omega⟩
        have hf9 : f ≤ 1000 := by omega
        have HQI := Lib.hid (qi_lf hA.chn hB.chn (ra := ra.toNat) (rb := rb.toNat))
        rw [show ra.toNat - rb.toNat = f by omega] at HQI
        have HRK : Hid (rb.toNat ≤ ra.toNat) := by show _ ≤ _; omega
        have HPA2 := Lib.hid (HPA.out hA)
        have HPB2 := Lib.hid (HPB.out hB)
        have HPWTa : Hid (∀ q ∈ sortP (parts fa), PPw q) := fun q hq => parts_ppw hA.chn.1 q ((sortP_perm _).mem_iff.1 hq)
        have HPWTb : Hid (∀ q ∈ sortP (parts fb), PPw q) := fun q hq => parts_ppw hB.chn.1 q ((sortP_perm _).mem_iff.1 hq)
        have hla := HLA.out hA
        have hlb := HLB.out hB
        clear hA hB HPA HPB HLA HLB HBA HBB
        generalize sortP (parts fa) = Ta at *
        generalize sortP (parts fb) = Tb at *
        obtain ⟨ma, hma⟩ : ∃ n, Ta.length = n := ⟨_, rfl⟩
        obtain ⟨mb, hmb⟩ : ∃ n, Tb.length = n := ⟨_, rfl⟩
        have HMTa := Lib.hid hma
        have HMTb := Lib.hid hmb
        rw [hma, hmb] at HQI
        rw [hma] at hla
        rw [hmb] at hlb
        clear hma hmb
        have n0 := (HX1.out.alloc (.map #[] 0)).c0
        have n1 := (HX1.out.alloc (.map #[] 0)).c1
        go_wp2_with fail
        refine (HPA2.out _ (below_size HB2.out (below_alloc _ _))).mono ?_
        rintro e w6 ⟨u6, rfl, hI6, hB6⟩
        have hsa : (w2.alloc (.map #[] 0)).heap.size = w2.heap.size + 1 := by simp
        rw [hsa] at hI6
        obtain ⟨a6, c6, rfl, _, _⟩ := rd_formN hI6.rd (n := ma) (by rw [nI_length, HMTa.out])
        have HM6 := Lib.hid ((GMap.made w2).below hB6)
        have HB6 : Hid (Below w2.heap.size w2 w6) := below_size (below_alloc w2 _) hB6
        have hs6 : w2.heap.size + 1 ≤ w6.heap.size := by have := hB6.size; rw [hsa] at this; exact this
        have hLT6 : ∀ g, (Value.slice a6 ma c6).ownBlock = some g → g < w6.heap.size := fun g hg => (hI6.lt g hg).2
        clear hsa HPA2 n0 n1 m0 m1 m2 m3

        have HI6 := Lib.hid hI6
        have HLT6 := Lib.hid hLT6
        clear hI6 hLT6 hB6
        go_wp2_with fail
        go_loopw [39] (fun iv wr => ∃ (i : Nat) (D : DataW Value) (vf : Nat → Value), iv = .int .i64 i ∧ i ≤ ma ∧ GMap wr w2.heap.size (Lf Ta i) i D vf ∧ (∀ p g, p ≤ 1000000 → (vf p).ownBlock = some g → w6.heap.size ≤ g) ∧ Ints wr (w2.heap.size + 1) (.slice a6 ma c6) (nI Ta) ∧ Below w2.heap.size w2 wr ∧ w6.heap.size ≤ wr.heap.size) (fun iv _ => ma - (intOf iv).toNat)
        case atStart => exact ⟨0, _, _, rfl, Nat.zero_le _, by rw [Lf_zero]; exact HM6.out, fun p g _ hg => by simp [nilS, Value.ownBlock] at hg, HI6.out, HB6.out, Nat.le_refl _⟩
        case round =>
          clear HM6 HI6 HB6
          obtain ⟨i, D, vf, rfl, hin, hG, hV9, hIr, hB, hsr⟩ := hrel
          have HG := Lib.hid hG
          have HV9 := Lib.hid hV9
          have HB := Lib.hid hB
          have HIR := Lib.hid hIr
          have hsz := hG.own.lt
          clear hG hV9
          by_cases hlt : i < ma
          · have hTl : i < Ta.length := by rw [HMTa.out]; exact hlt
            obtain ⟨b0, o0, rfl, hc⟩ := hIr.rd.at (j := i) (by rw [nI_length]; exact hTl)
            rw [nI_getD] at hc
            have hq := HPWTa.out (Ta.getD i 0) (getD_mem_nat hTl)
            have hq1 : 1 ≤ Ta.getD i 0 ∧ Ta.getD i 0 ≤ 1000000 := ⟨by have := hq.two; omega, hq.1⟩
            have HQ : Hid (bs (Ta.getD i 0) ≤ 1000000) := (bs_le hq).1
            have HF : Hid (∃ e, facN (Ta.getD i 0) = [(bs (Ta.getD i 0), e)]) := let ⟨e, _, _, _, h⟩ := hq.ex; ⟨e, h⟩
            have HLF : Hid (Lf Ta (i + 1) = updL (Lf Ta i) (bs (Ta.getD i 0)) (Ta.getD i 0)) := Lf_step hTl
            clear hq hB hIr hTl
            generalize bs (Ta.getD i 0) = p at *
            generalize Ta.getD i 0 = q at *
            go_wp2_with fail
            clear hc
            refine (i_facW q wr hq1.1 hq1.2).mono ?_
            rintro e w11 ⟨v1, v2, rfl, hI1, hI2, hB1⟩
            obtain ⟨ee, hfe⟩ := HF.out
            rw [hfe] at hI1 hI2
            obtain ⟨a1, c1, rfl, _, _⟩ := rd_formN hI1.rd (n := 1) (by simp [nI])
            obtain ⟨a2, c2, rfl, _, _⟩ := rd_formN hI2.rd (n := 1) (by simp [nI])
            obtain ⟨b1, o1, e1, hc1⟩ := hI1.rd.at (j := 0) (by simp [nI])
            subst e1
            simp only [nI, List.map_cons, List.map_nil, List.getD_cons_zero, Nat.add_zero] at hc1
            have HG1 := HG.out.below hB1.1
            have hI61 := HIR.out.below hB1.1
            have HB1 := Lib.hid (below_size HB.out hB1.1)
            have hsr1 : w6.heap.size ≤ w11.heap.size := Nat.le_trans hsr hB1.1.size
            obtain ⟨a0, n0, c0, v', w3, w14, hvp, hr1', hr2', hr3, hr4, hG2, hB2, hsz2, hkb⟩ := HG1.grow (p := p) (q := q) HQ.out (by omega) 24 (B := w6.heap.size) hs6 hsr1 HV9.out
            rw [hvp] at hr1' hr2' hr3
            have HI62 : Hid (Ints w14 (w2.heap.size + 1) (.slice (some ⟨b0, o0, none⟩) ma c6) (nI Ta)) := own_of_block hI61 fun g hg => (hkb g (hI61.lt g hg).2 (fun e => by cases e; have := (hI61.lt _ hg).1; omega) (fun h => by have := HV9.out p g HQ.out h; have := HLT6.out g hg; omega)).2
            have HG2 := Lib.hid hG2
            have HB2' := Lib.hid (HB1.out.trans hB2)
            have HS2 : Hid (w6.heap.size ≤ w14.heap.size) := Nat.le_trans hsr1 hsz2
            have hb1g : wr.heap.size ≤ b1 := (hI1.lt b1 rfl).1
            have hb1l : b1 < w11.heap.size := (hI1.lt b1 rfl).2
            have hkb1 := hkb b1 hb1l (by omega) (fun h => by have := ((HG.out.row p HQ.out).lt b1 h).2; omega)
            have KEEP : Hid (∀ wx : World, wx.heap[b1]? = w11.heap[b1]? → wx.cell? ⟨b1, o1, none⟩ = some (.int .i64 (p : Int))) := fun wx h => by
              rw [← hc1]; exact World.cell?_of_block h
            have HK3 := Lib.hid (KEEP.out w3 hkb1.1)
            have HK2 := Lib.hid (KEEP.out w14 hkb1.2)
            clear hI1 hI2 hB1 HG1 hG2 hB2 hfe hvp HB1 hkb hkb1 hI61
            go_wp2_with fail
            go_region_held3 (fun wx => wx.cell? ⟨b1, o1, none⟩ = some (.int .i64 (p : Int)))
              (first
                | exact KEEP.out _ rfl
                | exact KEEP.out _ (Below.heap_alloc w11 _ b1 hb1l)
                | exact HK3.out
                | exact HK2.out)
              (first
                | (refine step_of_run rfl (.tmp 56) (.tmp 58) 24 rfl _ _ (by simp [Act.eval, Act.put]) (by simp [Act.eval, Act.put]) _ _ hr3 ?_))
            all_goals
              clear hr1' hr2' hr3 hr4 hc1 KEEP HK3 HK2
              obtain ⟨D', vf', hG2, hV2⟩ := HG2.out
              rw [← HLF.out] at hG2
              go_wp2_with fail
              go_roundw
              case rel => exact ⟨i + 1, D', vf', by go_num, by omega, hG2, hV2, HI62.out, HB2'.out, HS2.out⟩
              case measure => simp [intOf]; omega
          · obtain rfl : ma = i := by omega
            clear hIr HIR

            obtain ⟨wo, hwo⟩ : ∃ x, x = wr := ⟨_, rfl⟩
            subst hwo
            obtain ⟨DA, hDA⟩ : ∃ x, x = D := ⟨_, rfl⟩
            obtain ⟨vfa, hvfa⟩ : ∃ x, x = vf := ⟨_, rfl⟩
            subst hDA hvfa
            have HGA := HG
            have HBO := HB
            have HXO := Lib.hid (HX1.out.below hB (by omega))
            have HYO := Lib.hid (HY1.out.below hB hs2)
            have n0 := (HYO.out.alloc (.map #[] 0)).c0
            have n1 := (HYO.out.alloc (.map #[] 0)).c1
            have hso : w.heap.size + 1 < wo.heap.size := HYO.out.lt
            have hsi : w2.heap.size < wo.heap.size := hsz
            clear HG HB HV9 hsz hlt hin hsr hB
            go_wp2_with fail
            refine (HPB2.out _ (below_size (below_size HB2.out (HBO.out.mono (Nat.le_refl _))) (below_alloc _ _))).mono ?_
            rintro e w7 ⟨u7, rfl, hI7, hB7⟩
            have hsb : (wo.alloc (.map #[] 0)).heap.size = wo.heap.size + 1 := by simp
            rw [hsb] at hI7
            obtain ⟨a7, c7, rfl, _, _⟩ := rd_formN hI7.rd (n := mb) (by rw [nI_length, HMTb.out])
            have HM7 := Lib.hid ((GMap.made wo).below hB7)
            have HB7 : Hid (Below wo.heap.size wo w7) := below_size (below_alloc wo _) hB7
            have hs7 : wo.heap.size + 1 ≤ w7.heap.size := by have := hB7.size; rw [hsb] at this; exact this
            have hLT7 : ∀ g, (Value.slice a7 mb c7).ownBlock = some g → g < w7.heap.size := fun g hg => (hI7.lt g hg).2
            clear hsb HPB2 n0 n1 hmm
            have HI7 := Lib.hid hI7
            have HLT7 := Lib.hid hLT7
            clear hI7 hLT7 hB7
            go_wp2_with fail
            go_loopw [65] (fun iv wr => ∃ (i : Nat) (D : DataW Value) (vf : Nat → Value), iv = .int .i64 i ∧ i ≤ mb ∧ GMap wr wo.heap.size (Lf Tb i) i D vf ∧ (∀ p g, p ≤ 1000000 → (vf p).ownBlock = some g → w7.heap.size ≤ g) ∧ Ints wr (wo.heap.size + 1) (.slice a7 mb c7) (nI Tb) ∧ Below wo.heap.size wo wr ∧ w7.heap.size ≤ wr.heap.size) (fun iv _ => mb - (intOf iv).toNat)
            case atStart => exact ⟨0, _, _, rfl, Nat.zero_le _, by rw [Lf_zero]; exact HM7.out, fun p g _ hg => by simp [nilS, Value.ownBlock] at hg, HI7.out, HB7.out, Nat.le_refl _⟩
            case round =>
              clear HM7 HI7 HB7
              obtain ⟨i, D, vf, rfl, hin, hG, hV9, hIr, hB, hsr⟩ := hrel
              have HG := Lib.hid hG
              have HV9 := Lib.hid hV9
              have HB := Lib.hid hB
              have HIR := Lib.hid hIr
              have hsz := hG.own.lt
              clear hG hV9
              by_cases hlt : i < mb
              · have hTl : i < Tb.length := by rw [HMTb.out]; exact hlt
                obtain ⟨b0, o0, rfl, hc⟩ := hIr.rd.at (j := i) (by rw [nI_length]; exact hTl)
                rw [nI_getD] at hc
                have hq := HPWTb.out (Tb.getD i 0) (getD_mem_nat hTl)
                have hq1 : 1 ≤ Tb.getD i 0 ∧ Tb.getD i 0 ≤ 1000000 := ⟨by have := hq.two; omega, hq.1⟩
                have HQ : Hid (bs (Tb.getD i 0) ≤ 1000000) := (bs_le hq).1
                have HF : Hid (∃ e, facN (Tb.getD i 0) = [(bs (Tb.getD i 0), e)]) := let ⟨e, _, _, _, h⟩ := hq.ex; ⟨e, h⟩
                have HLF : Hid (Lf Tb (i + 1) = updL (Lf Tb i) (bs (Tb.getD i 0)) (Tb.getD i 0)) := Lf_step hTl
                clear hq hB hIr hTl
                generalize bs (Tb.getD i 0) = p at *
                generalize Tb.getD i 0 = q at *
                go_wp2_with fail
                clear hc
                refine (i_facW q wr hq1.1 hq1.2).mono ?_
                rintro e w11 ⟨v1, v2, rfl, hI1, hI2, hB1⟩
                obtain ⟨ee, hfe⟩ := HF.out
                rw [hfe] at hI1 hI2
                obtain ⟨a1, c1, rfl, _, _⟩ := rd_formN hI1.rd (n := 1) (by simp [nI])
                obtain ⟨a2, c2, rfl, _, _⟩ := rd_formN hI2.rd (n := 1) (by simp [nI])
                obtain ⟨b1, o1, e1, hc1⟩ := hI1.rd.at (j := 0) (by simp [nI])
                subst e1
                simp only [nI, List.map_cons, List.map_nil, List.getD_cons_zero, Nat.add_zero] at hc1
                have HG1 := HG.out.below hB1.1
                have hI61 := HIR.out.below hB1.1
                have HB1 := Lib.hid (below_size HB.out hB1.1)
                have hsr1 : w7.heap.size ≤ w11.heap.size := Nat.le_trans hsr hB1.1.size
                obtain ⟨a0, n0, c0, v', w3, w14, hvp, hr1', hr2', hr3, hr4, hG2, hB2, hsz2, hkb⟩ := HG1.grow (p := p) (q := q) HQ.out (by omega) 24 (B := w7.heap.size) hs7 hsr1 HV9.out
                rw [hvp] at hr1' hr2' hr3
                have HI62 : Hid (Ints w14 (wo.heap.size + 1) (.slice (some ⟨b0, o0, none⟩) mb c7) (nI Tb)) := own_of_block hI61 fun g hg => (hkb g (hI61.lt g hg).2 (fun e => by cases e; have := (hI61.lt _ hg).1; omega) (fun h => by have := HV9.out p g HQ.out h; have := HLT7.out g hg; omega)).2
                have HG2 := Lib.hid hG2
                have HB2' := Lib.hid (HB1.out.trans hB2)
                have HS2 : Hid (w7.heap.size ≤ w14.heap.size) := Nat.le_trans hsr1 hsz2
                have hb1g : wr.heap.size ≤ b1 := (hI1.lt b1 rfl).1
                have hb1l : b1 < w11.heap.size := (hI1.lt b1 rfl).2
                have hkb1 := hkb b1 hb1l (by omega) (fun h => by have := ((HG.out.row p HQ.out).lt b1 h).2; omega)
                have KEEP : Hid (∀ wx : World, wx.heap[b1]? = w11.heap[b1]? → wx.cell? ⟨b1, o1, none⟩ = some (.int .i64 (p : Int))) := fun wx h => by
                  rw [← hc1]; exact World.cell?_of_block h
                have HK3 := Lib.hid (KEEP.out w3 hkb1.1)
                have HK2 := Lib.hid (KEEP.out w14 hkb1.2)
                clear hI1 hI2 hB1 HG1 hG2 hB2 hfe hvp HB1 hkb hkb1 hI61
                go_wp2_with fail
                go_region_held3 (fun wx => wx.cell? ⟨b1, o1, none⟩ = some (.int .i64 (p : Int)))
                  (first
                    | exact KEEP.out _ rfl
                    | exact KEEP.out _ (Below.heap_alloc w11 _ b1 hb1l)
                    | exact HK3.out
                    | exact HK2.out)
                  (first
                    | (refine step_of_run rfl (.tmp 82) (.tmp 84) 24 rfl _ _ (by simp [Act.eval, Act.put]) (by simp [Act.eval, Act.put]) _ _ hr3 ?_))
                all_goals
                  clear hr1' hr2' hr3 hr4 hc1 KEEP HK3 HK2
                  obtain ⟨D', vf', hG2, hV2⟩ := HG2.out
                  rw [← HLF.out] at hG2
                  go_wp2_with fail
                  go_roundw
                  case rel => exact ⟨i + 1, D', vf', by go_num, by omega, hG2, hV2, HI62.out, HB2'.out, HS2.out⟩
                  case measure => simp [intOf]; omega
              · obtain rfl : mb = i := by omega
                clear hIr HIR
                have HX9 := Lib.hid (HXO.out.below hB (by omega))
                have HY9 := Lib.hid (HYO.out.below hB hso)
                have m0 := HX9.out.c0
                have m1 := HX9.out.c1
                have m2 := HY9.out.c0
                have m3 := HY9.out.c1
                have HGA9 := Lib.hid (HGA.out.below hB)
                have hrn : wo.heap.size < wr.heap.size := hsz
                have W1 : IntKind.i64.wrap (ra - rb) = (f : Int) := by rw [← hf]; exact IntWalk.i64_in _ (by omega)
                have hown := HG.out.own
                clear hB
                go_wp2_with (first | (at_range; refine wpList_range_own _ rfl _ _ rfl 2 24 Try.lawK Try.mapT rawE wo.heap.size mb D rfl hown ?_; intro w0 hrg0 hg0 hs0))
                have HC : Hid (RngF D vf vfa w2.heap.size wo.heap.size wr.heap.size w2.heap.size) := ⟨HG.out.at_, fun p g hp hg => ((HG.out.row p hp).lt g hg).2, fun p g hp hg => ((HGA9.out.row p hp).lt g hg).2, Nat.le_refl _, hsi, hrn⟩
                have HR0 : Hid (RngH w2 w2.heap.size wo.heap.size wr.heap.size ma mb D vf (Lf Ta ma) (Lf Tb mb) DA vfa [] (Maps.has D) (Maps.size D) w0) := by
                  have hbl : Below wr.heap.size wr w0 := ⟨hg0.os, hg0.tape, hg0.output, hg0.size, fun k hk => hg0.block k hk (by simp)⟩
                  refine ⟨hrg0, fun kl => ?_, fun p hp => (HG.out.row p hp).below hbl, HGA9.out.below hbl, below_size (HBO.out.trans (HB.out.mono (by omega))) hbl⟩
                  rw [HG.out.has_ kl]
                  constructor
                  · rintro ⟨p, h1, h2, h3⟩; exact ⟨p, h1, h2, h3, by simp⟩
                  · rintro ⟨p, h1, h2, h3, _⟩; exact ⟨p, h1, h2, h3⟩
                clear hrg0 hg0 hown HG HGA HGA9 HB HBO m0 m1 m2 m3 W1 HX9 HY9 HXO HYO HX1 HY1 hsr
                generalize hri : wr.heap.size = ri at *
                go_frame
                go_loopw [17] (fun _ wq => ∃ (left : Lit → Bool) (cnt : Nat) (ks : List Nat), RngH w2 w2.heap.size wo.heap.size ri ma mb D vf (Lf Ta ma) (Lf Tb mb) DA vfa ks left cnt wq ∧ ∀ p ∈ ks, ∀ k, k < (Lf Tb mb p).length → f ≤ k → k - f < (Lf Ta ma p).length ∧ atD (Lf Tb mb p) k ≤ atD (Lf Ta ma p) (k - f)) (fun _ wq => wq.rangeLeft wo.heap.size ri)
                case atStart => exact ⟨_, _, [], HR0.out, fun p hp => by simp at hp⟩
                case round =>
                  clear HR0
                  obtain ⟨left, cnt, ks, hR, hks⟩ := hrel
                  have HR := Lib.hid hR
                  have HKS := Lib.hid hks
                  have hrg := hR.rg
                  clear hR hks
                  go_wp2_with (at_next; refine wpList_next_ranges _ rfl _ rfl 2 Try.lawK rawE (Value.int .i64) (fun v => v) (fun key kl hkey => by obtain ⟨x, rfl, _⟩ := Maps.keyOf_int_inv Try.underlying2 hkey; exact ⟨x, rfl⟩) (fun v y _ => ⟨v, rfl⟩) _ _ _ _ left cnt rfl hrg ?_ ?_)
                  · intro hc0 hl0
                    have HYES : Hid (QD fa fb ra.toNat rb.toNat) := HQI.out.2 ⟨HRK.out, fun p k hk hfk => by
                      have hpr : p ≤ 1000000 ∧ Lf Tb mb p ≠ [] := by
                        have h := Lf_prime (p := p) (j := k) HPWTb.out (by rw [HMTb.out]; exact hk)
                        rw [HMTb.out] at h; exact h
                      refine HKS.out p ?_ k hk hfk
                      apply Classical.byContradiction
                      intro hh
                      have := (HR.out.lf (keyL p)).2 ⟨p, rfl, hpr.1, hpr.2, hh⟩
                      rw [hl0] at this; simp at this⟩
                    clear hrg hl0 hc0
                    go_wp2_with fail
                    refine bodyPost_ret (v := .tuple #[_, _]) (by simp [results, Try.results6, go_sem]; exact ⟨rfl, rfl⟩) rfl ?_
                    exact ⟨true, 0, rfl, HOK.out true ⟨fun _ => HYES.out, fun _ => rfl⟩, below_size HB2.out HR.out.be⟩
                  · intro x c kl yd yp w1' cnt1 hkey hlk hv hat hrg1 hlt1 hg1 hs1 hen
                    obtain ⟨p, rfl, hp9, hgp, hpk⟩ := (HR.out.lf kl).1 hlk
                    obtain ⟨x', hx', hx2, _⟩ := Maps.keyOf_int_inv Try.underlying2 hkey
                    obtain rfl : x = (p : Int) := by
                      have e1 : x = x' := by injection hx'
                      have e2 : (p : Int) = x' := by unfold keyL at hx2; injection hx2
                      rw [e1, e2]
                    obtain rfl : c = vf p := by
                      have h1 := hat (.held nilS)
                      rw [HC.out.at_ p hp9] at h1
                      have h2 : yd = .held c := by
                        simp only [rawE, Option.some.injEq, Prod.mk.injEq] at hv
                        exact hv.1.symm
                      rw [h2] at h1
                      injection h1 with h1
                      exact h1.symm
                    have HR1 := Lib.hid (HR.out.next HC.out hrg1 hg1)
                    have hrl1 : cnt1 < wr.rangeLeft wo.heap.size ri := by rw [hrg.left_eq]; exact hlt1
                    have HMS := Lib.hid hrl1
                    have HROWB := Lib.hid (HR1.out.row p hp9)
                    have HROWA := Lib.hid (HR1.out.ma.row p hp9)
                    have hlook := run_lookG HR1.out.ma hp9
                    have HPF : Hid ((∀ k, k < (Lf Tb mb p).length → f ≤ k → k - f < (Lf Ta ma p).length ∧ atD (Lf Tb mb p) k ≤ atD (Lf Ta ma p) (k - f)) → ∀ p' ∈ ks ++ [p], ∀ k, k < (Lf Tb mb p').length → f ≤ k → k - f < (Lf Ta ma p').length ∧ atD (Lf Tb mb p') k ≤ atD (Lf Ta ma p') (k - f)) := fun h p' hp' => by
                      rcases List.mem_append.1 hp' with h1 | h1
                      · exact HKS.out p' h1
                      · rw [List.mem_singleton.1 h1]; exact h
                    have HNOT : Hid (∀ k, k < (Lf Tb mb p).length → f ≤ k → ¬ (k - f < (Lf Ta ma p).length ∧ atD (Lf Tb mb p) k ≤ atD (Lf Ta ma p) (k - f)) → ¬ QD fa fb ra.toNat rb.toNat) := fun k h1 h2 h3 h4 => h3 ((HQI.out.1 h4).2 p k h1 h2)
                    have HLA9 : Hid ((Lf Ta ma p).length ≤ 20000) := by have := Lf_len Ta p; rw [HMTa.out] at this; show _ ≤ _; omega
                    have HLB9 : Hid ((Lf Tb mb p).length ≤ 20000) := by have := Lf_len Tb p; rw [HMTb.out] at this; show _ ≤ _; omega
                    have HAB : Hid (∀ k, atD (Lf Ta ma p) k ≤ 1000000) := fun k => atD_bd (Lf_bd HPWTa.out ma p) k
                    have HBB : Hid (∀ k, atD (Lf Tb mb p) k ≤ 1000000) := fun k => atD_bd (Lf_bd HPWTb.out mb p) k
                    obtain ⟨LA, hLA⟩ : ∃ x, x = Lf Ta ma p := ⟨_, rfl⟩
                    obtain ⟨LB, hLB⟩ : ∃ x, x = Lf Tb mb p := ⟨_, rfl⟩
                    rw [← hLA] at HROWA HLA9 HAB
                    rw [← hLB] at HROWB HLB9 HBB
                    rw [← hLA, ← hLB] at HPF HNOT
                    obtain ⟨lb, hlb'⟩ : ∃ n, LB.length = n := ⟨_, rfl⟩
                    obtain ⟨la, hla'⟩ : ∃ n, LA.length = n := ⟨_, rfl⟩
                    have HLBn := Lib.hid hlb'
                    have HLAn := Lib.hid hla'
                    rw [hlb'] at HPF HNOT HLB9
                    rw [hla'] at HPF HNOT HLA9
                    have hlb9 := HLB9.out
                    have hla9 := HLA9.out
                    obtain ⟨ap, cp, hvp, _, _⟩ := rd_formN HROWB.out.rd (n := lb) (by rw [nI_length, hlb'])
                    obtain ⟨aq, cq, hva, _, _⟩ := rd_formN HROWA.out.rd (n := la) (by rw [nI_length, hla'])
                    rw [hvp] at HROWB hen ⊢
                    rw [hva] at HROWA hlook
                    clear hkey hv hat hrg hrg1 hlt1 hg1 hs1 hx' hx2 hrl1 hlk hgp hvp hva hLA hLB hlb' hla' HKS HR HAB HBB HLB9 HLA9
                    go_wp2_with fail
                    go_loopw [104] (fun jv wq => ∃ j : Nat, jv = .int .i64 j ∧ j ≤ lb ∧ (∀ k, k < j → f ≤ k → k - f < la ∧ atD LB k ≤ atD LA (k - f)) ∧ Below w1'.heap.size w1' wq) (fun jv _ => lb - (intOf jv).toNat)
                    case atStart => exact ⟨0, rfl, Nat.zero_le _, fun k hk => by omega, Below.refl _ _⟩
                    case round =>
                      obtain ⟨j, rfl, hjl, hok, hBj⟩ := hrel
                      have HOKJ := Lib.hid hok
                      have HBJ := Lib.hid hBj
                      clear hok
                      by_cases hlt : j < lb
                      · have hNB : nI LB = nI LB := rfl
                        obtain ⟨b7, o7, rfl, hcy⟩ := (HROWB.out.rd.below hBj).at (j := lb - 1 - j) (by rw [nI_length, HLBn.out]; omega)
                        rw [nI_getD, show LB.getD (lb - 1 - j) 0 = atD LB j by rw [← HLBn.out]; exact atD_cell (by rw [HLBn.out]; exact hlt)] at hcy
                        have HNEXT : Hid ((f ≤ j → j - f < la ∧ atD LB j ≤ atD LA (j - f)) → ∀ k, k < j + 1 → f ≤ k → k - f < la ∧ atD LB k ≤ atD LA (k - f)) := fun h k hk => by
                          by_cases e : k = j
                          · rw [e]; exact h
                          · exact HOKJ.out k (by omega)
                        have HFAIL : Hid (f ≤ j → ¬ (j - f < la ∧ atD LB j ≤ atD LA (j - f)) → ¬ QD fa fb ra.toNat rb.toNat) := fun h1 h2 => HNOT.out j hlt h1 h2
                        have i1 : (0 : Int) ≤ (j : Int) := by omega
                        have i2 : (j : Int) < (lb : Int) := by omega
                        clear hNB
                        obtain ⟨K, hK⟩ : ∃ K : Int, (j : Int) - (f : Int) = K := ⟨_, rfl⟩
                        by_cases hjf : j < f
                        · have HGO := Lib.hid (HNEXT.out (fun h => by omega))
                          have g1 : ¬ (0 : Int) ≤ K := by omega
                          have g2 : decide ((0 : Int) ≤ K) = false := by rw [decide_eq_false_iff_not]; omega
                          clear HNEXT HFAIL hBj hcy
                          go_wp2_with fail
                          try rw [hK]
                          clear hK hjf
                          go_quiet (fail)
                          go_wp2_with fail
                          go_roundw
                          case rel => exact ⟨j + 1, by go_num, by omega, HGO.out, bel_drewN HBJ.out _⟩
                          case measure => simp [intOf]; omega
                        · have HFJ : Hid (f ≤ j) := by show f ≤ j; omega
                          have g1 : (0 : Int) ≤ K := by omega
                          have g2 : decide ((0 : Int) ≤ K) = true := by rw [decide_eq_true_eq]; omega
                          have HKJ : Hid (K = ((j - f : Nat) : Int)) := by show K = _; omega
                          clear hjf
                          by_cases hkl : (la : Int) ≤ K
                          · have HNO := Lib.hid (HFAIL.out HFJ.out (fun h => by have := HKJ.out; omega))
                            have g3 : decide ((la : Int) ≤ K) = true := by rw [decide_eq_true_eq]; omega
                            clear HNEXT HFAIL hBj hcy HKJ HFJ
                            go_wp2_with fail
                            try rw [hK]
                            clear hK
                            go_quiet (fail)
                            go_wp2_with fail
                            refine bodyPost_ret (v := .tuple #[_, _]) (by simp [results, Try.results6, go_sem]; exact ⟨rfl, rfl⟩) rfl ?_
                            exact ⟨false, 0, rfl, HOK.out false ⟨fun h => by simp at h, fun h => (HNO.out h).elim⟩, bel_drewN (below_size (below_size HB2.out HR1.out.be) HBJ.out) _⟩
                          · have hkn : j - f < la := by have := HKJ.out; omega
                            obtain ⟨b6, o6, rfl, hcx⟩ := (HROWA.out.rd.below hBj).at (j := la - 1 - (j - f)) (by rw [nI_length, HLAn.out]; omega)
                            rw [nI_getD, show LA.getD (la - 1 - (j - f)) 0 = atD LA (j - f) by rw [← HLAn.out]; exact atD_cell (by rw [HLAn.out]; omega)] at hcx
                            have g3 : decide ((la : Int) ≤ K) = false := by rw [decide_eq_false_iff_not]; omega
                            have c1 : (((la - 1 - (j - f) : Nat) : Nat) : Int) = (la : Int) - 1 - K := by have := HKJ.out; omega
                            have c2 : (((lb - 1 - j : Nat) : Nat) : Int) = (lb : Int) - 1 - (j : Int) := by omega
                            have k9 : K ≤ 20000 := by have := HKJ.out; omega
                            have W1 : IntKind.i64.wrap ((la : Int) - 1) = (la : Int) - 1 := IntWalk.i64_in _ (by omega)
                            have W2 : IntKind.i64.wrap ((la : Int) - 1 - K) = ((la - 1 - (j - f) : Nat) : Int) := by rw [c1]; exact IntWalk.i64_in _ (by omega)
                            have W3 : IntKind.i64.wrap ((lb : Int) - 1) = (lb : Int) - 1 := IntWalk.i64_in _ (by omega)
                            have W4 : IntKind.i64.wrap ((lb : Int) - 1 - (j : Int)) = ((lb - 1 - j : Nat) : Int) := by rw [c2]; exact IntWalk.i64_in _ (by omega)
                            have d1 : ((la - 1 - (j - f) : Nat) : Int) < (la : Int) := by omega
                            have d2 : ((lb - 1 - j : Nat) : Int) < (lb : Int) := by omega
                            have d3 : (0 : Int) ≤ ((la - 1 - (j - f) : Nat) : Int) := by omega
                            have d4 : (0 : Int) ≤ ((lb - 1 - j : Nat) : Int) := by omega
                            clear c1 c2 hBj
                            generalize la - 1 - (j - f) = ia at *
                            generalize lb - 1 - j = ib at *
                            generalize atD LA (j - f) = x at *
                            generalize atD LB j = y at *
                            by_cases hxy : x < y
                            · have HNO := Lib.hid (HFAIL.out HFJ.out (fun h => by omega))
                              have g5 : decide (x < y) = true := by rw [decide_eq_true_eq]; omega
                              have g6 : decide ((x : Int) < (y : Int)) = true := by rw [decide_eq_true_eq]; omega
                              clear HNEXT HFAIL HKJ HFJ hkn
                              go_wp2_with fail
                              try rw [hK]
                              clear hK
                              go_quiet (fail)
                              go_wp2_with fail
                              refine bodyPost_ret (v := .tuple #[_, _]) (by simp [results, Try.results6, go_sem]; exact ⟨rfl, rfl⟩) rfl ?_
                              exact ⟨false, 0, rfl, HOK.out false ⟨fun h => by simp at h, fun h => (HNO.out h).elim⟩, bel_drewN (below_size (below_size HB2.out HR1.out.be) HBJ.out) _⟩
                            · have HGO := Lib.hid (HNEXT.out (fun _ => ⟨hkn, by omega⟩))
                              have g5 : decide (x < y) = false := by rw [decide_eq_false_iff_not]; omega
                              have g6 : decide ((x : Int) < (y : Int)) = false := by rw [decide_eq_false_iff_not]; omega
                              clear HNEXT HFAIL HKJ HFJ hkn
                              go_wp2_with fail
                              try rw [hK]
                              clear hK
                              go_quiet (fail)
                              go_wp2_with fail
                              go_roundw
                              case rel => exact ⟨j + 1, by go_num, by omega, HGO.out, bel_drewN HBJ.out _⟩
                              case measure => simp [intOf]; omega
                      · obtain rfl : lb = j := by omega
                        have HKS := Lib.hid (HPF.out HOKJ.out)
                        have HRZ := Lib.hid (HR1.out.below HC.out HBJ.out)
                        have HMM : Hid (_ < _) := Nat.lt_of_le_of_lt (Nat.le_of_eq HRZ.out.rg.left_eq) HMS.out
                        clear hBj
                        go_wp2_with fail
                        go_roundw
                        case rel => exact ⟨_, cnt1, ks ++ [p], HRZ.out, HKS.out⟩
                        case measure => exact HMM.out
end Go.Proofs.Ytdgjjdmodbbjhaa
