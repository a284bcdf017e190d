/-
  The reference's test for quotients.
-/
import Derived.Test.YtdgjjdmodbbjhaaAbj
namespace Go.Proofs.Ytdgjjdmodbbjhaa
set_option linter.unusedVariables false
set_option linter.unusedSimpArgs false
set_option maxRecDepth 100000
open Go.RowKit

/-- a call that tells whether one group is a quotient of another -/
def HasO (fa : List Nat) (ra : Int) (fb : List Nat) (rb : Int) (ok : Bool) (k : Int) : Prop :=
  (abP fa ra ∧ abP fb rb ∧ k = 0 ∧ (ok = true ↔ QD fa fb ra.toNat rb.toNat)) ∨ (¬ (abP fa ra ∧ abP fb rb) ∧ ok = false ∧ k = 1)
def RetHas (w : World) (fa : List Nat) (ra : Int) (fb : List Nat) (rb : Int) (e : Ending) (w' : World) : Prop := ∃ ok k, e = .returned (.tuple #[.bool ok, .int .i64 k]) ∧ HasO fa ra fb rb ok k ∧ Below w.heap.size w w'
def dnL (fs : List Nat) (r : Nat) : List Nat := List.replicate r 0 ++ fs.reverse
theorem rev_drop {fs : List Nat} {j : Nat} (h : j < fs.length) : (fs.drop j).reverse = (fs.drop (j + 1)).reverse ++ [fs.getD j 0] := by
  rw [split_drop h, List.reverse_cons]
--== spec.l05Down
set_option maxHeartbeats 4000000 in
theorem s_l05Down (v : Value) (fs : List Nat) (r : Nat) (w : World) (hv : Rd w v (nI fs)) (hn : fs.length ≤ 1000) (hr : r ≤ 1000) : Calls Try.prog 19 #[.agg #[v, .int .i64 (r : Int)]] w (RetInts w (nI (dnL fs r))) := by
  obtain ⟨i0, hi, hz0, hz1, hz2⟩ := info_parts Try.info2
  have HV := Lib.hid hv
  obtain ⟨ao, cap, rfl, _, _⟩ := hv.form
  rw [nI_length] at *
  obtain ⟨n, hnn⟩ : ∃ n, fs.length = n := ⟨_, rfl⟩
  have HN := Lib.hid hnn
  rw [hnn] at hn HV ⊢
  have HX0 := Lib.hid (B2.new w (.slice ao n cap) (.int .i64 (r : Int)))
  clear hv hnn
  go_enter Try.func19, Try.ntmps19
  go_wp2_with (at_make; refine wp_mkInts _ rfl _ _ rfl i0 Try.underlying24 hi hz0 hz1 hz2 _ _ _ _ r rfl rfl rfl rfl (by omega) ?_)
  intro w1 hI1 hB1 hs1
  have HX1 := Lib.hid (HX0.out.below hB1 (Nat.lt_succ_self _))
  have HB1 := Lib.hid ((below_alloc w (.cells #[.slice ao n cap, .int .i64 (r : Int)] 26)).trans (hB1.mono (Nat.le_succ _)))
  have HI1 := Lib.hid hI1
  have q0 := HX1.out.c0
  have q1 := HX1.out.c1
  clear hI1 hB1 HX0
  go_wp2_with fail
  clear q0 q1
  go_loopw [3, 4] (fun u iv wr => ∃ (j : Nat) (xs : List Nat), iv = .int .i64 ((j : Int) - 1) ∧ j ≤ n ∧ xs = List.replicate r 0 ++ (fs.drop j).reverse ∧ Ints wr (w.heap.size + 1) u (nI xs) ∧ B2 wr w.heap.size (.slice ao n cap) (.int .i64 (r : Int)) ∧ Below w.heap.size w wr) (fun _ iv _ => (intOf iv + 1).toNat)
  case atStart =>
    refine ⟨n, List.replicate r 0, rfl, Nat.le_refl _, by rw [List.drop_eq_nil_of_le (by rw [HN.out]; omega)]; simp, ?_, HX1.out, HB1.out⟩
    have h := HI1.out
    unfold nI
    rw [List.map_replicate]
    exact h
  case round =>
    clear HI1 HX1 HB1
    obtain ⟨j, xs, rfl, hj, hxs, hI, hX, hB⟩ := hrel
    have HXS := Lib.hid hxs
    have hxl : (nI xs).length ≤ 2000 := by
      rw [nI_length, hxs, List.length_append, List.length_replicate, List.length_reverse, List.length_drop, HN.out]; omega
    have HI := Lib.hid hI
    have HX := Lib.hid hX
    have HB := Lib.hid hB
    have q0 := hX.c0
    have hsz := hX.lt
    clear hxs hX
    by_cases h0 : j = 0
    · subst h0
      have HE : Hid (nI xs = nI (dnL fs r)) := by show _ = _; rw [HXS.out, List.drop_zero]; rfl
      obtain ⟨a3, n3, c3, rfl⟩ : ∃ a n c, u3 = Value.slice a n c := by obtain ⟨ao, c, e, _⟩ := hI.form; exact ⟨_, _, _, e⟩
      clear hI hB
      go_wp2_with fail
      go_ret
      exact ⟨_, rfl, by rw [← HE.out]; exact HI.out.mono (by omega), HB.out⟩
    · obtain ⟨k, rfl⟩ : ∃ k, j = k + 1 := ⟨j - 1, by omega⟩
      obtain ⟨bf, of, rfl, hc⟩ := (HV.out.below hB).at (j := k) (by rw [nI_length, HN.out]; omega)
      rw [nI_getD] at hc
      have HRD : Hid ((fs.drop k).reverse = (fs.drop (k + 1)).reverse ++ [fs.getD k 0]) := rev_drop (by rw [HN.out]; omega)
      generalize fs.getD k 0 = x at *
      have e1 : ((k + 1 : Nat) : Int) - 1 = (k : Int) := by omega
      have e2 : (k : Int) + 1 - 1 = (k : Int) := by omega
      have i1 : (0 : Int) ≤ (k : Int) := by omega
      have i2 : (k : Int) < (n : Int) := by omega
      have hB0 : w.heap.size + 1 ≤ wr.heap.size := hsz
      clear hB
      rw [e1]
      go_wp2_with (at_builtin; refine wp_app1 _ rfl _ _ rfl (w.heap.size + 1) i0 Try.underlying24 hi hz0 hz1 hz2 _ _ rfl hI (x : Int) rfl (by omega) (by omega) ?_)
      intro v9 w9 hI9 hG9 hB9
      have hX9 := HX.out.below hB9 (Nat.lt_succ_self _)
      have hB10 := HB.out.trans (hB9.mono (Nat.le_succ _))
      clear hG9 hB9 hc q0
      go_wp2_with fail
      go_roundw
      case rel => exact ⟨k, xs ++ [x], rfl, by omega, by rw [HXS.out, HRD.out]; simp, by rw [nI_snoc]; exact hI9, hX9, hB10⟩
      case measure => simp [intOf]
--== spec.HasAbelianQuotient
theorem dn_len (fs : List Nat) (r : Nat) : (dnL fs r).length = r + fs.length := by simp [dnL]
theorem qs_dn {fa fb : List Nat} {ra rb : Nat} : QS fa fb ra rb ↔ (dnL fb rb).length ≤ (dnL fa ra).length ∧ ∀ i, i < (dnL fb rb).length → (dnL fa ra).getD i 0 ≠ 0 → (dnL fb rb).getD i 0 ≠ 0 ∧ (dnL fb rb).getD i 0 ∣ (dnL fa ra).getD i 0 := by
  rw [dn_len, dn_len]; exact Iff.rfl
theorem dn_bd {fs : List Nat} (h : ∀ f ∈ fs, 2 ≤ f ∧ f ≤ 1000000) (r i : Nat) : (dnL fs r).getD i 0 ≤ 1000000 := by
  rcases getD_mem_or (dnL fs r) i 0 with ⟨_, hm⟩ | ⟨_, e⟩
  · rcases List.mem_append.1 hm with h1 | h1
    · have := (List.mem_replicate.1 h1).2; omega
    · exact (h _ (List.mem_reverse.1 h1)).2
  · omega
set_option maxHeartbeats 8000000 in
theorem s_HasAbelianQuotient (va vb : Value) (fa fb : List Nat) (ra rb : Int) (w : World) (hva : Rd w va (nI fa)) (hvb : Rd w vb (nI fb)) (hfa : ∀ f ∈ fa, f ≤ 1000000000) (hfb : ∀ f ∈ fb, f ≤ 1000000000) (hna : fa.length ≤ 1000) (hnb : fb.length ≤ 1000)
    (ha1 : -1000 ≤ ra) (ha2 : ra ≤ 1000) (hb1 : -1000 ≤ rb) (hb2 : rb ≤ 1000) : Calls Try.prog 7 #[.agg #[va, .int .i64 ra], .agg #[vb, .int .i64 rb]] w (RetHas w fa ra fb rb) := by
  have HA := Lib.hid hva
  have HB := Lib.hid hvb
  have HIA : Hid (∀ wx, Below w.heap.size w wx → Calls Try.prog 18 #[.agg #[va, .int .i64 ra]] wx (RetB wx (abP fa ra))) := fun wx hx => s_IsAbelian va fa ra wx (hva.below hx) hfa (by omega) ha1 ha2
  have HIB : Hid (∀ wx, Below w.heap.size w wx → Calls Try.prog 18 #[.agg #[vb, .int .i64 rb]] wx (RetB wx (abP fb rb))) := fun wx hx => s_IsAbelian vb fb rb wx (hvb.below hx) hfb (by omega) hb1 hb2
  have HDA : Hid (abP fa ra → ∀ wx, Below w.heap.size w wx → Calls Try.prog 19 #[.agg #[va, .int .i64 ra]] wx (RetInts wx (nI (dnL fa ra.toNat)))) := fun h wx hx => by
    have h0 := h.1
    obtain ⟨r, rfl⟩ : ∃ r : Nat, ra = (r : Int) := ⟨ra.toNat, by omega⟩
    rw [Int.toNat_natCast]
    exact s_l05Down va fa r wx (hva.below hx) hna (by omega)
  have HDB : Hid (abP fb rb → ∀ wx, Below w.heap.size w wx → Calls Try.prog 19 #[.agg #[vb, .int .i64 rb]] wx (RetInts wx (nI (dnL fb rb.toNat)))) := fun h wx hx => by
    have h0 := h.1
    obtain ⟨r, rfl⟩ : ∃ r : Nat, rb = (r : Int) := ⟨rb.toNat, by omega⟩
    rw [Int.toNat_natCast]
    exact s_l05Down vb fb r wx (hvb.below hx) hnb (by omega)
  have HQS : Hid (abP fa ra → abP fb rb → (QD fa fb ra.toNat rb.toNat ↔ (dnL fb rb.toNat).length ≤ (dnL fa ra.toNat).length ∧ ∀ i, i < (dnL fb rb.toNat).length → (dnL fa ra.toNat).getD i 0 ≠ 0 → (dnL fb rb.toNat).getD i 0 ≠ 0 ∧ (dnL fb rb.toNat).getD i 0 ∣ (dnL fa ra.toNat).getD i 0)) := fun h1 h2 => (qs_iff h1.chn h2.chn).symm.trans qs_dn
  have HBX : Hid (abP fa ra → abP fb rb → (∀ i, (dnL fa ra.toNat).getD i 0 ≤ 1000000) ∧ (∀ i, (dnL fb rb.toNat).getD i 0 ≤ 1000000) ∧ (dnL fa ra.toNat).length ≤ 2000 ∧ (dnL fb rb.toNat).length ≤ 2000) := fun h1 h2 =>
    ⟨dn_bd h1.chn.1 _, dn_bd h2.chn.1 _, by rw [dn_len]; omega, by rw [dn_len]; omega⟩
  obtain ⟨aa, ca', hea, _, _⟩ := rd_formN hva (nI_length fa)
  obtain ⟨ab, cb', heb, _, _⟩ := rd_formN hvb (nI_length fb)
  subst hea heb
  generalize fa.length = na at *
  generalize fb.length = nb at *
  generalize dnL fa ra.toNat = X at *
  generalize dnL fb rb.toNat = Y at *
  have hBa := below_size (below_alloc w (.cells #[.slice aa na ca', .int .i64 ra] 26)) (below_alloc _ (.cells #[.slice ab nb cb', .int .i64 rb] 26))
  have HB0 := Lib.hid hBa
  clear hva hvb hfa hfb hBa
  go_enter Try.func7, Try.ntmps7
  go_wp2_with fail
  refine (HIA.out _ HB0.out).mono ?_
  rintro e w1 ⟨ba, rfl, hba, hB1⟩
  have HBA := Lib.hid hba
  have hx0 : B2 w1 w.heap.size (.slice aa na ca') (.int .i64 ra) := ((B2.new w _ _).alloc _).below hB1 (by simp; omega)
  have hy0 : B2 w1 (w.heap.size + 1) (.slice ab nb cb') (.int .i64 rb) := by
    have h := (B2.new (w.alloc (.cells #[.slice aa na ca', .int .i64 ra] 26)) (.slice ab nb cb') (.int .i64 rb)).below hB1 (by simp)
    rwa [show (w.alloc (.cells #[.slice aa na ca', .int .i64 ra] 26)).heap.size = w.heap.size + 1 by simp] at h
  have HB1 := Lib.hid (below_size HB0.out hB1)
  have hs1 : w.heap.size + 1 < w1.heap.size := hy0.lt
  clear hB1 HB0 HIA hba
  have m0 := hy0.c0
  have m1 := hy0.c1
  have HX0 := Lib.hid hx0
  have HY0 := Lib.hid hy0
  clear hx0 hy0
  cases ba
  · have HO : Hid (HasO fa ra fb rb false 1) := .inr ⟨fun h => by have := HBA.out.2 h.1; simp at this, rfl, rfl⟩
    go_wp2_with fail
    refine bodyPost_ret (v := .tuple #[_, _]) (by simp [results, Try.results7, go_sem]; exact ⟨rfl, rfl⟩) rfl ?_
    exact ⟨false, 1, rfl, HO.out, HB1.out⟩
  · go_wp2_with fail
    refine (HIB.out _ HB1.out).mono ?_
    rintro e w2 ⟨bb, rfl, hbb, hB2⟩
    have HBB := Lib.hid hbb
    have HX1 := Lib.hid (HX0.out.below hB2 (by omega))
    have HY1 := Lib.hid (HY0.out.below hB2 hs1)
    have HB2 := Lib.hid (below_size HB1.out hB2)
    have hs2 : w.heap.size + 1 < w2.heap.size := HY1.out.lt
    clear hB2 HIB HX0 HY0 HB1 m0 m1 hs1 hbb
    cases bb
    · have HO : Hid (HasO fa ra fb rb false 1) := .inr ⟨fun h => by have := HBB.out.2 h.2; simp at this, rfl, rfl⟩
      go_wp2_with fail
      refine bodyPost_ret (v := .tuple #[_, _]) (by simp [results, Try.results7, go_sem]; exact ⟨rfl, rfl⟩) rfl ?_
      exact ⟨false, 1, rfl, HO.out, HB2.out⟩
    · have hA := HBA.out.1 (by trivial)
      have hB := HBB.out.1 (by trivial)
      have HQS2 := Lib.hid (HQS.out hA hB)
      obtain ⟨hX9, hY9, hX2, hY2⟩ := HBX.out hA hB
      have HX9 := Lib.hid hX9
      have HY9 := Lib.hid hY9
      have HDA2 := Lib.hid (HDA.out hA)
      have HDB2 := Lib.hid (HDB.out hB)
      have HOK : Hid (∀ ok, (ok = true ↔ QD fa fb ra.toNat rb.toNat) → HasO fa ra fb rb ok 0) := fun ok h => .inl ⟨hA, hB, rfl, h⟩
      have m0 := HX1.out.c0
      have m1 := HX1.out.c1
      have m2 := HY1.out.c0
      have m3 := HY1.out.c1
      have KEEP : Hid (∀ wx, Below w2.heap.size w2 wx → (wx.cell? ⟨w.heap.size, 0, none⟩ = some (.slice aa na ca') ∧ wx.cell? ⟨w.heap.size, 1, none⟩ = some (.int .i64 ra) ∧ wx.cell? ⟨w.heap.size + 1, 0, none⟩ = some (.slice ab nb cb') ∧ wx.cell? ⟨w.heap.size + 1, 1, none⟩ = some (.int .i64 rb))) := fun wx hb =>
        ⟨(HX1.out.below hb (by omega)).c0, (HX1.out.below hb (by omega)).c1, (HY1.out.below hb (by omega)).c0, (HY1.out.below hb (by omega)).c1⟩
      clear hA hB hX9 hY9 HDA HDB HQS HBX HBA HBB
      go_wp2_with fail
      go_region_held3 (fun wx => wx.cell? ⟨w.heap.size, 0, none⟩ = some (.slice aa na ca') ∧ wx.cell? ⟨w.heap.size, 1, none⟩ = some (.int .i64 ra) ∧ wx.cell? ⟨w.heap.size + 1, 0, none⟩ = some (.slice ab nb cb') ∧ wx.cell? ⟨w.heap.size + 1, 1, none⟩ = some (.int .i64 rb))
        (first
          | exact KEEP.out _ (Below.refl _ _).drew
          | exact KEEP.out _ hK7
          | exact KEEP.out _ hK6)
        (first
          | ((go_at_call 19); (with_reducible refine (HDA2.out _ (below_size HB2.out (Below.refl _ _).drew)).mono ?_); (rintro e w6 ⟨u6, rfl, hI6, hB6⟩); (have hK6 : Below w2.heap.size w2 w6 := below_size (Below.refl _ _).drew hB6))
          | ((go_at_call 19); (with_reducible refine (HDB2.out _ (below_size HB2.out hK6)).mono ?_); (rintro e w7 ⟨u7, rfl, hI7, hB7⟩); (have hK7 : Below w2.heap.size w2 w7 := below_size hK6 hB7)))
      obtain ⟨nx, hnx⟩ : ∃ n, X.length = n := ⟨_, rfl⟩
      obtain ⟨ny, hny⟩ : ∃ n, Y.length = n := ⟨_, rfl⟩
      have HNX := Lib.hid hnx
      have HNY := Lib.hid hny
      rw [hnx, hny] at HQS2
      rw [hnx] at hX2
      rw [hny] at hY2
      have HRX := Lib.hid (hI6.rd.below hB7)
      have HRY := Lib.hid hI7.rd
      obtain ⟨a6, c6, rfl, _, _⟩ := rd_formN HRX.out (n := nx) (by rw [nI_length, hnx])
      obtain ⟨a7, c7, rfl, _, _⟩ := rd_formN HRY.out (n := ny) (by rw [nI_length, hny])
      have HB7 := Lib.hid (below_size HB2.out hK7)
      clear hI6 hB6 hK6 hI7 hB7 hK7 KEEP HX1 HY1 HB2 hs2 HDA2 HDB2 m0 m1 m2 m3 hnx hny
      by_cases hlen : ny ≤ nx
      · go_wp2_with fail
        go_loopw [8] (fun iv wr => ∃ i : Nat, iv = .int .i64 i ∧ i ≤ ny ∧ (∀ j, j < i → X.getD j 0 ≠ 0 → Y.getD j 0 ≠ 0 ∧ Y.getD j 0 ∣ X.getD j 0) ∧ Below w7.heap.size w7 wr) (fun iv _ => ny - (intOf iv).toNat)
        case atStart => exact ⟨0, rfl, Nat.zero_le _, fun j hj => by omega, Below.refl _ _⟩
        case round =>
          obtain ⟨i, rfl, hin, hok, hBr⟩ := hrel
          have HOKI := Lib.hid hok
          have HBr := Lib.hid hBr
          clear hok
          by_cases hlt : i < ny
          · obtain ⟨b6, o6, rfl, hcx⟩ := (HRX.out.below hBr).at (j := i) (by rw [nI_length, HNX.out]; omega)
            obtain ⟨b7, o7, rfl, hcy⟩ := (HRY.out.below hBr).at (j := i) (by rw [nI_length, HNY.out]; exact hlt)
            rw [nI_getD] at hcx hcy
            clear hBr
            have hx9 := HX9.out i
            have hy9 := HY9.out i
            have HNEXT : Hid ((X.getD i 0 ≠ 0 → Y.getD i 0 ≠ 0 ∧ Y.getD i 0 ∣ X.getD i 0) → ∀ j, j < i + 1 → X.getD j 0 ≠ 0 → Y.getD j 0 ≠ 0 ∧ Y.getD j 0 ∣ X.getD j 0) := fun h j hj => by
              by_cases e : j = i
              · rw [e]; exact h
              · exact HOKI.out j (by omega)
            have HFAIL : Hid (¬ (X.getD i 0 ≠ 0 → Y.getD i 0 ≠ 0 ∧ Y.getD i 0 ∣ X.getD i 0) → ¬ QD fa fb ra.toNat rb.toNat) := fun h h2 => h ((HQS2.out.1 h2).2 i hlt)
            have i1 : (0 : Int) ≤ (i : Int) := by omega
            have i2 : (i : Int) < (ny : Int) := by omega
            have i3 : (i : Int) < (nx : Int) := by omega
            generalize X.getD i 0 = x at *
            generalize Y.getD i 0 = y at *
            by_cases hx0 : x = 0
            · subst hx0
              have HGO := Lib.hid (HNEXT.out (fun h => absurd rfl h))
              clear HNEXT HFAIL
              go_wp2_with fail
              go_quiet (fail)
              go_wp2_with fail
              go_roundw
              case rel => exact ⟨i + 1, by go_num, by omega, HGO.out, bel_drewN HBr.out _⟩
              case measure => simp [intOf]; omega
            · have hx0' : ((x : Int) == 0) = false := by rw [beq_eq_false_iff_ne]; omega
              have hx0'' : ((x : Int) != 0) = true := by rw [bne_iff_ne]; omega
              by_cases hy0 : y = 0
              · subst hy0
                have HNO := Lib.hid (HFAIL.out (fun h => (h hx0).1 rfl))
                clear HNEXT HFAIL hx0
                go_wp2_with fail
                go_quiet (fail)
                go_wp2_with fail
                refine bodyPost_ret (v := .tuple #[_, _]) (by simp [results, Try.results7, go_sem]; exact ⟨rfl, rfl⟩) rfl ?_
                exact ⟨false, 0, rfl, HOK.out false ⟨fun h => by simp at h, fun h => (HNO.out h).elim⟩, bel_drewN (HB7.out.trans (HBr.out.mono HB7.out.size)) _⟩
              · have hy0' : ((y : Int) == 0) = false := by rw [beq_eq_false_iff_ne]; omega
                have hy0'' : ¬ (y : Int) = 0 := by omega
                by_cases hd : x % y = 0
                · have hd' : ((x : Int) % (y : Int)) = 0 := by rw [← Int.natCast_emod, hd]; rfl
                  have HGO := Lib.hid (HNEXT.out (fun _ => ⟨hy0, Nat.dvd_of_mod_eq_zero hd⟩))
                  clear HNEXT HFAIL hx0 hy0 hd
                  go_wp2_with fail
                  go_quiet (fail)
                  go_wp2_with fail
                  go_roundw
                  case rel => exact ⟨i + 1, by go_num, by omega, HGO.out, bel_drewN HBr.out _⟩
                  case measure => simp [intOf]; omega
                · have hd' : ¬ ((x : Int) % (y : Int)) = 0 := by rw [← Int.natCast_emod]; exact fun h => hd (by exact_mod_cast h)
                  have HNO := Lib.hid (HFAIL.out (fun h => hd (Nat.mod_eq_zero_of_dvd (h hx0).2)))
                  clear HNEXT HFAIL hx0 hy0 hd
                  go_wp2_with fail
                  go_quiet (fail)
                  go_wp2_with fail
                  refine bodyPost_ret (v := .tuple #[_, _]) (by simp [results, Try.results7, go_sem]; exact ⟨rfl, rfl⟩) rfl ?_
                  exact ⟨false, 0, rfl, HOK.out false ⟨fun h => by simp at h, fun h => (HNO.out h).elim⟩, bel_drewN (HB7.out.trans (HBr.out.mono HB7.out.size)) _⟩
          · obtain rfl : i = ny := by omega
            have HYES : Hid (QD fa fb ra.toNat rb.toNat) := HQS2.out.2 ⟨hlen, HOKI.out⟩
            go_wp2_with fail
            refine bodyPost_ret (v := .tuple #[_, _]) (by simp [results, Try.results7, go_sem]; exact ⟨rfl, rfl⟩) rfl ?_
            exact ⟨true, 0, rfl, HOK.out true ⟨fun _ => HYES.out, fun _ => rfl⟩, HB7.out.trans (HBr.out.mono HB7.out.size)⟩
      · have HNO : Hid (¬ QD fa fb ra.toNat rb.toNat) := fun h => hlen (HQS2.out.1 h).1
        go_wp2_with fail
        refine bodyPost_ret (v := .tuple #[_, _]) (by simp [results, Try.results7, go_sem]; exact ⟨rfl, rfl⟩) rfl ?_
        exact ⟨false, 0, rfl, HOK.out false ⟨fun h => by simp at h, fun h => (HNO.out h).elim⟩, HB7.out⟩
end Go.Proofs.Ytdgjjdmodbbjhaa
