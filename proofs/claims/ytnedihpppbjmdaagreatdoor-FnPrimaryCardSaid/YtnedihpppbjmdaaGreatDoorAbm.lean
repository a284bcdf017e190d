/-
  The program's group out of its primary parts.
-/
import Derived.Test.YtnedihpppbjmdaaGreatDoorAbl
namespace Go.Proofs.YtnedihpppbjmdaaGreatDoor
set_option linter.unusedVariables false
set_option linter.unusedSimpArgs false
set_option maxRecDepth 100000
open Go.RowKit Go.Maps

/-- the prime powers among the first i at each prime -/
def Lf (S : List Nat) (i : Nat) : Nat → List Nat := fun p => (S.take i).filter fun q => bs q == p
theorem Lf_zero (S : List Nat) : Lf S 0 = fun _ => [] := rfl
theorem Lf_step {S : List Nat} {i : Nat} (h : i < S.length) : Lf S (i + 1) = updL (Lf S i) (bs (S.getD i 0)) (S.getD i 0) := by
  funext p
  have e : S.take (i + 1) = S.take i ++ [S.getD i 0] := by
    rw [List.take_add_one, List.getD_eq_getElem?_getD, List.getElem?_eq_getElem h]; rfl
  unfold Lf updL
  rw [e, List.filter_append]
  by_cases hp : p = bs (S.getD i 0)
  · rw [if_pos hp, hp, List.filter_cons_of_pos (by simp)]; rfl
  · rw [if_neg hp, List.filter_cons_of_neg (by simp; exact fun h => hp h.symm)]; simp
theorem Lf_all (S : List Nat) (p : Nat) : (Lf S S.length p).Perm (grp S p) := by
  unfold Lf; rw [List.take_length]; exact (grp_perm S p).symm
theorem Lf_ne (S : List Nat) (p : Nat) : Lf S S.length p ≠ [] ↔ grp S p ≠ [] := by
  have h := (Lf_all S p).length_eq
  constructor
  · intro h1 h2
    rw [h2] at h
    exact h1 (List.eq_nil_of_length_eq_zero h)
  · intro h1 h2
    rw [h2] at h
    exact h1 (List.eq_nil_of_length_eq_zero h.symm)
theorem ranges_below {H : Type} {P : Program} {k : TypeId} {R : Value → Option (DataW H × List MemPlace)} {w w' : World} {b r n B : Nat} {D : DataW H} {left : Lit → Bool} {cnt : Nat} (h : w.ranges P k R b r n D left cnt) (hb : Below B w w') (h1 : b < B) (h2 : r < B) : w'.ranges P k R b r n D left cnt := by
  obtain ⟨es, clock, since, seen, c0, hb1, F, hs, hD, hr, rest⟩ := h
  exact ⟨es, clock, since, seen, c0, (hb.block b h1).trans hb1, F, hs, hD, (hb.block r h2).trans hr, rest⟩
--== ranges
/-- what does not change while the map is ranged over -/
structure RngC (D : DataW Value) (vf : Nat → Value) (bm r b0 : Nat) : Prop where
  at_ : ∀ p, p ≤ 1000000 → D.atKey (keyL p) (.held nilS) = .held (vf p)
  apart : ∀ p q g, p ≤ 1000000 → q ≤ 1000000 → p ≠ q → (vf p).ownBlock = some g → ¬ (vf q).ownBlock = some g
  lt : ∀ p g, p ≤ 1000000 → (vf p).ownBlock = some g → bm + 1 ≤ g ∧ g < r
  o1 : b0 < bm
  o2 : bm < r
/-- the range under way: the primes ks have been met; the list u holds xs -/
structure RngI (w : World) (bm r b0 n : Nat) (D : DataW Value) (vf : Nat → Value) (S ks xs : List Nat) (left : Lit → Bool) (cnt : Nat) (u : Value) (wr : World) : Prop where
  rg : wr.ranges Tryz.prog 2 rawE bm r n D left cnt
  li : Ints wr (r + 1) u (nI xs)
  nd : ks.Nodup
  kb : ∀ p ∈ ks, p ≤ 1000000
  lf : ∀ kl, left kl = true ↔ ∃ p, kl = keyL p ∧ p ≤ 1000000 ∧ grp S p ≠ [] ∧ p ∉ ks
  row : ∀ p, p ≤ 1000000 → p ∉ ks → Ints wr (bm + 1) (vf p) (nI (Lf S S.length p))
  bx : B2 wr b0 (.slice none 0 0) (.int .i64 0)
  be : Below w.heap.size w wr
theorem RngI.next {w wr w1 : World} {bm r b0 n : Nat} {D : DataW Value} {vf : Nat → Value} {S ks xs : List Nat} {left : Lit → Bool} {cnt cnt1 : Nat} {u : Value} (h : RngI w bm r b0 n D vf S ks xs left cnt u wr) (C : RngC D vf bm r b0) (hw : w.heap.size ≤ b0) {p : Nat} (hp : p ≤ 1000000) (hpk : p ∉ ks)
    (hrg : w1.ranges Tryz.prog 2 rawE bm r n D (fun z => left z && !z.sameKey (keyL p)) cnt1) (hg : wr.grownBy w1 (some r)) : RngI w bm r b0 n D vf S (ks ++ [p]) xs (fun z => left z && !z.sameKey (keyL p)) cnt1 u w1 where
  rg := hrg
  li := own_of_block h.li fun g hg' => hg.block g (h.li.lt g hg').2 (fun e => by cases e; have := (h.li.lt r hg').1; omega)
  nd := by rw [List.nodup_append]; exact ⟨h.nd, by simp, fun a ha b hb e => by subst e; rw [List.mem_singleton] at hb; exact hpk (hb ▸ ha)⟩
  kb := fun q hq => by
    rcases List.mem_append.1 hq with h1 | h1
    · exact h.kb q h1
    · rw [List.mem_singleton.1 h1]; exact hp
  lf := fun kl => by
    rw [Bool.and_eq_true, h.lf kl]
    constructor
    · rintro ⟨⟨q, rfl, h1, h2, h3⟩, h4⟩
      refine ⟨q, rfl, h1, h2, fun hq => ?_⟩
      rcases List.mem_append.1 hq with h5 | h5
      · exact h3 h5
      · rw [List.mem_singleton.1 h5, WideAt.sameKey_self (keyL_key p)] at h4; simp at h4
    · rintro ⟨q, rfl, h1, h2, h3⟩
      refine ⟨⟨q, rfl, h1, h2, fun hq => h3 (List.mem_append_left _ hq)⟩, ?_⟩
      have hne : keyL q ≠ keyL p := fun e => h3 (by rw [keyL_inj e]; simp)
      rw [sameKey_ne hne]; rfl
  row := fun q hq hk => own_of_block (h.row q hq fun hh => hk (List.mem_append_left _ hh)) fun g hg' => hg.block g ((h.row q hq fun hh => hk (List.mem_append_left _ hh)).lt g hg').2 (fun e => by cases e; have := C.lt q r hq hg'; omega)
  bx := (hg.block b0 h.bx.lt (fun e => by cases e; have := C.o1; have := C.o2; omega)).trans h.bx
  be := ⟨hg.os.trans h.be.os, hg.tape.trans h.be.tape, hg.output.trans h.be.output, Nat.le_trans h.be.size hg.size, fun k hk => (hg.block k (Nat.lt_of_lt_of_le hk h.be.size) (fun e => by cases e; have := C.o1; have := C.o2; omega)).trans (h.be.block k hk)⟩
theorem RngI.turn {w w1 w2 : World} {bm r b0 n : Nat} {D : DataW Value} {vf : Nat → Value} {S ks xs : List Nat} {left : Lit → Bool} {cnt : Nat} {u : Value} (h : RngI w bm r b0 n D vf S ks xs left cnt u w1) (C : RngC D vf bm r b0) (hw : w.heap.size ≤ b0) {p : Nat} (hp : p ≤ 1000000) (hpk : p ∈ ks)
    (hg : w1.grownBy w2 (vf p).ownBlock) : RngI w bm r b0 n D vf S ks xs left cnt u w2 where
  rg := h.rg.kept hg (fun e => by have := C.lt p bm hp e.symm; omega) (fun e => by have := C.lt p r hp e.symm; omega)
  li := own_of_block h.li fun g hg' => hg.block g (h.li.lt g hg').2 (fun e => by have := (h.li.lt g hg').1; have := C.lt p g hp e.symm; omega)
  nd := h.nd
  kb := h.kb
  lf := h.lf
  row := fun q hq hk => own_of_block (h.row q hq hk) fun g hg' => hg.block g ((h.row q hq hk).lt g hg').2 (fun e => C.apart q p g hq hp (fun e2 => hk (e2 ▸ hpk)) hg' e.symm)
  bx := (hg.block b0 h.bx.lt (fun e => by have := C.lt p b0 hp e.symm; have := C.o1; omega)).trans h.bx
  be := ⟨hg.os.trans h.be.os, hg.tape.trans h.be.tape, hg.output.trans h.be.output, Nat.le_trans h.be.size hg.size, fun k hk => (hg.block k (Nat.lt_of_lt_of_le hk h.be.size) (fun e => by have := C.lt p k hp e.symm; have := C.o1; omega)).trans (h.be.block k hk)⟩
theorem RngI.list {w w2 w3 : World} {bm r b0 n : Nat} {D : DataW Value} {vf : Nat → Value} {S ks xs xs' : List Nat} {left : Lit → Bool} {cnt : Nat} {u u' : Value} (h : RngI w bm r b0 n D vf S ks xs left cnt u w2) (C : RngC D vf bm r b0) (hw : w.heap.size ≤ b0)
    (hb : Below (r + 1) w2 w3) (hI : Ints w3 (r + 1) u' (nI xs')) : RngI w bm r b0 n D vf S ks xs' left cnt u' w3 where
  rg := ranges_below h.rg hb (by have := C.o2; omega) (Nat.lt_succ_self _)
  li := hI
  nd := h.nd
  kb := h.kb
  lf := h.lf
  row := fun q hq hk => own_of_block (h.row q hq hk) fun g hg' => hb.block g (by have := C.lt q g hq hg'; omega)
  bx := h.bx.below hb (by have := C.o1; have := C.o2; omega)
  be := h.be.trans (hb.mono (by have := C.o1; have := C.o2; omega))
theorem nI_reverse (xs : List Nat) : (nI xs).reverse = nI xs.reverse := by unfold nI; rw [List.map_reverse]
--== impl.fromPrimary
set_option maxHeartbeats 16000000 in
theorem i_fromPrimary (v : Value) (S : List Nat) (r : Int) (w : World) (hv : Rd w v (nI S)) (hS : ∀ q ∈ S, PPw q) (hn : S.length ≤ 100000) (hr1 : 0 ≤ r) (hr2 : r ≤ 1000) : Calls Tryz.prog 27 #[v, .int .i64 r] w (RetAb w (SumO S r)) := by
  obtain ⟨i0, hi, hz0, hz1, hz2⟩ := info_parts Tryz.info2
  have HV := Lib.hid hv
  have HS := Lib.hid hS
  obtain ⟨ao, cap, rfl, _, _⟩ := hv.form
  rw [nI_length] at *
  obtain ⟨nS, hnS⟩ : ∃ n, S.length = n := ⟨_, rfl⟩
  have HN := Lib.hid hnS
  rw [hnS] at hn HV ⊢
  have hmm := @run_makeMap Tryz.prog
  clear hv hS hnS
  go_enter Tryz.func27, Tryz.ntmps27
  go_wp2_with fail
  have HB0 := Lib.hid (below_size (below_alloc w (.cells #[.slice none 0 0, .int .i64 0] 26)) (below_alloc _ (.map #[] 0)))
  have HX0 := Lib.hid ((B2.new w (.slice none 0 0) (.int .i64 0)).alloc (.map #[] 0))
  have HM0 := Lib.hid (GMap.made (w.alloc (.cells #[.slice none 0 0, .int .i64 0] 26)))
  go_loopw [19] (fun iv wr => ∃ (i : Nat) (D : DataW Value) (vf : Nat → Value), iv = .int .i64 i ∧ i ≤ nS ∧ GMap wr (w.heap.size + 1) (Lf S i) i D vf ∧ B2 wr w.heap.size (.slice none 0 0) (.int .i64 0) ∧ Below w.heap.size w wr) (fun iv _ => nS - (intOf iv).toNat)
  case atStart =>
    have h := HM0.out
    rw [show (w.alloc (.cells #[.slice none 0 0, .int .i64 0] 26)).heap.size = w.heap.size + 1 by simp] at h
    exact ⟨0, _, _, rfl, Nat.zero_le _, by rw [Lf_zero]; exact h, HX0.out, HB0.out⟩
  case round =>
    clear HB0 HX0 HM0
    obtain ⟨i, D, vf, rfl, hin, hG, hX, hB⟩ := hrel
    have HG := Lib.hid hG
    have HX := Lib.hid hX
    have HB := Lib.hid hB
    have hsz := hG.own.lt
    clear hG hX
    by_cases hlt : i < nS
    · obtain ⟨b0, o0, rfl, hc⟩ := (HV.out.below hB).at (j := i) (by rw [nI_length, HN.out]; exact hlt)
      rw [nI_getD] at hc
      have hq := HS.out (S.getD i 0) (getD_mem_nat (by rw [HN.out]; exact hlt))
      have hq1 : 1 ≤ S.getD i 0 ∧ S.getD i 0 ≤ 1000000 := ⟨by have := hq.two; omega, hq.1⟩
      have HQ : Hid (bs (S.getD i 0) ≤ 1000000) := (bs_le hq).1
      have HF : Hid (∃ e, facN (S.getD i 0) = [(bs (S.getD i 0), e)]) := let ⟨e, _, _, _, h⟩ := hq.ex; ⟨e, h⟩
      have HLF : Hid (Lf S (i + 1) = updL (Lf S i) (bs (S.getD i 0)) (S.getD i 0)) := Lf_step (by rw [HN.out]; exact hlt)
      clear hq hB
      generalize bs (S.getD i 0) = p at *
      generalize S.getD i 0 = q at *
      go_wp2_with fail
      clear hc
      refine (i_facW q wr hq1.1 hq1.2).mono ?_
      rintro e w1 ⟨v1, v2, rfl, hI1, hI2, hB1⟩
      obtain ⟨ee, hfe⟩ := HF.out
      rw [hfe] at hI1 hI2
      obtain ⟨a1, c1, rfl, _, _⟩ := rd_formN hI1.rd (n := 1) (by simp [nI])
      obtain ⟨a2, c2, rfl, _, _⟩ := rd_formN hI2.rd (n := 1) (by simp [nI])
      obtain ⟨b1, o1, e1, hc1⟩ := hI1.rd.at (j := 0) (by simp [nI])
      subst e1
      simp only [nI, List.map_cons, List.map_nil, List.getD_cons_zero, Nat.add_zero] at hc1
      have HG1 := HG.out.below hB1.1
      have HX1 := Lib.hid (HX.out.below hB1.1 (by omega))
      have HB1 := Lib.hid (below_size HB.out hB1.1)
      obtain ⟨a0, n0, c0, v', w3, w2, hvp, hr1', hr2', hr3, hr4, hG2, hB2, hkb⟩ := HG1.step (p := p) (q := q) HQ.out (by omega) 24
      rw [hvp] at hr1' hr2' hr3
      have HG2 := Lib.hid hG2
      have HX2 := Lib.hid (HX1.out.below hB2 (Nat.lt_succ_self _))
      have HB2 := Lib.hid (HB1.out.trans (hB2.mono (Nat.le_succ _)))
      have hb1g : wr.heap.size ≤ b1 := (hI1.lt b1 rfl).1
      have hb1l : b1 < w1.heap.size := (hI1.lt b1 rfl).2
      have hkb1 := hkb b1 hb1l (by omega) (fun h => by have := ((HG.out.row p HQ.out).lt b1 h).2; omega)
      have KEEP : Hid (∀ wx : World, wx.heap[b1]? = w1.heap[b1]? → wx.cell? ⟨b1, o1, none⟩ = some (.int .i64 (p : Int))) := fun wx h => by
        rw [← hc1]; exact World.cell?_of_block h
      have HK3 := Lib.hid (KEEP.out w3 hkb1.1)
      have HK2 := Lib.hid (KEEP.out w2 hkb1.2)
      clear hI1 hI2 hB1 HG1 hG2 hB2 hfe hvp HX1 HB1 hkb hkb1
      go_wp2_with fail
      go_region_held3 (fun wx => wx.cell? ⟨b1, o1, none⟩ = some (.int .i64 (p : Int)))
        (first
          | exact KEEP.out _ rfl
          | exact KEEP.out _ (Below.heap_alloc w1 _ b1 hb1l)
          | exact HK3.out
          | exact HK2.out)
        (first
          | (refine step_of_run rfl (.tmp 36) (.tmp 38) 24 rfl _ _ (by simp [Act.eval, Act.put]) (by simp [Act.eval, Act.put]) _ _ hr3 ?_))
      all_goals
        clear hr1' hr2' hr3 hr4 hc1 KEEP HK3 HK2
        obtain ⟨D', vf', hG2⟩ := HG2.out
        rw [← HLF.out] at hG2
        go_wp2_with fail
        go_roundw
        case rel => exact ⟨i + 1, D', vf', by go_num, by omega, hG2, HX2.out, HB2.out⟩
        case measure => simp [intOf]; omega
    · obtain rfl : i = nS := by omega
      have hown := HG.out.own
      clear hB
      go_wp2_with (first | (at_range; refine wpList_range_own _ rfl _ _ rfl 2 24 Tryz.lawK Tryz.mapT rawE (w.heap.size + 1) i D rfl hown ?_; intro w0 hrg0 hg0 hs0))
      have HC : Hid (RngC D vf (w.heap.size + 1) wr.heap.size w.heap.size) := ⟨HG.out.at_, HG.out.apart, fun p g hp hg => (HG.out.row p hp).lt g hg, Nat.lt_succ_self _, hsz⟩
      have HR0 : Hid (RngI w (w.heap.size + 1) wr.heap.size w.heap.size i D vf S [] [] (Maps.has D) (Maps.size D) (.slice none 0 0) w0) := by
        have hbl : Below wr.heap.size wr w0 := ⟨hg0.os, hg0.tape, hg0.output, hg0.size, fun k hk => hg0.block k hk (by simp)⟩
        refine ⟨hrg0, Ints.nil _ _, by simp, fun p hp => by simp at hp, fun kl => ?_, fun p hp _ => ?_, HX.out.below hbl (by omega), below_size HB.out hbl⟩
        · rw [HG.out.has_ kl]
          have e : ∀ p, Lf S i p ≠ [] ↔ grp S p ≠ [] := fun p => by rw [← HN.out]; exact Lf_ne S p
          constructor
          · rintro ⟨p, h1, h2, h3⟩; exact ⟨p, h1, h2, (e p).1 h3, by simp⟩
          · rintro ⟨p, h1, h2, h3, _⟩; exact ⟨p, h1, h2, (e p).2 h3⟩
        · rw [HN.out]; exact (HG.out.row p hp).below hbl
      clear hrg0 hg0 hown HG HX HB hmm
      have hbm : w.heap.size + 1 < wr.heap.size := hsz
      generalize hri : wr.heap.size = ri at *
      go_frame
      go_loopw [11] (fun u wq => ∃ (left : Lit → Bool) (cnt : Nat) (ks xs : List Nat), RngI w (w.heap.size + 1) ri w.heap.size i D vf S ks xs left cnt u wq ∧ xs = foldU (ks.map fun p => (grp S p).reverse) ∧ okU xs) (fun _ wq => wq.rangeLeft (w.heap.size + 1) ri)
      case atStart => exact ⟨_, _, [], [], HR0.out, by simp [foldU], fun x hx => by simp at hx⟩
      case round =>
        clear HR0
        obtain ⟨left, cnt, ks, xs, hR, hxs, hok⟩ := hrel
        have HR := Lib.hid hR
        have HXS := Lib.hid hxs
        have HOK := Lib.hid hok
        have hrg := hR.rg
        clear hR hxs hok
        go_wp2_with (at_next; refine wpList_next_ranges _ rfl _ rfl 2 Tryz.lawK rawE (Value.int .i64) (fun v => v) (fun key kl hkey => by obtain ⟨x, rfl, _⟩ := Maps.keyOf_int_inv Tryz.underlying2 hkey; exact ⟨x, rfl⟩) (fun v y _ => ⟨v, rfl⟩) _ _ _ _ left cnt rfl hrg ?_ ?_)
        · intro hc0 hl0
          have HALL : Hid (xs = colS S) := by
            show _ = _
            rw [HXS.out]
            refine (colS_of HS.out HR.out.nd HR.out.kb fun p hp => ?_).symm
            obtain ⟨q, hq, hqp⟩ := grp_ne.1 hp
            have hp9 : p ≤ 1000000 := hqp ▸ (bs_le (HS.out q hq)).1
            apply Classical.byContradiction
            intro hk
            have := (HR.out.lf (keyL p)).2 ⟨p, rfl, hp9, hp, hk⟩
            rw [hl0] at this; simp at this
          have HOKC : Hid (okU (colS S)) := by rw [← HALL.out]; exact HOK.out
          have hxl : xs.length ≤ 1000000 := by
            rw [HALL.out]; have := colS_len S; rw [HN.out] at this; omega
          have hI11 := HR.out.li
          have HREV : Hid (Calls Tryz.prog 45 #[u11] wr (RetRow wr (ri + 1) u11 (nI xs).reverse)) := f_RevO hI11 (by rw [nI_length]; exact hxl)
          obtain ⟨a11, n11, c11, rfl⟩ : ∃ a n c, u11 = Value.slice a n c := by obtain ⟨ao, c, e, _⟩ := hI11.form; exact ⟨_, _, _, e⟩
          have HLT := Lib.hid hI11.lt
          clear hrg hI11 hl0 hc0
          go_wp2_with fail
          refine HREV.out.mono ?_
          rintro e w2 ⟨rfl, hI2, hg2⟩
          rw [nI_reverse, HALL.out] at hI2
          have HI2 := Lib.hid hI2
          have HX2 : Hid (B2 w2 w.heap.size (.slice none 0 0) (.int .i64 0)) := (hg2.block _ HR.out.bx.lt (fun e => by have := (HLT.out _ e.symm).1; omega)).trans HR.out.bx
          have HB2 : Hid (Below w.heap.size w w2) := HR.out.be.trans ⟨hg2.os, hg2.tape, hg2.output, hg2.size, fun k hk => hg2.block k (Nat.lt_of_lt_of_le hk HR.out.be.size) (fun e => by have := (HLT.out k e.symm).1; omega)⟩
          have z0 := HX2.out.c0
          have z1 := HX2.out.c1
          have f0 := HX2.out.f 0
          have f1 := HX2.out.f 1
          have hs2 := HX2.out.lt
          clear hI2 hg2 HREV HXS HOK
          by_cases hr10 : 10 < r
          · have HO : Hid (SumO S r [] 0 3) := .inr ⟨fun h => by have := h.2.1; have := h.2.2.1; omega, rfl, rfl, rfl⟩
            go_wp2_with fail
            have q := HX2.out.set (.slice none 0 0) (.int .i64 0)
            have q0 := q.c0
            have q1 := q.c1
            refine bodyPost_ret (v := .tuple #[.agg #[.slice none 0 0, .int .i64 0], .int .i64 3]) (by simp [results, Tryz.results27, go_sem, q0, q1]) rfl ?_
            exact ⟨_, [], 0, 3, rfl, Ints.nil _ _, HO.out, below_set2 HB2.out (Nat.le_refl _) _ _⟩
          · have HM : Hid (Calls Tryz.prog 46 #[.agg #[.slice a11 n11 c11, .int .i64 r]] w2 (RetMade w2 (.slice a11 n11 c11) (colS S).reverse r)) := i_abelianResult _ _ r w2 HI2.out.rd (fun f hf => by
              have := HOKC.out f (List.mem_reverse.1 hf); omega) (by rw [List.length_reverse, ← HALL.out]; exact hxl) (by omega) (by omega)
            go_wp2_with fail
            refine HM.out.mono ?_
            rintro e w10 ⟨v10, f10, r10, k10, rfl, hv10, hO10, hB10⟩
            have hR10 : Ints w10 (ri + 1) v10 (nI f10) := by
              rcases hv10 with ⟨h1, h2⟩ | ⟨h1, h2⟩
              · rw [h1, h2]; exact HI2.out.below hB10
              · rw [h1, h2]; exact Ints.nil _ _
            clear hv10
            obtain ⟨a10, n10, c10, rfl⟩ : ∃ a n c, v10 = Value.slice a n c := by obtain ⟨ao, c, e, _⟩ := hR10.form; exact ⟨_, _, _, e⟩
            have HZ10 := Lib.hid (HX2.out.below hB10 hs2)
            have HB10 := Lib.hid (below_size HB2.out hB10)
            have HR10 := Lib.hid hR10
            have HO10 : Hid (SumO S r f10 r10 k10) := sum_made HOKC.out hO10
            clear z0 z1 f0 f1 hB10 hR10 hO10 HM HX2
            have z0 := HZ10.out.c0
            have z1 := HZ10.out.c1
            have f0 := HZ10.out.f 0
            have f1 := HZ10.out.f 1
            go_wp2_with fail
            have q := HZ10.out.set (.slice a10 n10 c10) (.int .i64 r10)
            have q0 := q.c0
            have q1 := q.c1
            refine bodyPost_ret (v := .tuple #[.agg #[.slice a10 n10 c10, .int .i64 r10], .int .i64 k10]) (by simp [results, Tryz.results27, go_sem, q0, q1]) rfl ?_
            exact ⟨_, f10, r10, k10, rfl, (HR10.out.chg (chg_set2 _ _ _ _) fun g hg => .inr (by have := (HR10.out.lt g hg).1; omega)).mono (by omega), HO10.out, below_set2 HB10.out (Nat.le_refl _) _ _⟩
        · intro x c kl yd yp w1 cnt1 hkey hlk hv hat hrg1 hlt1 hg1 hs1 hen
          obtain ⟨p, rfl, hp9, hgp, hpk⟩ := (HR.out.lf kl).1 hlk
          obtain ⟨x', hx', hx2, _⟩ := Maps.keyOf_int_inv Tryz.underlying2 hkey
          obtain rfl : x = (p : Int) := by
            have e1 : x = x' := by injection hx'
            have e2 : (p : Int) = x' := by unfold keyL at hx2; injection hx2
            rw [e1, e2]
          obtain rfl : c = vf p := by
            have h1 := hat (.held nilS)
            rw [HC.out.at_ p hp9] at h1
            have h2 : yd = .held c := by
              simp only [rawE, Option.some.injEq, Prod.mk.injEq] at hv
              exact hv.1.symm
            rw [h2] at h1
            injection h1 with h1
            exact h1.symm
          have HR1 := Lib.hid (HR.out.next HC.out (Nat.le_refl _) hp9 hpk hrg1 hg1)
          have HROW : Hid (Ints w1 (w.heap.size + 1 + 1) (vf p) (nI (Lf S S.length p))) := own_of_block (HR.out.row p hp9 hpk) fun g hg' => hg1.block g ((HR.out.row p hp9 hpk).lt g hg').2 (fun e => by cases e; have := HC.out.lt p ri hp9 hg'; omega)
          have HLEN : Hid ((Lf S S.length p).length ≤ 1000000) := by
            show _ ≤ _
            unfold Lf
            rw [List.take_length]
            have := List.length_filter_le (fun q => bs q == p) S
            rw [HN.out] at this; omega
          have HSO := Lib.hid (f_Sort HROW.out HLEN.out)
          have hrl1 : cnt1 < wr.rangeLeft (w.heap.size + 1) ri := by rw [hrg.left_eq]; exact hlt1
          have HMS := Lib.hid hrl1
          obtain ⟨ap, np, cp, hvp⟩ : ∃ a n c, vf p = Value.slice a n c := by obtain ⟨ao, c, e, _⟩ := HROW.out.form; exact ⟨_, _, _, e⟩
          have HVP := Lib.hid hvp
          rw [hvp] at HSO hen ⊢
          clear hkey hv hat hrg hrg1 hlt1 hg1 hs1 hx' hx2 hrl1 hlk hgp hvp HROW HLEN
          go_wp2_with fail
          refine HSO.out.mono ?_
          rintro e w2 ⟨ys, hperm, hup, rfl, hI2, hg2⟩
          obtain rfl : ys = grp S p := up_uniq (hperm.trans (Lf_all S p)) hup (grp_up S p)
          have hgl : (grp S p).length ≤ 100000 := by
            rw [(grp_perm S p).length_eq]
            have := List.length_filter_le (fun q => bs q == p) S
            rw [HN.out] at this; omega
          have HREV := Lib.hid (f_RevO hI2 (by rw [nI_length]; omega))
          have HG2 := Lib.hid hg2
          clear hperm hup hI2 hg2 HSO hen
          go_wp2_with fail
          refine HREV.out.mono ?_
          rintro e w3 ⟨rfl, hI3, hg3⟩
          rw [nI_reverse] at hI3
          have HR3 : Hid (RngI w (w.heap.size + 1) ri w.heap.size i D vf S (ks ++ [p]) xs (fun z => left z && !z.sameKey (keyL p)) cnt1 u11 w3) :=
            ((HR1.out.turn HC.out (Nat.le_refl _) hp9 (by simp) (by rw [HVP.out]; exact HG2.out)).turn HC.out (Nat.le_refl _) hp9 (by simp) (by rw [HVP.out]; exact hg3))
          have HFU : Hid (foldU ((ks ++ [p]).map fun p => (grp S p).reverse) = mulU xs (grp S p).reverse) := by
            show _ = _
            rw [List.map_append, List.map_singleton, foldU_snoc, ← HXS.out]
          have HQP : Hid (∀ q ∈ (grp S p).reverse, 1 ≤ q ∧ q ≤ 1000000) := fun q hq => by
            have h := HS.out q (grp_mem (List.mem_reverse.1 hq))
            exact ⟨by have := h.two; omega, h.1⟩
          have HPART : Hid (okU (colS S) → okU (mulU xs (grp S p).reverse)) := fun h => by
            rw [← HFU.out]
            exact colS_part HS.out HR3.out.nd HR3.out.kb h
          have hql : (grp S p).reverse.length ≤ 100000 := by rw [List.length_reverse]; exact hgl
          have HOK0 := HOK
          have HXP : Hid (∀ x ∈ xs, 1 ≤ x) := fun x hx => by
            rw [HXS.out] at hx
            obtain ⟨k, hk, rfl⟩ := List.getElem_of_mem hx
            have h1 : (foldU (ks.map fun p => (grp S p).reverse)).getD k 1 = prodN ((ks.map fun p => (grp S p).reverse).map fun l => l.getD k 1) := foldU_getD _ _
            rw [List.getD_eq_getElem?_getD, List.getElem?_eq_getElem hk] at h1
            rw [show (foldU (ks.map fun p => (grp S p).reverse))[k] = _ from h1]
            refine prodN_pos fun y hy => ?_
            obtain ⟨l, hl, rfl⟩ := List.mem_map.1 hy
            obtain ⟨p', _, rfl⟩ := List.mem_map.1 hl
            exact getD_ge1 (fun q hq => by have := (HS.out q (grp_mem (List.mem_reverse.1 hq))).two; omega) k
          clear HREV HG2 hg3 HR1
          generalize (grp S p).reverse = Q at *
          obtain ⟨nq, hnq⟩ : ∃ n, Q.length = n := ⟨_, rfl⟩
          have HNQ := Lib.hid hnq
          rw [hnq] at hql
          have hnp : np = nq := by
            obtain ⟨_, _, e, _⟩ := hI3.form
            injection e with _ e2 _
            rw [e2, nI_length, hnq]
          subst hnp
          have HI3 := Lib.hid hI3
          have HXL : Hid (xs.length ≤ 1000000) := by
            show _ ≤ _
            rw [HXS.out, foldU_length]
            apply maxN_le
            intro x hx
            simp only [List.map_map, List.mem_map, Function.comp] at hx
            obtain ⟨p', _, rfl⟩ := hx
            rw [List.length_reverse, (grp_perm S p').length_eq]
            have := List.length_filter_le (fun q => bs q == p') S
            rw [HN.out] at this; omega
          clear hI3 hnq
          go_wp2_with fail
          go_loopw [11, 53] (fun u jv wq => ∃ (j : Nat) (zs : List Nat), jv = .int .i64 j ∧ j ≤ np ∧ zs = mulU xs (Q.take j) ∧ okU zs ∧ RngI w (w.heap.size + 1) ri w.heap.size i D vf S (ks ++ [p]) zs (fun z => left z && !z.sameKey (keyL p)) cnt1 u wq ∧ Ints wq (w.heap.size + 1 + 1) (.slice ap np cp) (nI Q)) (fun _ jv _ => np - (intOf jv).toNat)
          case atStart => exact ⟨0, xs, rfl, Nat.zero_le _, by rw [List.take_zero, mulU_nil], HOK.out, HR3.out, HI3.out⟩
          case round =>
            clear HR3 HI3
            obtain ⟨j, zs, rfl, hjn, hzs, hzo, hRj, hIq⟩ := hrel
            by_cases hjq : j < np
            · have hQl : j < Q.length := by rw [HNQ.out]; exact hjq
              have hst := mulU_step xs Q j hQl
              have hhe := mulU_here xs Q j hQl
              have hqv := HQP.out (Q.getD j 0) (getD_mem_nat hQl)
              have hxv := getD_ge1 HXP.out j
              have HQ1 : Hid (Q.getD j 1 = Q.getD j 0) := by
                show _ = _
                rw [List.getD_eq_getElem?_getD, List.getD_eq_getElem?_getD, List.getElem?_eq_getElem hQl]; rfl
              have hzl : zs.length = max xs.length j := by rw [hzs, mulU_length, List.length_take, Nat.min_eq_left (by omega)]
              have hzl9 : zs.length ≤ 2000000 := by have := HXL.out; omega
              have hzj : j ≤ zs.length := by omega
              rw [← hzs] at hst hhe
              have HOK := Lib.hid hzo
              have HRj := Lib.hid hRj
              obtain ⟨bq, oq, rfl, hcq⟩ := hIq.rd.at (j := j) (by rw [nI_length]; exact hQl)
              have HIq := Lib.hid hIq
              rw [nI_getD] at hcq
              have hI11 := hRj.li
              have hxv0 : xs.getD j 1 = xs.getD j 1 := rfl
              have hx9 : xs.getD j 1 ≤ 1000000 := okU_getD.1 HOK0.out j
              generalize hqe : Q.getD j 0 = qv at *
              generalize hxe : xs.getD j 1 = xv at *
              have HXV := Lib.hid hxe
              have hrl := hRj.rg.lt
              have i1 : (0 : Int) ≤ (j : Int) := by omega
              have i2 : (j : Int) < (np : Int) := by omega
              clear hqe hxe hxv0 hzo hIq hQl hzl
              by_cases hlj : zs.length = j
              · rw [if_pos hlj] at hst hhe
                have HST := Lib.hid hst
                have hll : (nI zs).length ≤ 2000000 := by rw [nI_length]; omega
                obtain ⟨a11, c11, rfl, _, _⟩ := rd_formN hI11.rd (n := j) (by rw [nI_length, hlj])
                clear hst hzs
                go_wp2_with (at_builtin; refine wp_app1 _ rfl _ _ rfl (ri + 1) i0 Tryz.underlying24 hi hz0 hz1 hz2 _ _ rfl hI11 (1 : Int) rfl (by omega) (by omega) ?_)
                intro v9 w9 hI9 hG9 hB9
                have hB90 : Below (ri + 1) wr w9 := hB9
                have hI10 : Ints w9 (ri + 1) v9 (nI (zs ++ [1])) := by rw [nI_snoc]; exact hI9
                have HR9 := Lib.hid (HRj.out.list HC.out (Nat.le_refl _) hB90 hI10)
                have HIq9 : Hid (Ints w9 (w.heap.size + 1 + 1) (.slice (some ⟨bq, oq, none⟩) np cp) (nI Q)) := own_of_block HIq.out fun g' hg' => hB90.block g' (by have := HC.out.lt p g' hp9 (by rw [HVP.out]; exact hg'); omega)
                have hcq9 : w9.cell? ⟨bq, oq + j, none⟩ = some (.int .i64 (qv : Int)) := (World.cell?_of_block (hB90.block bq (by have := HC.out.lt p bq hp9 (by rw [HVP.out]; rfl); omega))).trans hcq
                have hs9 : ri + 1 ≤ w9.heap.size := Nat.le_trans (by omega) hB90.size
                have HOK9 : Hid (okU (zs ++ [1])) := fun y hy => by
                  rcases List.mem_append.1 hy with h | h
                  · exact HOK.out y h
                  · rw [List.mem_singleton.1 h]; omega
                have hl1 : (zs ++ [1]).length = j + 1 := by rw [List.length_append, hlj]; rfl
                clear hI9 hG9 hB9 hB90 hI11 hRj hcq hlj hzj hzl9 hll
                -- the list holds zs ++ [1], xv at place j
                obtain ⟨g, cg, hug, _⟩ := hI10.nz (fun h => by have h2 := congrArg List.length h; rw [nI_length] at h2; simp only [List.length_nil] at h2; omega)
                rw [nI_length, hl1] at hug
                subst hug
                obtain ⟨hcl, hfr⟩ := hI10.cell (by rw [nI_length, hl1]) j (by omega)
                rw [nI_getD, hhe] at hcl
                have hgl := (hI10.lt g rfl).1
                have HIL := Lib.hid hI10
                skip
                clear hI10 hhe
                have j3 : (j : Int) < ((j + 1 : Nat) : Int) := by omega
                by_cases hl : 1000000 / qv < xv
                · have hl' : (1000000 : Int) / (qv : Int) < (xv : Int) := (lim_int hqv.1).2 hl
                  have HNO : Hid (¬ okU (colS S)) := fun h => by
                    have h1 := okU_getD.1 (HPART.out h) j
                    rw [mulU_getD, HXV.out, HQ1.out] at h1
                    have h2 := (lim_iff hqv.1).1 hl
                    rw [Nat.mul_comm] at h2
                    exact h2 h1
                  have z0 := HR9.out.bx.c0
                  have z1 := HR9.out.bx.c1
                  have f0 := HR9.out.bx.f 0
                  have f1 := HR9.out.bx.f 1
                  clear hl
                  go_wp2_with fail
                  go_quiet (fail)
                  go_wp2_with fail
                  have q := (show B2 (w9.drewN nq) w.heap.size (.slice none 0 0) (.int .i64 0) from HR9.out.bx).set (.slice none 0 0) (.int .i64 0)
                  have q0 := q.c0
                  have q1 := q.c1
                  refine bodyPost_ret (v := .tuple #[.agg #[.slice none 0 0, .int .i64 0], .int .i64 3]) (by simp [results, Tryz.results27, go_sem, q0, q1]) rfl ?_
                  exact ⟨_, [], 0, 3, rfl, Ints.nil _ _, sum_lim HNO.out, below_set2 (bel_drewN HR9.out.be nq) (Nat.le_refl _) _ _⟩
                · have hl' : ¬ (1000000 : Int) / (qv : Int) < (xv : Int) := fun h => hl ((lim_int hqv.1).1 h)
                  have hm : xv * qv ≤ 1000000 := by
                    have := (lim_iff (x := xv) hqv.1)
                    rw [Nat.mul_comm]; omega
                  have hmi : (xv : Int) * (qv : Int) = ((xv * qv : Nat) : Int) := (Int.natCast_mul xv qv).symm
                  have hm2 : (xv : Int) * (qv : Int) ≤ 1000000 := by rw [hmi]; exact Int.ofNat_le.2 hm
                  have hm3 : 0 ≤ (xv : Int) * (qv : Int) := by rw [hmi]; exact Int.natCast_nonneg _
                  have HMI := Lib.hid hmi
                  have HM := Lib.hid hm
                  have HSET : Hid (∀ k, Ints ((w9.drewN k).setCell ⟨g, j, none⟩ (.int .i64 ((xv : Int) * (qv : Int)))) (ri + 1) (.slice (some ⟨g, 0, none⟩) (j + 1) cg) (nI ((zs ++ [1]).set j (xv * qv))) ∧ Below (ri + 1) w9 ((w9.drewN k).setCell ⟨g, j, none⟩ (.int .i64 ((xv : Int) * (qv : Int))))) := fun k => by
                    have hh : Ints (w9.drewN k) (ri + 1) (.slice (some ⟨g, 0, none⟩) (j + 1) cg) (nI (zs ++ [1])) := HIL.out.heap rfl
                    obtain ⟨h1, h2⟩ := hh.set (by rw [nI_length, hl1]) j ((xv : Int) * (qv : Int))
                    rw [hmi, nI_set] at h1
                    rw [hmi] at h2 ⊢
                    have hsz9 := (HIL.out.lt g rfl).2
                    have h3 := h2.below hgl (by show ri + 1 ≤ w9.heap.size; omega)
                    exact ⟨h1, ⟨h3.os, h3.tape, h3.output, h3.size, h3.block⟩⟩
                  clear hl hm hmi
                  go_wp2_with fail
                  go_quiet (fail)
                  go_wp2_with fail
                  go_roundw
                  case rel =>
                    have hS := HSET.out nq
                    refine ⟨j + 1, (zs ++ [1]).set j (xv * qv), by go_num, by omega, HST.out.symm, fun y hy => ?_, HR9.out.list HC.out (Nat.le_refl _) hS.2 hS.1, own_of_block HIq9.out fun g' hg' => hS.2.block g' (by have := HC.out.lt p g' hp9 (by rw [HVP.out]; exact hg'); omega)⟩
                    rcases List.mem_or_eq_of_mem_set hy with h | h
                    · exact HOK9.out y h
                    · rw [h]; exact HM.out
                  case measure => simp [intOf]; omega
              · rw [if_neg hlj] at hst hhe
                have HST := Lib.hid hst
                obtain ⟨zl, hze⟩ : ∃ n, zs.length = n := ⟨_, rfl⟩
                have hlj2 : j < zl := by omega
                have hne1 : ((j : Int) == (zl : Int)) = false := by rw [beq_eq_false_iff_ne]; omega
                have hne2 : ¬ ((j : Int) = (zl : Int)) := by omega
                have hne3 : ¬ j = zl := by omega
                have hzl8 : zl ≤ 2000000 := by omega
                clear hst hzs hRj hlj hzj hzl9
                have hs9 : ri + 1 ≤ wr.heap.size := hrl
                -- the list holds zs, xv at place j
                obtain ⟨g, cg, hug, _⟩ := hI11.nz (fun h => by have h2 := congrArg List.length h; rw [nI_length] at h2; simp only [List.length_nil] at h2; omega)
                rw [nI_length, hze] at hug
                subst hug
                obtain ⟨hcl, hfr⟩ := hI11.cell (by rw [nI_length, hze]) j (by omega)
                rw [nI_getD, hhe] at hcl
                have hgl := (hI11.lt g rfl).1
                have HIL := Lib.hid hI11
                have HZE := Lib.hid hze
                clear hze
                clear hI11 hhe
                have j3 : (j : Int) < ((zl : Nat) : Int) := by omega
                by_cases hl : 1000000 / qv < xv
                · have hl' : (1000000 : Int) / (qv : Int) < (xv : Int) := (lim_int hqv.1).2 hl
                  have HNO : Hid (¬ okU (colS S)) := fun h => by
                    have h1 := okU_getD.1 (HPART.out h) j
                    rw [mulU_getD, HXV.out, HQ1.out] at h1
                    have h2 := (lim_iff hqv.1).1 hl
                    rw [Nat.mul_comm] at h2
                    exact h2 h1
                  have z0 := HRj.out.bx.c0
                  have z1 := HRj.out.bx.c1
                  have f0 := HRj.out.bx.f 0
                  have f1 := HRj.out.bx.f 1
                  clear hl
                  go_wp2_with fail
                  go_quiet (fail)
                  go_wp2_with fail
                  have q := (show B2 (wr.drewN nq) w.heap.size (.slice none 0 0) (.int .i64 0) from HRj.out.bx).set (.slice none 0 0) (.int .i64 0)
                  have q0 := q.c0
                  have q1 := q.c1
                  refine bodyPost_ret (v := .tuple #[.agg #[.slice none 0 0, .int .i64 0], .int .i64 3]) (by simp [results, Tryz.results27, go_sem, q0, q1]) rfl ?_
                  exact ⟨_, [], 0, 3, rfl, Ints.nil _ _, sum_lim HNO.out, below_set2 (bel_drewN HRj.out.be nq) (Nat.le_refl _) _ _⟩
                · have hl' : ¬ (1000000 : Int) / (qv : Int) < (xv : Int) := fun h => hl ((lim_int hqv.1).1 h)
                  have hm : xv * qv ≤ 1000000 := by
                    have := (lim_iff (x := xv) hqv.1)
                    rw [Nat.mul_comm]; omega
                  have hmi : (xv : Int) * (qv : Int) = ((xv * qv : Nat) : Int) := (Int.natCast_mul xv qv).symm
                  have hm2 : (xv : Int) * (qv : Int) ≤ 1000000 := by rw [hmi]; exact Int.ofNat_le.2 hm
                  have hm3 : 0 ≤ (xv : Int) * (qv : Int) := by rw [hmi]; exact Int.natCast_nonneg _
                  have HMI := Lib.hid hmi
                  have HM := Lib.hid hm
                  have HSET : Hid (∀ k, Ints ((wr.drewN k).setCell ⟨g, j, none⟩ (.int .i64 ((xv : Int) * (qv : Int)))) (ri + 1) (.slice (some ⟨g, 0, none⟩) (zl) cg) (nI ((zs).set j (xv * qv))) ∧ Below (ri + 1) wr ((wr.drewN k).setCell ⟨g, j, none⟩ (.int .i64 ((xv : Int) * (qv : Int))))) := fun k => by
                    have hh : Ints (wr.drewN k) (ri + 1) (.slice (some ⟨g, 0, none⟩) (zl) cg) (nI (zs)) := HIL.out.heap rfl
                    obtain ⟨h1, h2⟩ := hh.set (by rw [nI_length, HZE.out]) j ((xv : Int) * (qv : Int))
                    rw [hmi, nI_set] at h1
                    rw [hmi] at h2 ⊢
                    have hsz9 := (HIL.out.lt g rfl).2
                    have h3 := h2.below hgl (by show ri + 1 ≤ wr.heap.size; omega)
                    exact ⟨h1, ⟨h3.os, h3.tape, h3.output, h3.size, h3.block⟩⟩
                  clear hl hm hmi
                  go_wp2_with fail
                  go_quiet (fail)
                  go_wp2_with fail
                  go_roundw
                  case rel =>
                    have hS := HSET.out nq
                    refine ⟨j + 1, (zs).set j (xv * qv), by go_num, by omega, HST.out.symm, fun y hy => ?_, HRj.out.list HC.out (Nat.le_refl _) hS.2 hS.1, own_of_block HIq.out fun g' hg' => hS.2.block g' (by have := HC.out.lt p g' hp9 (by rw [HVP.out]; exact hg'); omega)⟩
                    rcases List.mem_or_eq_of_mem_set hy with h | h
                    · exact HOK.out y h
                    · rw [h]; exact HM.out
                  case measure => simp [intOf]; omega
            · obtain rfl : j = np := by omega
              have HZ : Hid (zs = foldU ((ks ++ [p]).map fun p => (grp S p).reverse)) := by
                show _ = _
                rw [HFU.out, hzs, ← HNQ.out, List.take_length]
              have HZO := Lib.hid hzo
              have HRj := Lib.hid hRj
              have hleft := hRj.rg.left_eq
              have HMM : Hid (wr.rangeLeft (w.heap.size + 1) ri < _) := Nat.lt_of_le_of_lt (Nat.le_of_eq hleft) HMS.out
              clear hRj hzs hzo hIq hleft
              go_wp2_with fail
              go_roundw
              case rel => exact ⟨_, cnt1, ks ++ [p], zs, HRj.out, HZ.out, HZO.out⟩
              case measure => exact HMM.out
end Go.Proofs.YtnedihpppbjmdaaGreatDoor
