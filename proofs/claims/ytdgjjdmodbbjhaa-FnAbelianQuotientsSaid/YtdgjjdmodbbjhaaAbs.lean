/-
  The draw of two abelian groups.
-/
import Derived.Test.YtdgjjdmodbbjhaaAbr
namespace Go.Proofs.Ytdgjjdmodbbjhaa
set_option linter.unusedVariables false
set_option linter.unusedSimpArgs false
set_option maxRecDepth 100000
open Go.RowKit

/-- two groups that a draw leaves -/
def TwoP (w : World) (e : Ending) (w' : World) : Prop := ∃ va fa ra vb fb rb, e = .returned (.tuple #[.agg #[va, .int .i64 ra], .agg #[vb, .int .i64 rb]]) ∧ (fa.length ≤ 10 ∧ (∀ f ∈ fa, f ≤ 2000000) ∧ -1 ≤ ra ∧ ra ≤ 11) ∧ (fb.length ≤ 10 ∧ (∀ f ∈ fb, f ≤ 2000000) ∧ -1 ≤ rb ∧ rb ≤ 11) ∧ Rd w' va (nI fa) ∧ Rd w' vb (nI fb) ∧ Below w.heap.size w w'
--== two boxes
/-- two groups in boxes, beside a source and the empty results -/
structure DB (w wb : World) (vc : Value) (n b b5 : Nat) (va : Value) (fa : List Nat) (ra : Int) (vb : Value) (fb : List Nat) (rb : Int) (wz : World) : Prop where
  ia : Ints wz (b + 1) va (nI fa)
  la : ∀ g, va.ownBlock = some g → g < b5
  ib : Ints wz (b + 1) vb (nI fb)
  x5 : B2 wz b5 va (.int .i64 ra)
  x6 : B2 wz (b5 + 1) vb (.int .i64 rb)
  z0 : B2 wz w.heap.size (.slice none 0 0) (.int .i64 0)
  z1 : B2 wz (w.heap.size + 1) (.slice none 0 0) (.int .i64 0)
  be : Below w.heap.size w wz
  src : Src wb vc n b wz
  o0 : w.heap.size + 2 ≤ b
  o1 : b < b5
  o2 : wb.heap.size = w.heap.size + 2
theorem DB.next {w wb : World} {vc : Value} {n b b5 : Nat} {va : Value} {fa : List Nat} {ra : Int} {vb : Value} {fb : List Nat} {rb : Int} {wz w' : World} (h : DB w wb vc n b b5 va fa ra vb fb rb wz) (hS : Src wb vc n b w') (hC : Chg b (b + 1) wz w') : DB w wb vc n b b5 va fa ra vb fb rb w' where
  ia := h.ia.chgb hC (Nat.lt_succ_self _)
  la := h.la
  ib := h.ib.chgb hC (Nat.lt_succ_self _)
  x5 := (hC.block _ h.x5.lt (by have := h.o1; omega)).trans h.x5
  x6 := (hC.block _ h.x6.lt (by have := h.o1; omega)).trans h.x6
  z0 := (hC.block _ h.z0.lt (by have := h.o0; omega)).trans h.z0
  z1 := (hC.block _ h.z1.lt (by have := h.o0; omega)).trans h.z1
  be := ⟨hC.os.trans h.be.os, hC.tape.trans h.be.tape, hC.output.trans h.be.output, Nat.le_trans h.be.size hC.size, fun k hk => (hC.block k (Nat.lt_of_lt_of_le hk h.be.size) (by have := h.o0; omega)).trans (h.be.block k hk)⟩
  src := hS
  o0 := h.o0
  o1 := h.o1
  o2 := h.o2
theorem DB.bel {w wb : World} {vc : Value} {n b b5 : Nat} {va : Value} {fa : List Nat} {ra : Int} {vb : Value} {fb : List Nat} {rb : Int} {wz w' : World} (h : DB w wb vc n b b5 va fa ra vb fb rb wz) (hb : Below wz.heap.size wz w') : DB w wb vc n b b5 va fa ra vb fb rb w' where
  ia := h.ia.below hb
  la := h.la
  ib := h.ib.below hb
  x5 := h.x5.below hb h.x5.lt
  x6 := h.x6.below hb h.x6.lt
  z0 := h.z0.below hb h.z0.lt
  z1 := h.z1.below hb h.z1.lt
  be := below_size h.be hb
  src := h.src.below hb
  o0 := h.o0
  o1 := h.o1
  o2 := h.o2
theorem DB.setB {w wb : World} {vc : Value} {n b b5 : Nat} {va : Value} {fa : List Nat} {ra : Int} {vb : Value} {fb : List Nat} {rb : Int} {wz : World} (h : DB w wb vc n b b5 va fa ra vb fb rb wz) {v9 : Value} {f9 : List Nat} (hI : Ints wz (b + 1) v9 (nI f9)) (hn : ∀ g, v9.ownBlock = some g → b5 + 1 < g) (r9 : Int) :
    DB w wb vc n b b5 va fa ra v9 f9 r9 ((wz.setCell ⟨b5 + 1, 0, none⟩ v9).setCell ⟨b5 + 1, 1, none⟩ (.int .i64 r9)) := by
  have hbl : Below (b5 + 1) wz ((wz.setCell ⟨b5 + 1, 0, none⟩ v9).setCell ⟨b5 + 1, 1, none⟩ (.int .i64 r9)) := (below_setCell wz (Nat.le_refl _) 0 v9).trans (below_setCell _ (Nat.le_refl _) 1 _)
  have o0 := h.o0
  have o1 := h.o1
  have o2 := h.o2
  exact ⟨own_of_block h.ia fun g hg => hbl.block g (by have := h.la g hg; omega), h.la, own_of_block hI fun g hg => (by
      have := hn g hg
      rw [heap_setCell_other _ _ _ _ (by show g ≠ b5 + 1; omega), heap_setCell_other _ _ _ _ (by show g ≠ b5 + 1; omega)]), h.x5.below hbl (Nat.lt_succ_self _), h.x6.set _ _, h.z0.below hbl (by omega), h.z1.below hbl (by omega), h.be.trans (hbl.mono (by omega)), h.src.belowB hbl (by omega) (by omega), o0, o1, o2⟩
theorem DB.done {w wb : World} {vc : Value} {n b b5 : Nat} {va : Value} {fa : List Nat} {ra : Int} {vb : Value} {fb : List Nat} {rb : Int} {wz : World} (h : DB w wb vc n b b5 va fa ra vb fb rb wz) :
    B2 ((((wz.setCell ⟨w.heap.size, 0, none⟩ va).setCell ⟨w.heap.size, 1, none⟩ (.int .i64 ra)).setCell ⟨w.heap.size + 1, 0, none⟩ vb).setCell ⟨w.heap.size + 1, 1, none⟩ (.int .i64 rb)) w.heap.size va (.int .i64 ra) ∧
    B2 ((((wz.setCell ⟨w.heap.size, 0, none⟩ va).setCell ⟨w.heap.size, 1, none⟩ (.int .i64 ra)).setCell ⟨w.heap.size + 1, 0, none⟩ vb).setCell ⟨w.heap.size + 1, 1, none⟩ (.int .i64 rb)) (w.heap.size + 1) vb (.int .i64 rb) ∧
    Rd ((((wz.setCell ⟨w.heap.size, 0, none⟩ va).setCell ⟨w.heap.size, 1, none⟩ (.int .i64 ra)).setCell ⟨w.heap.size + 1, 0, none⟩ vb).setCell ⟨w.heap.size + 1, 1, none⟩ (.int .i64 rb)) va (nI fa) ∧
    Rd ((((wz.setCell ⟨w.heap.size, 0, none⟩ va).setCell ⟨w.heap.size, 1, none⟩ (.int .i64 ra)).setCell ⟨w.heap.size + 1, 0, none⟩ vb).setCell ⟨w.heap.size + 1, 1, none⟩ (.int .i64 rb)) vb (nI fb) ∧
    Below w.heap.size w ((((wz.setCell ⟨w.heap.size, 0, none⟩ va).setCell ⟨w.heap.size, 1, none⟩ (.int .i64 ra)).setCell ⟨w.heap.size + 1, 0, none⟩ vb).setCell ⟨w.heap.size + 1, 1, none⟩ (.int .i64 rb)) := by
  have o0 := h.o0
  have hx1 : B2 ((wz.setCell ⟨w.heap.size, 0, none⟩ va).setCell ⟨w.heap.size, 1, none⟩ (.int .i64 ra)) (w.heap.size + 1) (.slice none 0 0) (.int .i64 0) := by
    unfold B2
    rw [heap_setCell_other _ _ _ _ (by show w.heap.size + 1 ≠ w.heap.size; omega), heap_setCell_other _ _ _ _ (by show w.heap.size + 1 ≠ w.heap.size; omega)]
    exact h.z1
  have hx0 := h.z0.set va (.int .i64 ra)
  have hbl : Below (w.heap.size + 1) ((wz.setCell ⟨w.heap.size, 0, none⟩ va).setCell ⟨w.heap.size, 1, none⟩ (.int .i64 ra)) ((((wz.setCell ⟨w.heap.size, 0, none⟩ va).setCell ⟨w.heap.size, 1, none⟩ (.int .i64 ra)).setCell ⟨w.heap.size + 1, 0, none⟩ vb).setCell ⟨w.heap.size + 1, 1, none⟩ (.int .i64 rb)) :=
    (below_setCell _ (Nat.le_refl _) 0 vb).trans (below_setCell _ (Nat.le_refl _) 1 _)
  have hbw : Below w.heap.size wz ((wz.setCell ⟨w.heap.size, 0, none⟩ va).setCell ⟨w.heap.size, 1, none⟩ (.int .i64 ra)) := (below_setCell _ (Nat.le_refl _) 0 va).trans (below_setCell _ (Nat.le_refl _) 1 _)
  have keep : ∀ {v : Value} {xs : List Int}, Ints wz (b + 1) v xs → Rd ((((wz.setCell ⟨w.heap.size, 0, none⟩ va).setCell ⟨w.heap.size, 1, none⟩ (.int .i64 ra)).setCell ⟨w.heap.size + 1, 0, none⟩ vb).setCell ⟨w.heap.size + 1, 1, none⟩ (.int .i64 rb)) v xs := fun {v xs} hI =>
    ((hI.chg (chg_set2 _ _ _ _) fun g hg => .inr (by have := (hI.lt g hg).1; omega)).chg (chg_set2 _ _ _ _) fun g hg => .inr (by have := (hI.lt g hg).1; omega)).rd
  exact ⟨hx0.below hbl (Nat.lt_succ_self _), hx1.set _ _, keep h.ia, keep h.ib, h.be.trans (hbw.trans (hbl.mono (Nat.le_succ _)))⟩
theorem Rd.cutL {w : World} {ao : Option Addr} {n cap : Nat} {xs : List Int} (h : Rd w (.slice ao n cap) xs) (k : Nat) (hk : k ≤ n) : ∃ a', (if cap = k then ao else ao.map (·.add k)) = a' ∧ Rd w (.slice a' (n - k) (cap - k)) (xs.drop k) := by
  obtain ⟨ao', cap', he, h1, h2, h0, h3⟩ := h
  simp only [Value.slice.injEq] at he
  obtain ⟨rfl, rfl, rfl⟩ := he
  by_cases hc : cap = k
  · refine ⟨ao, if_pos hc, ao, cap - k, by rw [List.length_drop], by rw [List.length_drop]; omega, by omega, fun h => by rw [h0 h]; omega, .inl (by rw [List.length_drop]; omega)⟩
  · refine ⟨ao.map (·.add k), if_neg hc, ao.map (·.add k), cap - k, by rw [List.length_drop], by rw [List.length_drop]; omega, by omega, fun h => ?_, ?_⟩
    · cases ao with
      | none => rw [h0 rfl]; omega
      | some a => cases h
    · rcases h3 with h3 | ⟨b, off, rfl, h3⟩
      · exact .inl (by rw [List.length_drop]; omega)
      · refine .inr ⟨b, off + k, by simp [Addr.add_lit], fun j hj => ?_⟩
        rw [List.length_drop] at hj
        have := h3 (k + j) (by omega)
        rw [show off + k + j = off + (k + j) by omega, this]
        congr 2
        simp [List.getD, List.getElem?_drop]
--== spec.DrawHasAbelianQuotient
set_option maxHeartbeats 16000000 in
theorem s_DrawHas (v : Value) (n : Nat) (w : World) (h : RdU w v n) (hn : n ≤ 1000000) : Calls Try.prog 5 #[v] w (TwoP w) := by
  have hbl0 := below_size (below_alloc w (.cells #[.slice none 0 0, .int .i64 0] 26)) (below_alloc _ (.cells #[.slice none 0 0, .int .i64 0] 26))
  have HFR := Lib.hid (s_l01From v n _ (h.below hbl0 (Nat.le_refl _)) hn)
  have HBL0 := Lib.hid hbl0
  obtain ⟨ac, cc, rfl, _, _, _⟩ := h
  have HWB : Hid (∃ x, x = (w.alloc (.cells #[.slice none 0 0, .int .i64 0] 26)).alloc (.cells #[.slice none 0 0, .int .i64 0] 26)) := ⟨_, rfl⟩
  clear hbl0
  go_enter Try.func5, Try.ntmps5
  go_wp2_with fail
  refine HFR.out.mono ?_
  rintro e w1 ⟨b, rfl, hS1⟩
  have hx0 : B2 w1 w.heap.size (.slice none 0 0) (.int .i64 0) := ((B2.new w _ _).alloc _).below hS1.be (by simp; omega)
  have hx1 : B2 w1 (w.heap.size + 1) (.slice none 0 0) (.int .i64 0) := by
    have h := (B2.new (w.alloc (.cells #[.slice none 0 0, .int .i64 0] 26)) (.slice none 0 0) (.int .i64 0)).below hS1.be (by simp)
    rwa [show (w.alloc (.cells #[.slice none 0 0, .int .i64 0] 26)).heap.size = w.heap.size + 1 by simp] at h
  have hbe := HBL0.out.trans (hS1.be.mono HBL0.out.size)
  have ho0 : w.heap.size + 2 ≤ b := by have := hS1.lo; simp at this; omega
  have ho2 : ((w.alloc (.cells #[.slice none 0 0, .int .i64 0] 26)).alloc (.cells #[.slice none 0 0, .int .i64 0] 26)).heap.size = w.heap.size + 2 := by simp
  generalize (w.alloc (.cells #[.slice none 0 0, .int .i64 0] 26)).alloc (.cells #[.slice none 0 0, .int .i64 0] 26) = wb at *
  have HS1 := Lib.hid hS1
  have HX0 := Lib.hid hx0
  have HX1 := Lib.hid hx1
  have HBE := Lib.hid hbe
  have hb1 := hS1.lt
  clear hS1 hx0 hx1 hbe HFR HBL0 HWB
  go_wp2_with fail
  refine (s_l05Draw _ HS1.out).mono ?_
  rintro e w2 ⟨va, fa, ra, rfl, hfa1, hfa2, hra1, hra2, hIa, hS2, hC2⟩
  obtain ⟨aa, ca, rfl, _, _⟩ := rd_formN hIa.rd (nI_length fa)
  have HS2 := Lib.hid hS2
  have HC2 := Lib.hid hC2
  have HIA := Lib.hid hIa
  clear hS2 hC2 hIa
  go_wp2_with fail
  refine (s_l05Draw _ HS2.out).mono ?_
  rintro e w3 ⟨vb, fb, rb, rfl, hfb1, hfb2, hrb1, hrb2, hIb, hS3, hC3⟩
  obtain ⟨ab, cb, rfl, _, _⟩ := rd_formN hIb.rd (nI_length fb)
  have hb2 := HS2.out.lt
  have hb3 := hS3.lt
  have HD4 : Hid (DB w wb (.slice ac n cc) n b w3.heap.size (.slice aa fa.length ca) fa ra (.slice ab fb.length cb) fb rb ((w3.alloc (.cells #[.slice aa fa.length ca, .int .i64 ra] 26)).alloc (.cells #[.slice ab fb.length cb, .int .i64 rb] 26))) := by
    have hbl := below_size (below_alloc w3 (.cells #[.slice aa fa.length ca, .int .i64 ra] 26)) (below_alloc _ (.cells #[.slice ab fb.length cb, .int .i64 rb] 26))
    have hia : Ints w3 (b + 1) (.slice aa fa.length ca) (nI fa) := (HIA.out.mono hb1).chgb hC3 (Nat.lt_succ_self _)
    have hx6 := B2.new (w3.alloc (.cells #[.slice aa fa.length ca, .int .i64 ra] 26)) (.slice ab fb.length cb) (.int .i64 rb)
    rw [show (w3.alloc (.cells #[.slice aa fa.length ca, .int .i64 ra] 26)).heap.size = w3.heap.size + 1 by simp] at hx6
    have hc := HC2.out.tr hC3
    have hz0 : B2 w3 w.heap.size (.slice none 0 0) (.int .i64 0) := (hc.block _ HX0.out.lt (by omega)).trans HX0.out
    have hz1 : B2 w3 (w.heap.size + 1) (.slice none 0 0) (.int .i64 0) := (hc.block _ HX1.out.lt (by omega)).trans HX1.out
    have hbe : Below w.heap.size w w3 := ⟨hc.os.trans HBE.out.os, hc.tape.trans HBE.out.tape, hc.output.trans HBE.out.output, Nat.le_trans HBE.out.size hc.size, fun k hk => (hc.block k (Nat.lt_of_lt_of_le hk HBE.out.size) (by omega)).trans (HBE.out.block k hk)⟩
    exact ⟨hia.below hbl, fun g hg => (hia.lt g hg).2, (hIb.mono hb2).below hbl, (B2.new w3 _ _).alloc _, hx6, hz0.below hbl hz0.lt, hz1.below hbl hz1.lt, below_size hbe hbl, hS3.below hbl, ho0, hb3, ho2⟩
  obtain ⟨na, hna⟩ : ∃ k, fa.length = k := ⟨_, rfl⟩
  obtain ⟨nb, hnb⟩ : ∃ k, fb.length = k := ⟨_, rfl⟩
  have HNA := Lib.hid hna
  have HNB := Lib.hid hnb
  rw [hna, hnb] at HD4
  rw [hna] at hfa1 ⊢
  rw [hnb] at hfb1 ⊢
  have HFA := Lib.hid hfa2
  have HFB := Lib.hid hfb2
  have HNX : Hid (∀ (m : Int) (wx : World), Src wb (.slice ac n cc) n b wx → -1000 ≤ m → m ≤ 1000 → Calls Try.prog 13 #[.pointer (some ⟨b, 0, none⟩), .int .i64 m] wx (Nxt wb (.slice ac n cc) n b wx m)) := fun m wx hs h1 h2 => s_l01Next wx hs m (by omega) (by omega)
  obtain ⟨b5, hb5⟩ : ∃ x, x = w3.heap.size := ⟨_, rfl⟩
  rw [← hb5] at HD4
  clear hIb hS3 hC3 HS1 HX0 HX1 HBE HS2 HC2 HIA hna hnb hfa2 hfb2 hb1 hb2 hb3
  go_wp2_with fail
  try rw [← hb5]
  generalize (w3.alloc (.cells #[.slice aa na ca, .int .i64 ra] 26)).alloc (.cells #[.slice ab nb cb, .int .i64 rb] 26) = wd at *
  clear hb5
  refine (HNX.out 2 _ HD4.out.src (by omega) (by omega)).mono ?_
  rintro e w5 ⟨r5, rfl, r50, r51, hS5, hC5⟩
  have HD5 := Lib.hid (HD4.out.next hS5 hC5)
  have k0 := HD5.out.x5.c0
  clear hS5 hC5 HD4
  by_cases hz : r5 = 0
  · subst hz
    by_cases hn0 : na = 0
    · subst hn0
      have HDF := HD5
      clear HNX
      go_upto_region 5 with (fail)
      obtain ⟨q0, q1, q2, q3, q4⟩ := HDF.out.done
      have HQ := Lib.hid (And.intro q2 (And.intro q3 q4))
      have p0 := q0.c0
      have p1 := q0.c1
      have p2 := q1.c0
      have p3 := q1.c1
      have c0 := HDF.out.x5.c0
      have c1 := HDF.out.x5.c1
      have c2 := HDF.out.x6.c0
      have c3 := HDF.out.x6.c1
      have y0 := HDF.out.z0.c0
      have y1 := HDF.out.z0.c1
      have y2 := HDF.out.z1.c0
      have y3 := HDF.out.z1.c1
      have f0 := HDF.out.z0.f 0
      have f1 := HDF.out.z0.f 1
      have f2 := HDF.out.z1.f 0
      have f3 := HDF.out.z1.f 1
      have o0 := HDF.out.o0
      have o1 := HDF.out.o1
      have n1 : ¬ b5 + 1 = w.heap.size := by omega
      have n2 : ¬ w.heap.size = b5 + 1 := by omega
      have n3 : ¬ b5 = w.heap.size := by omega
      have n4 : ¬ w.heap.size = b5 := by omega
      have n5 : w.heap.size < b5 := by omega
      clear q0 q1 q2 q3 q4 o0 o1
      apply via
      case h =>
        go_region
        all_goals exact ⟨rfl, rfl⟩
      go_wp2_with fail
      refine bodyPost_ret (v := .tuple #[.agg #[.slice aa 0 ca, .int .i64 ra], .agg #[.slice ab nb cb, .int .i64 rb]]) (by simp [results, Try.results5, go_sem, p0, p1, p2, p3]) rfl ?_
      exact ⟨_, fa, _, _, fb, _, rfl, ⟨by rw [HNA.out]; exact hfa1, HFA.out, hra1, hra2⟩, ⟨by rw [HNB.out]; exact hfb1, HFB.out, hrb1, hrb2⟩, HQ.out.1.drew, HQ.out.2.1.drew, HQ.out.2.2.drew⟩
    · have hn0' : (0 : Int) < (na : Int) := by omega
      have hn1 : 0 < na := by omega
      have HN1 : Hid (∀ wx, Below w5.heap.size w5 wx → Calls Try.prog 13 #[.pointer (some ⟨b, 0, none⟩), .int .i64 (na : Int)] wx fun e w' => ∃ q : Nat, q < na ∧ e = .returned (.int .i64 (q : Int)) ∧ DB w wb (.slice ac n cc) n b b5 (.slice aa na ca) fa ra (.slice ab nb cb) fb rb w') := fun wx hx => (HNX.out (na : Int) wx (HD5.out.bel hx).src (by omega) (by omega)).mono fun e w' ⟨r, he, h0, h1, hS, hC⟩ => ⟨r.toNat, by omega, by rw [he, Int.toNat_of_nonneg h0], (HD5.out.bel hx).next hS hC⟩
      go_upto_region 4 with (fail)
      go_region_held3 (fun wx => wx.cell? ⟨b5, 0, none⟩ = some (.slice aa na ca))
        (first
          | exact k0
          | exact hD9.x5.c0
          | exact hD8.x5.c0
          | exact hD7.x5.c0
          | exact hD6.x5.c0)
        (first
          | ((go_at_call 13); (with_reducible refine (HN1.out _ (Below.refl _ _).drew).mono ?_); (rintro e w6 ⟨q, hq, rfl, hD6⟩); (obtain ⟨a', ha', hrd'⟩ := Rd.cutL hD6.ia.rd q (by omega)); (have i1 : (q : Int) ≤ (na : Int) := by omega); (have i2 : (0 : Int) ≤ (q : Int) := by omega); (have i3 : q ≤ na := by omega))
          | ((go_at_call 14); (with_reducible refine (s_l01Own _ ((nI fa).drop q) w6 hrd' (by rw [List.length_drop, nI_length, HNA.out]; omega)).mono ?_); (rintro e w7 ⟨v7, rfl, hI7, hB7⟩); (have hD7 := hD6.bel hB7); (obtain ⟨a7, c7, rfl, _, _⟩ := rd_formN hI7.rd (n := na - q) (by rw [List.length_drop, nI_length, HNA.out])))
          | ((go_at_call 13); (with_reducible refine (HNX.out 2 w7 hD7.src (by omega) (by omega)).mono ?_); (rintro e w8 ⟨r8, rfl, r80, r81, hS8, hC8⟩); (have hD8 := hD7.next hS8 hC8); (have hI8 : Ints w8 w6.heap.size (.slice a7 (na - q) c7) (nI (fa.drop q)) := by (have h := hI7.chgb hC8 hD6.src.lt); (unfold nI at h ⊢; rwa [List.map_drop])); (have hD9 := hD8.setB (hI8.mono hD6.src.lt) (fun g hg => Nat.lt_of_lt_of_le hD6.x6.lt (hI8.lt g hg).1) r8); (have y0 := hD8.x6.c0); (have y1 := hD8.x6.c1); (have g0 := hD8.x6.f 0); (have g1 := hD8.x6.f 1)))
      have HDF := Lib.hid hD9
      have HD2 : Hid ((fa.drop q).length ≤ 10 ∧ (∀ f ∈ fa.drop q, f ≤ 2000000) ∧ -1 ≤ r8 ∧ r8 ≤ 11) := ⟨by rw [List.length_drop, HNA.out]; omega, fun f hf => HFA.out f (List.mem_of_mem_drop hf), by omega, by omega⟩
      clear hD6 hrd' hI7 hB7 hD7 hS8 hC8 hD8 hI8 hD9 y0 y1 g0 g1 k0 HN1 HNX ha' i1 i2 i3
      go_upto_region 5 with (fail)
      generalize (w8.setCell ⟨b5 + 1, 0, none⟩ (.slice a7 (na - q) c7)).setCell ⟨b5 + 1, 1, none⟩ (.int .i64 r8) = wz at *
      obtain ⟨q0, q1, q2, q3, q4⟩ := HDF.out.done
      have HQ := Lib.hid (And.intro q2 (And.intro q3 q4))
      have p0 := q0.c0
      have p1 := q0.c1
      have p2 := q1.c0
      have p3 := q1.c1
      have c0 := HDF.out.x5.c0
      have c1 := HDF.out.x5.c1
      have c2 := HDF.out.x6.c0
      have c3 := HDF.out.x6.c1
      have y0 := HDF.out.z0.c0
      have y1 := HDF.out.z0.c1
      have y2 := HDF.out.z1.c0
      have y3 := HDF.out.z1.c1
      have f0 := HDF.out.z0.f 0
      have f1 := HDF.out.z0.f 1
      have f2 := HDF.out.z1.f 0
      have f3 := HDF.out.z1.f 1
      have o0 := HDF.out.o0
      have o1 := HDF.out.o1
      have n1 : ¬ b5 + 1 = w.heap.size := by omega
      have n2 : ¬ w.heap.size = b5 + 1 := by omega
      have n3 : ¬ b5 = w.heap.size := by omega
      have n4 : ¬ w.heap.size = b5 := by omega
      have n5 : w.heap.size < b5 := by omega
      clear q0 q1 q2 q3 q4 o0 o1
      apply via
      case h =>
        go_region
        all_goals exact ⟨rfl, rfl⟩
      go_wp2_with fail
      refine bodyPost_ret (v := .tuple #[.agg #[.slice aa na ca, .int .i64 ra], .agg #[.slice a7 (na - q) c7, .int .i64 r8]]) (by simp [results, Try.results5, go_sem, p0, p1, p2, p3]) rfl ?_
      exact ⟨_, fa, _, _, (fa.drop q), _, rfl, ⟨by rw [HNA.out]; exact hfa1, HFA.out, hra1, hra2⟩, HD2.out, HQ.out.1.drew, HQ.out.2.1.drew, HQ.out.2.2.drew⟩
  · have HDF := HD5
    clear HNX
    go_upto_region 5 with (fail)
    obtain ⟨q0, q1, q2, q3, q4⟩ := HDF.out.done
    have HQ := Lib.hid (And.intro q2 (And.intro q3 q4))
    have p0 := q0.c0
    have p1 := q0.c1
    have p2 := q1.c0
    have p3 := q1.c1
    have c0 := HDF.out.x5.c0
    have c1 := HDF.out.x5.c1
    have c2 := HDF.out.x6.c0
    have c3 := HDF.out.x6.c1
    have y0 := HDF.out.z0.c0
    have y1 := HDF.out.z0.c1
    have y2 := HDF.out.z1.c0
    have y3 := HDF.out.z1.c1
    have f0 := HDF.out.z0.f 0
    have f1 := HDF.out.z0.f 1
    have f2 := HDF.out.z1.f 0
    have f3 := HDF.out.z1.f 1
    have o0 := HDF.out.o0
    have o1 := HDF.out.o1
    have n1 : ¬ b5 + 1 = w.heap.size := by omega
    have n2 : ¬ w.heap.size = b5 + 1 := by omega
    have n3 : ¬ b5 = w.heap.size := by omega
    have n4 : ¬ w.heap.size = b5 := by omega
    have n5 : w.heap.size < b5 := by omega
    clear q0 q1 q2 q3 q4 o0 o1
    apply via
    case h =>
      go_region
      all_goals exact ⟨rfl, rfl⟩
    go_wp2_with fail
    refine bodyPost_ret (v := .tuple #[.agg #[.slice aa na ca, .int .i64 ra], .agg #[.slice ab nb cb, .int .i64 rb]]) (by simp [results, Try.results5, go_sem, p0, p1, p2, p3]) rfl ?_
    exact ⟨_, fa, _, _, fb, _, rfl, ⟨by rw [HNA.out]; exact hfa1, HFA.out, hra1, hra2⟩, ⟨by rw [HNB.out]; exact hfb1, HFB.out, hrb1, hrb2⟩, HQ.out.1.drew, HQ.out.2.1.drew, HQ.out.2.2.drew⟩
end Go.Proofs.Ytdgjjdmodbbjhaa
