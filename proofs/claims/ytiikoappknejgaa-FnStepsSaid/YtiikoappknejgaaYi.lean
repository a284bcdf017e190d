/-
  The presentation that is bent: the walk.
  The draws of presentations.
  The draw of positive words and of limits.
  The draw of a word and of a limit for the collection.
  The draw of a collection: a presentation, a word, a limit.
-/
import Derived.Test.YtiikoappknejgaaZh
import Derived.Deep.RegionHeld3
namespace Go.Proofs.Ytiikoappknejgaa
set_option linter.unusedVariables false
set_option linter.unusedSimpArgs false
set_option maxRecDepth 100000
open Go.RowKit
attribute [local go_sem ↓] Go.wp_at_zero Go.wp_at_succ

--== spec.l07Bend
set_option maxHeartbeats 8000000 in
theorem s_l07Bend {w0 : World} {vc : Value} {nc b n : Nat} {p : Pres} (hW : WS n p) (hn : n ≤ 6) (v1 v2 v3 : Value) (w : World) (h : Src w0 vc nc b w) (hp : RdP w v1 v2 v3 p) : Calls Try.prog 58 #[.pointer (some ⟨b, 0, none⟩), .agg #[v1, v2, v3]] w (DrP OB w0 vc nc b w) := by
  obtain ⟨R1, R2, R3⟩ := hp
  obtain ⟨ao1, aq1, rfl, _, _⟩ := R1.formN hW.on
  obtain ⟨ao2, aq2, rfl, _, _⟩ := R2.formN hW.pl
  obtain ⟨ao3, aq3, rfl, _, _⟩ := R3.formN hW.cl
  have g1 := below_allocs2 w (Obj.cells #[Value.slice ao1 n aq1, Value.slice ao2 n aq2, Value.slice ao3 n aq3] 28) (Obj.cells #[Value.slice none 0 0, Value.slice none 0 0, Value.slice none 0 0] 28)
  have HXA := (Bx.new w (Value.slice ao1 n aq1) (Value.slice ao2 n aq2) (Value.slice ao3 n aq3)).old (Obj.cells #[Value.slice none 0 0, Value.slice none 0 0, Value.slice none 0 0] 28)
  have x1 := Bx.new (w.alloc (Obj.cells #[Value.slice ao1 n aq1, Value.slice ao2 n aq2, Value.slice ao3 n aq3] 28)) (Value.slice none 0 0) (Value.slice none 0 0) (Value.slice none 0 0)
  rw [show (w.alloc (Obj.cells #[Value.slice ao1 n aq1, Value.slice ao2 n aq2, Value.slice ao3 n aq3] 28)).heap.size = w.heap.size + 1 by simp] at x1
  have HRP := Lib.hid (⟨R1.below g1, R2.below g1, R3.below g1⟩ : RdP _ _ _ _ p)
  have hbl := h.lt
  have hw0 : w0.heap.size ≤ w.heap.size := h.be.size
  have HS := Lib.hid h
  have HNX : Hid (∀ (m : Int) wx, -100 ≤ m → m ≤ 100 → Src w0 vc nc b wx → Calls Try.prog 36 #[.pointer (some ⟨b, 0, none⟩), .int .i64 m] wx (Nxt w0 vc nc b wx m)) := fun m wx h1 h2 h => s_l01Next wx h m (by omega) (by omega)
  have HOW : Hid (∀ wx, RdP wx (.slice ao1 n aq1) (.slice ao2 n aq2) (.slice ao3 n aq3) p → Calls Try.prog 59 #[.agg #[.slice ao1 n aq1, .slice ao2 n aq2, .slice ao3 n aq3]] wx (RetP wx p)) := fun wx h => s_l07Own hW hn _ _ _ wx h
  have HW := Lib.hid hW
  obtain ⟨i0, hi, hz0, hz1, hz2⟩ := info_parts Try.info2
  have HPK : Hid (∀ (xs : List Int) (wl : World) (v : Value), Src w0 vc nc b wl → Rd wl v xs → (∀ w', Chg b (b + 1) wl w' → Rd w' v xs) → 0 < xs.length → xs.length ≤ 1000 → Calls Try.prog 51 #[.pointer (some ⟨b, 0, none⟩), v] wl (fun e w' => ∃ x, e = .returned (.int .i64 x) ∧ Src w0 vc nc b w' ∧ Chg b (b + 1) wl w')) := by
    intro xs wl v hs hv hst h1 h2
    refine (s_l01Pick wl hs v xs hv hst h1 h2).mono ?_
    rintro e w' ⟨q, hq, rfl, hS, hC⟩
    exact ⟨_, rfl, hS, hC⟩
  have HT7 : Hid (∀ (v : Value) (wx : World), Rd wx v [7, 7, 7, 7] → Calls Try.prog 67 #[v] wx (RetP wx (triv [7, 7, 7, 7]))) := fun v wx h => s_l07Trivial v [7, 7, 7, 7] wx h (by simp)
  have HT2 : Hid (∀ (v : Value) (wx : World), Rd wx v [2, 2, 2, 2, 2, 2, 2] → Calls Try.prog 67 #[v] wx (RetP wx (triv [2, 2, 2, 2, 2, 2, 2]))) := fun v wx h => s_l07Trivial v [2, 2, 2, 2, 2, 2, 2] wx h (by simp)
  have a0 := HXA.c0
  have a1' := HXA.c1
  have a2' := HXA.c2
  clear R1 R2 R3 h hW HXA
  go_enter Try.func58, Try.ntmps58
  go_wp2_with fail
  refine (HOW.out _ HRP.out).mono ?_
  generalize hw1 : (w.alloc (Obj.cells #[Value.slice ao1 n aq1, Value.slice ao2 n aq2, Value.slice ao3 n aq3] 28)).alloc (Obj.cells #[Value.slice none 0 0, Value.slice none 0 0, Value.slice none 0 0] 28) = w1 at *
  have z1 : w1.heap.size = w.heap.size + 2 := by rw [← hw1]; simp
  clear hw1
  rintro e w2 ⟨u1, u2, u3, rfl, hP, hB⟩
  obtain ⟨⟨k1, l1, rfl⟩, ⟨k2, l2, rfl⟩, ⟨k3, l3, rfl⟩⟩ := hP.formsN HW.out.on HW.out.pl HW.out.cl
  have x2 := x1.below hB (by omega)
  have g2 := below_size g1 hB
  have hY := BY.mk (N := w.heap.size) x2 hP (fun k hk _ => by have h1 := hk.1; exact ⟨by omega, by omega⟩) HW.out (by omega)
  have g3 := ballocD g2 (Obj.cells #[Value.slice k1 n l1, Value.slice k2 n l2, Value.slice k3 n l3] 28)
  have hST : ST w0 vc nc b w (w.heap.size + 1) w2.heap.size n (w2.alloc (Obj.cells #[Value.slice k1 n l1, Value.slice k2 n l2, Value.slice k3 n l3] 28)) := ⟨hY, HS.out.below g3, Chg.of_below g3 _ _⟩
  clear hP hB x2 g2 hY g3 g1 x1 a0 a1' a2'
  go_wp2_with fail
  generalize w2.alloc (Obj.cells #[Value.slice k1 n l1, Value.slice k2 n l2, Value.slice k3 n l3] 28) = w4 at *
  generalize w2.heap.size = b4 at *
  refine (HNX.out 6 w4 (by omega) (by omega) hST.2.1).mono ?_
  rintro e w5 ⟨r, rfl, r0, r1, hS5, hC5⟩
  replace hST := hST.keep hS5 hC5 hbl
  have hN4 : w.heap.size ≤ b4 := hST.1.2.1
  clear hS5 hC5 HOW HRP
  rcases (show r = 0 ∨ r = 1 ∨ r = 2 ∨ r = 3 ∨ r = 4 ∨ r = 5 by omega) with rfl | rfl | rfl | rfl | rfl | rfl
  · clear r0 r1
    obtain ⟨P, a1, c1, a2, c2, a3, c3, hWP, hK⟩ := hST.ks hbl hw0 (by omega)
    obtain ⟨HA, hS, hC, X2, hO, X4⟩ := id hK
    obtain ⟨h2, h4, hne, _, _, hm2, hm4, hmN, hob⟩ := HA
    have hI : Ints w5 0 (.slice a1 n c1) P.orders := by
      obtain ⟨A, B, C, q1, _⟩ := id hO
      exact q1.1
    have hBk : BlkS (.slice a1 n c1) (fun k => (w.heap.size ≤ k ∧ k ≠ (w.heap.size + 1) ∧ k ≠ b4) ∧ k < w5.heap.size) := by
      obtain ⟨A, B, C, q1, _, _, s1, _⟩ := id hO
      exact fun g hg => s1 g (q1.2 g hg)
    have k0 := X4.c0
    have HO := Lib.hid hO
    have HX4 := Lib.hid X4
    have HX2 := Lib.hid X2
    have HS5 := Lib.hid hS
    have HC5 := Lib.hid hC
    have hlen : P.orders.length ≤ 1000000000 := by rw [hWP.on]; omega
    clear hO X4 X2 hS hC hK hST
    go_wp2_with (at_builtin; refine wp_app1 _ rfl _ _ rfl 0 i0 Try.underlying24 hi hz0 hz1 hz2 _ _ rfl hI 2 rfl hlen (Nat.zero_le _) ?_)
    intro v' w6 hI6 hG6 hB6
    have hC6 := ChgS.of_grew hG6 hBk
    have hO6 := op_appOrd HO.out hI6 hG6
    have hob6 : OB ⟨P.orders ++ [2], P.powers, P.conj⟩ := by unfold OB; rw [List.length_append, hWP.on]; simp; omega
    have hX46 := HX4.out.chg hC6 (fun hh => hh.1.2.2 rfl)
    have hX26 := HX2.out.chg hC6 (fun hh => hh.1.2.1 rfl)
    have hb6 : Below w.heap.size w5 w6 := hC6.below (fun k hk => hk.1.1) hmN
    have hS6 := HS5.out.belowB hb6 hbl hw0
    have hCc6 := HC5.out.belB hb6
    obtain ⟨a6, n6, c6, rfl⟩ : ∃ a n c, v' = .slice a n c := by obtain ⟨a, c, e, _⟩ := hI6.form; exact ⟨a, _, c, e⟩
    have m0 := hX46.c0
    have fr0 := hX46.fr 0
    have hbl0 : Below w.heap.size w6 (w6.setCell ⟨b4, 0, none⟩ (.slice a6 n6 c6)) := ((Below.refl _ w6).mono hCc6.size).setCell (p := ⟨b4, 0, none⟩) h4 _
    have hTS : TS w0 vc nc b w (w.heap.size + 1) b4 (w6.setCell ⟨b4, 0, none⟩ (.slice a6 n6 c6)) := ⟨⟨h2, h4, hne, hbl, hw0⟩, hS6.belowB hbl0 hbl hw0, hCc6.belB hbl0, hX26.other hne _ _, _, _, _, _, hob6, OP.sub (OP.sets hO6 (b := b4) (fun hh => by
      rcases hh with hh | hh
      · exact hh.1.1.2.2 rfl
      · omega) 0 _) (fun k _ hk => by
      rcases hk with hk | hk
      · exact hk.1.1
      · exact ⟨by omega, by omega, by omega⟩), hX46.set0 _⟩
    clear hI6 hG6 hB6 hC6 hO6 hX46 hX26 hb6 hS6 hCc6 hbl0 hI hBk
    obtain ⟨b1, n1, d1, b2, n2, d2, b3, n3, d3, x4, y2, hF⟩ := hTS.fin
    have HF := Lib.hid hF
    have k0 := x4.c0
    have k1 := x4.c1
    have k2 := x4.c2
    have q0 := y2.c0
    have q1 := y2.c1
    have q2 := y2.c2
    have f0 := y2.fr 0
    have f1 := y2.fr 1
    have f2 := y2.fr 2
    clear x4 y2 hF hTS
    go_wp2_with fail
    exact bodyPost_ret (v := .agg #[Value.slice b1 n1 d1, Value.slice b2 n2 d2, Value.slice b3 n3 d3]) (by simp [results, Try.results58, go_sem, q0, q1, q2]) rfl HF.out
  · clear r0 r1
    obtain ⟨P, a1, c1, a2, c2, a3, c3, hWP, hK⟩ := hST.ks hbl hw0 (by omega)
    have m0 := hK.2.2.2.2.2.c0
    by_cases hn0 : 0 < n
    · obtain ⟨g, cap, e1, hset⟩ := hK.ord0 hWP.on hn0
      simp only [Value.slice.injEq] at e1
      obtain ⟨rfl, _, rfl⟩ := e1
      have hn1 : (0 : Int) < (n : Int) := by omega
      have HSET := Lib.hid hset
      have HK := Lib.hid hK
      have HLIT := Lib.hid (Rd.litI w5 [4, 1, 11, 0, -2] (by simp))
      have HKP := Lib.hid (lit_keepB hK.2.1.lt (Rd.litI w5 [4, 1, 11, 0, -2] (by simp)))
      have p0 : (w5.alloc (Obj.cells #[Value.int .i64 4, Value.int .i64 1, Value.int .i64 11, Value.int .i64 0, Value.int .i64 (-2)] 2)).cell? ⟨b4, 0, none⟩ = _ := (hset _ (hK.bel (below_alloc w5 (.cells (([4, 1, 11, 0, -2] : List Int).map (Value.int .i64)).toArray 2)))).1
      clear hset hK hST
      go_upto_region 10 with (fail)
      go_region_law (go_simp; go_at_call 51; go_must (refine (HPK.out [4, 1, 11, 0, -2] _ _ ((HK.out.bel ((below_alloc w5 (.cells (([4, 1, 11, 0, -2] : List Int).map (Value.int .i64)).toArray 2)).drew)).2.1) HLIT.out (fun w' hc => HKP.out w' hc.undrew) (by simp) (by simp)).mono ?_); rintro e w8 ⟨r8, rfl, hS8, hC8⟩; have hK8 := ((HK.out.bel (below_alloc w5 (.cells (([4, 1, 11, 0, -2] : List Int).map (Value.int .i64)).toArray 2))).keep hS8 hC8.undrew); obtain ⟨t0, ⟨rr, t1⟩, t2, t3⟩ := HSET.out w8 hK8; have hq := Lib.hid (t3 r8))
      all_goals
        have hTS := hq.out
        clear hq
        obtain ⟨b1, n1, d1, b2, n2, d2, b3, n3, d3, x4, y2, hF⟩ := hTS.fin
        have HF := Lib.hid hF
        have k0 := x4.c0
        have k1 := x4.c1
        have k2 := x4.c2
        have q0 := y2.c0
        have q1 := y2.c1
        have q2 := y2.c2
        have f0 := y2.fr 0
        have f1 := y2.fr 1
        have f2 := y2.fr 2
        clear x4 y2 hF hTS
        go_wp2_with fail
        exact bodyPost_ret (v := .agg #[Value.slice b1 n1 d1, Value.slice b2 n2 d2, Value.slice b3 n3 d3]) (by simp [results, Try.results58, go_sem, q0, q1, q2]) rfl HF.out
    · obtain rfl : n = 0 := by omega
      have hTS := hST.ts hbl hw0 (by omega)
      clear hK hST
      obtain ⟨b1, n1, d1, b2, n2, d2, b3, n3, d3, x4, y2, hF⟩ := hTS.fin
      have HF := Lib.hid hF
      have k0 := x4.c0
      have k1 := x4.c1
      have k2 := x4.c2
      have q0 := y2.c0
      have q1 := y2.c1
      have q2 := y2.c2
      have f0 := y2.fr 0
      have f1 := y2.fr 1
      have f2 := y2.fr 2
      have hz := Option.some.inj (m0.symm.trans k0)
      simp only [Value.slice.injEq] at hz
      obtain ⟨rfl, rfl, rfl⟩ := hz
      clear x4 y2 hF hTS
      go_wp2_with fail
      exact bodyPost_ret (v := .agg #[Value.slice a1 0 c1, Value.slice b2 n2 d2, Value.slice b3 n3 d3]) (by simp [results, Try.results58, go_sem, q0, q1, q2]) rfl HF.out
  · clear r0 r1
    obtain ⟨P, a1, c1, a2, c2, a3, c3, hWP, hK⟩ := hST.ks hbl hw0 (by omega)
    have m1 := hK.2.2.2.2.2.c1
    by_cases hn0 : 0 < n
    · obtain ⟨g, cap, r, e1, hgb, hRr, hset⟩ := hK.pow0 hWP.pl hn0
      have hb4 := hK.2.2.2.2.2.lt
      simp only [Value.slice.injEq] at e1
      obtain ⟨rfl, _, rfl⟩ := e1
      have hn1 : (0 : Int) < (n : Int) := by omega
      have hpv := hWP.pv 0 hn0
      obtain ⟨ar, cr, rfl, _, _⟩ := hRr.formN hpv
      have HPV := Lib.hid hpv
      have HRr := Lib.hid hRr
      generalize P.powers.getD 0 [] = row at *
      have HSET : Hid (∀ wy, Below w5.heap.size w5 wy → wy.cell? ⟨b4, 1, none⟩ = some (.slice (some ⟨g, 0, none⟩) n c2) ∧ wy.cell? ⟨g, 0, none⟩ = some (.slice ar n cr) ∧ wy.frozen? ⟨g, 0, none⟩ = false ∧ ∀ u row, Ints wy w5.heap.size u row → TS w0 vc nc b w (w.heap.size + 1) b4 (wy.setCell ⟨g, 0, none⟩ u)) := fun wy hb => hset wy (hK.bel hb) hb
      have HOWN : Hid (∀ wx, Below w5.heap.size w5 wx → Calls Try.prog 52 #[.slice ar n cr] wx (RetInts wx row)) := fun wx hb => s_l01Own _ row wx (HRr.out.below hb) (by rw [HPV.out]; omega)
      have HLN : Hid (row.length ≤ 1000000000) := by show _ ≤ _; rw [HPV.out]; omega
      have HLIT : Hid (∀ wx : World, Rd (wx.alloc (.cells #[.int .i64 0] 2)) (.slice (some ⟨wx.heap.size, 0, none⟩) 1 1) [0]) := fun wx => Rd.litI wx [0] (by simp)
      have y1 := (HSET.out w5 (Below.refl _ _)).1
      have y2 := (HSET.out w5 (Below.refl _ _)).2.1
      have z1 := (HSET.out (w5.alloc (.cells #[.int .i64 0] 2)) (below_alloc _ _)).1
      have z2 := (HSET.out (w5.alloc (.cells #[.int .i64 0] 2)) (below_alloc _ _)).2.1
      clear hset hK hST hRr hpv hgb hb4 hWP m1
      clear HPK HT7 HT2 HNX HS HW hN4
      go_upto_region 13 with (fail)
      refine wp_region_D (S := fun wx => wx.cell? ⟨b4, 1, none⟩ = some (.slice (some ⟨g, 0, none⟩) n c2) ∧ wx.cell? ⟨g, 0, none⟩ = some (.slice ar n cr)) (l := 10) (by kernel_rfl) ?_
      have KS3 : Hid (∀ wy, Below w5.heap.size w5 wy → wy.cell? ⟨b4, 1, none⟩ = some (.slice (some ⟨g, 0, none⟩) n c2) ∧ wy.cell? ⟨g, 0, none⟩ = some (.slice ar n cr)) := fun wy hb => ⟨(HSET.out wy hb).1, (HSET.out wy hb).2.1⟩
      have hS0 : w5.drew.cell? ⟨b4, 1, none⟩ = some (.slice (some ⟨g, 0, none⟩) n c2) ∧ w5.drew.cell? ⟨g, 0, none⟩ = some (.slice ar n cr) := ⟨y1, y2⟩
      refine wpAnyD_put (i := 0) (v := .pointer (some ⟨b4, 1, none⟩)) rfl (by kernel_rfl) (by kernel_rfl) (by kernel_rfl) (by kernel_rfl) rfl (by kernel_rfl) (fun _ _ _ h => h) hS0 ?_ ?_
      · intro oi ho
        simp only [List.getElem?_toArray, List.getElem?_cons_zero, List.getElem?_cons_succ, Option.some.injEq] at ho; subst ho
        refine Or.inl ⟨by rfl, ?_⟩
        intro w' hSw
        obtain ⟨sa, sb⟩ := hSw
        go_simp
      try simp only [Act.put, List.setIfInBounds_toArray, List.set_cons_zero, List.set_cons_succ]
      refine wpAnyD_put (i := 1) (v := .slice (some ⟨g, 0, none⟩) n c2) rfl (by kernel_rfl) (by kernel_rfl) (by kernel_rfl) (by kernel_rfl) rfl (by kernel_rfl) (fun _ _ _ h => h) hS0 ?_ ?_
      · intro oi ho
        simp only [List.getElem?_toArray, List.getElem?_cons_zero, List.getElem?_cons_succ, Option.some.injEq] at ho; subst ho
        refine Or.inl ⟨by rfl, ?_⟩
        intro w' hSw
        obtain ⟨sa, sb⟩ := hSw
        go_simp
      try simp only [Act.put, List.setIfInBounds_toArray, List.set_cons_zero, List.set_cons_succ]
      refine wpAnyD_put (i := 2) (v := .pointer (some ⟨b4, 1, none⟩)) rfl (by kernel_rfl) (by kernel_rfl) (by kernel_rfl) (by kernel_rfl) rfl (by kernel_rfl) (fun _ _ _ h => h) hS0 ?_ ?_
      · intro oi ho
        simp only [List.getElem?_toArray, List.getElem?_cons_zero, List.getElem?_cons_succ, Option.some.injEq] at ho; subst ho
        refine Or.inl ⟨by rfl, ?_⟩
        intro w' hSw
        obtain ⟨sa, sb⟩ := hSw
        go_simp
      try simp only [Act.put, List.setIfInBounds_toArray, List.set_cons_zero, List.set_cons_succ]
      refine wpAnyD_put (i := 3) (v := .slice (some ⟨g, 0, none⟩) n c2) rfl (by kernel_rfl) (by kernel_rfl) (by kernel_rfl) (by kernel_rfl) rfl (by kernel_rfl) (fun _ _ _ h => h) hS0 ?_ ?_
      · intro oi ho
        simp only [List.getElem?_toArray, List.getElem?_cons_zero, List.getElem?_cons_succ, Option.some.injEq] at ho; subst ho
        refine Or.inl ⟨by rfl, ?_⟩
        intro w' hSw
        obtain ⟨sa, sb⟩ := hSw
        go_simp
      try simp only [Act.put, List.setIfInBounds_toArray, List.set_cons_zero, List.set_cons_succ]
      refine wpAnyD_put (i := 4) (v := .pointer (some ⟨g, 0, none⟩)) rfl (by kernel_rfl) (by kernel_rfl) (by kernel_rfl) (by kernel_rfl) rfl (by kernel_rfl) (fun _ _ _ h => h) hS0 ?_ ?_
      · intro oi ho
        simp only [List.getElem?_toArray, List.getElem?_cons_zero, List.getElem?_cons_succ, Option.some.injEq] at ho; subst ho
        refine Or.inl ⟨by rfl, ?_⟩
        intro w' hSw
        obtain ⟨sa, sb⟩ := hSw
        go_simp
      try simp only [Act.put, List.setIfInBounds_toArray, List.set_cons_zero, List.set_cons_succ]
      refine wpAnyD_put (i := 5) (v := .slice ar n cr) rfl (by kernel_rfl) (by kernel_rfl) (by kernel_rfl) (by kernel_rfl) rfl (by kernel_rfl) (fun _ _ _ h => h) hS0 ?_ ?_
      · intro oi ho
        simp only [List.getElem?_toArray, List.getElem?_cons_zero, List.getElem?_cons_succ, Option.some.injEq] at ho; subst ho
        refine Or.inl ⟨by rfl, ?_⟩
        intro w' hSw
        obtain ⟨sa, sb⟩ := hSw
        go_simp
      try simp only [Act.put, List.setIfInBounds_toArray, List.set_cons_zero, List.set_cons_succ]
      refine wpAnyD_ready (rs := [6, 7]) (by kernel_rfl) (by simp) ?_
      refine AllD.step (i := 6) (by kernel_rfl) ?_ ?_
      · intro o ho K hK
        simp only [List.getElem?_toArray, List.getElem?_cons_zero, List.getElem?_cons_succ, Option.some.injEq] at ho; subst ho
        go_simp
        go_at_call 52
        refine (HOWN.out w5.drew (Below.refl _ _).drew).mono ?_
        rintro e w6 ⟨u6, rfl, hI6, hB6⟩
        have hb6 : Below w5.heap.size w5 w6 := below_size (Below.refl _ _).drew hB6
        have hbr := ballocD hb6 (.cells #[.int .i64 0] 2)
        obtain ⟨u7, w7, hr7, hI7, hB7, _⟩ := run_appB (w6.alloc (.cells #[.int .i64 0] 2)) 24 w5.heap.size u6 row (Ints.below hI6 (below_alloc _ _)) _ [0] (HLIT.out w6) HLN.out (by simp) (Nat.le_trans hb6.size (below_alloc _ _).size)
        have hb7 : Below w5.heap.size w5 w7 := (ballocD hb6 _).trans hB7
        obtain ⟨t7, t8, t9, t10⟩ := HSET.out w7 hb7
        obtain ⟨a7, n7, c7, rfl⟩ : ∃ a n c, u7 = .slice a n c := by obtain ⟨a, c, e, _⟩ := hI7.form; exact ⟨a, _, c, e⟩
        have hq := Lib.hid (t10 _ _ hI7)
        refine hK.out _ _ (fun hz => KS3.out _ hb6) ?_
        clear hK K
        try simp only [Act.put, List.setIfInBounds_toArray, List.set_cons_zero, List.set_cons_succ]
        refine wpAnyD_ready (rs := [7]) (by kernel_rfl) (by simp) ?_
        refine AllD.step (i := 7) (by kernel_rfl) ?_ ?_
        · intro o ho K hK
          simp only [List.getElem?_toArray, List.getElem?_cons_zero, List.getElem?_cons_succ, Option.some.injEq] at ho; subst ho
          go_simp
          refine hK.out _ _ (fun hz => KS3.out _ hbr) ?_
          clear hK K
          try simp only [Act.put, List.setIfInBounds_toArray, List.set_cons_zero, List.set_cons_succ]
          refine wpAnyD_ready (rs := [8]) (by kernel_rfl) (by simp) ?_
          refine AllD.step (i := 8) (by kernel_rfl) ?_ ?_
          · intro o ho K hK
            simp only [List.getElem?_toArray, List.getElem?_cons_zero, List.getElem?_cons_succ, Option.some.injEq] at ho; subst ho
            refine step_of_run rfl (.tmp 48) (.tmp 49) 24 rfl _ _ (by simp [Act.eval, Act.put]) (by simp [Act.eval, Act.put]) _ _ hr7 ?_
            refine hK.out _ _ (fun hz => KS3.out _ hb7) ?_
            clear hK K
            try simp only [Act.put, List.setIfInBounds_toArray, List.set_cons_zero, List.set_cons_succ]
            refine wpAnyD_ready (rs := [9]) (by kernel_rfl) (by simp) ?_
            refine AllD.step (i := 9) (by kernel_rfl) ?_ ?_
            · intro o ho K hK
              simp only [List.getElem?_toArray, List.getElem?_cons_zero, List.getElem?_cons_succ, Option.some.injEq] at ho; subst ho
              go_simp
              refine hK.out _ _ (fun hz => KS3.out _ hb7) ?_
              clear hK K
              try simp only [Act.put, List.setIfInBounds_toArray, List.set_cons_zero, List.set_cons_succ]
              refine wpAnyD_ready (rs := [10]) (by kernel_rfl) (by simp) ?_
              refine AllD.step (i := 10) (by kernel_rfl) ?_ ?_
              · intro o ho K hK
                simp only [List.getElem?_toArray, List.getElem?_cons_zero, List.getElem?_cons_succ, Option.some.injEq] at ho; subst ho
                go_simp
                refine hK.out _ _ (fun hz => Bool.noConfusion ((by kernel_rfl : _ = true).symm.trans hz)) ?_
                clear hK K
                try simp only [Act.put, List.setIfInBounds_toArray, List.set_cons_zero, List.set_cons_succ]
                refine wpAnyD_done (by kernel_rfl) ?_ _
                have hTS := hq.out
                clear hq
                obtain ⟨b1, n1, d1, b2, n2, d2, b3, n3, d3, x4, y2, hF⟩ := hTS.fin
                have HF := Lib.hid hF
                have k0 := x4.c0
                have k1 := x4.c1
                have k2 := x4.c2
                have q0 := y2.c0
                have q1 := y2.c1
                have q2 := y2.c2
                have f0 := y2.fr 0
                have f1 := y2.fr 1
                have f2 := y2.fr 2
                clear x4 y2 hF hTS
                go_wp2_with fail
                exact bodyPost_ret (v := .agg #[Value.slice b1 n1 d1, Value.slice b2 n2 d2, Value.slice b3 n3 d3]) (by simp [results, Try.results58, go_sem, q0, q1, q2]) rfl HF.out
              exact AllD.nil
            exact AllD.nil
          exact AllD.nil
        exact AllD.nil
      refine AllD.step (i := 7) (by kernel_rfl) ?_ ?_
      · intro o ho K hK
        simp only [List.getElem?_toArray, List.getElem?_cons_zero, List.getElem?_cons_succ, Option.some.injEq] at ho; subst ho
        go_simp
        refine hK.out _ _ (fun hz => KS3.out _ (below_alloc w5 (.cells #[.int .i64 0] 2)).drew) ?_
        clear hK K
        try simp only [Act.put, List.setIfInBounds_toArray, List.set_cons_zero, List.set_cons_succ]
        refine wpAnyD_ready (rs := [6]) (by kernel_rfl) (by simp) ?_
        refine AllD.step (i := 6) (by kernel_rfl) ?_ ?_
        · intro o ho K hK
          simp only [List.getElem?_toArray, List.getElem?_cons_zero, List.getElem?_cons_succ, Option.some.injEq] at ho; subst ho
          go_simp
          go_at_call 52
          refine (HOWN.out (w5.drew.alloc (.cells #[.int .i64 0] 2)) (below_alloc w5 (.cells #[.int .i64 0] 2)).drew).mono ?_
          rintro e w6 ⟨u6, rfl, hI6, hB6⟩
          have hb6a : Below (w5.alloc (.cells #[.int .i64 0] 2)).heap.size (w5.alloc (.cells #[.int .i64 0] 2)) w6 := below_size (Below.refl _ _).drew hB6
          have hb6 : Below w5.heap.size w5 w6 := below_size (below_alloc _ _) hb6a
          have hI6' : Ints w6 w5.heap.size u6 row := Ints.mono hI6 (by simp)
          obtain ⟨u7, w7, hr7, hI7, hB7, _⟩ := run_appB w6 24 w5.heap.size u6 row hI6' _ [0] ((HLIT.out w5).below hb6a) HLN.out (by simp) hb6.size
          have hb7 : Below w5.heap.size w5 w7 := hb6.trans hB7
          obtain ⟨t7, t8, t9, t10⟩ := HSET.out w7 hb7
          obtain ⟨a7, n7, c7, rfl⟩ : ∃ a n c, u7 = .slice a n c := by obtain ⟨a, c, e, _⟩ := hI7.form; exact ⟨a, _, c, e⟩
          have hq := Lib.hid (t10 _ _ hI7)
          refine hK.out _ _ (fun hz => KS3.out _ hb6) ?_
          clear hK K
          try simp only [Act.put, List.setIfInBounds_toArray, List.set_cons_zero, List.set_cons_succ]
          refine wpAnyD_ready (rs := [8]) (by kernel_rfl) (by simp) ?_
          refine AllD.step (i := 8) (by kernel_rfl) ?_ ?_
          · intro o ho K hK
            simp only [List.getElem?_toArray, List.getElem?_cons_zero, List.getElem?_cons_succ, Option.some.injEq] at ho; subst ho
            refine step_of_run rfl (.tmp 48) (.tmp 49) 24 rfl _ _ (by simp [Act.eval, Act.put]) (by simp [Act.eval, Act.put]) _ _ hr7 ?_
            refine hK.out _ _ (fun hz => KS3.out _ hb7) ?_
            clear hK K
            try simp only [Act.put, List.setIfInBounds_toArray, List.set_cons_zero, List.set_cons_succ]
            refine wpAnyD_ready (rs := [9]) (by kernel_rfl) (by simp) ?_
            refine AllD.step (i := 9) (by kernel_rfl) ?_ ?_
            · intro o ho K hK
              simp only [List.getElem?_toArray, List.getElem?_cons_zero, List.getElem?_cons_succ, Option.some.injEq] at ho; subst ho
              go_simp
              refine hK.out _ _ (fun hz => KS3.out _ hb7) ?_
              clear hK K
              try simp only [Act.put, List.setIfInBounds_toArray, List.set_cons_zero, List.set_cons_succ]
              refine wpAnyD_ready (rs := [10]) (by kernel_rfl) (by simp) ?_
              refine AllD.step (i := 10) (by kernel_rfl) ?_ ?_
              · intro o ho K hK
                simp only [List.getElem?_toArray, List.getElem?_cons_zero, List.getElem?_cons_succ, Option.some.injEq] at ho; subst ho
                go_simp
                refine hK.out _ _ (fun hz => Bool.noConfusion ((by kernel_rfl : _ = true).symm.trans hz)) ?_
                clear hK K
                try simp only [Act.put, List.setIfInBounds_toArray, List.set_cons_zero, List.set_cons_succ]
                refine wpAnyD_done (by kernel_rfl) ?_ _
                have hTS := hq.out
                clear hq
                obtain ⟨b1, n1, d1, b2, n2, d2, b3, n3, d3, x4, y2, hF⟩ := hTS.fin
                have HF := Lib.hid hF
                have k0 := x4.c0
                have k1 := x4.c1
                have k2 := x4.c2
                have q0 := y2.c0
                have q1 := y2.c1
                have q2 := y2.c2
                have f0 := y2.fr 0
                have f1 := y2.fr 1
                have f2 := y2.fr 2
                clear x4 y2 hF hTS
                go_wp2_with fail
                exact bodyPost_ret (v := .agg #[Value.slice b1 n1 d1, Value.slice b2 n2 d2, Value.slice b3 n3 d3]) (by simp [results, Try.results58, go_sem, q0, q1, q2]) rfl HF.out
              exact AllD.nil
            exact AllD.nil
          exact AllD.nil
        exact AllD.nil
      exact AllD.nil
    · obtain rfl : n = 0 := by omega
      have hTS := hST.ts hbl hw0 (by omega)
      clear hK hST
      obtain ⟨b1, n1, d1, b2, n2, d2, b3, n3, d3, x4, y2, hF⟩ := hTS.fin
      have HF := Lib.hid hF
      have k0 := x4.c0
      have k1 := x4.c1
      have k2 := x4.c2
      have q0 := y2.c0
      have q1 := y2.c1
      have q2 := y2.c2
      have f0 := y2.fr 0
      have f1 := y2.fr 1
      have f2 := y2.fr 2
      have hz := Option.some.inj (m1.symm.trans k1)
      simp only [Value.slice.injEq] at hz
      obtain ⟨rfl, rfl, rfl⟩ := hz
      clear x4 y2 hF hTS
      go_wp2_with fail
      exact bodyPost_ret (v := .agg #[Value.slice b1 n1 d1, Value.slice a2 0 c2, Value.slice b3 n3 d3]) (by simp [results, Try.results58, go_sem, q0, q1, q2]) rfl HF.out
  · clear r0 r1
    by_cases hn0 : 0 < n
    · obtain ⟨go, c1, o, g, c2, a3, c3, g2, q2, o1, o2, hg2, hset⟩ := hST.1.putP hbl hn0 hn0
      obtain ⟨y0, _, y2, ⟨rr, y3⟩, y4, y5⟩ := hset _ (ChgS.refl _ _)
      have hTS := (hST.put hbl hw0 hST.2.1 (Chg.refl _ _ _) hg2 (y5 1)).ts hbl hw0 (by omega)
      have m1 := y0.c1
      have hn1 : (0 : Int) < (n : Int) := by omega
      clear hset y0 y5 hST
      obtain ⟨b1, n1, d1, b2, n2, d2, b3, n3, d3, x4, y2, hF⟩ := hTS.fin
      have HF := Lib.hid hF
      have k0 := x4.c0
      have k1 := x4.c1
      have k2 := x4.c2
      have q0 := y2.c0
      have q1 := y2.c1
      have q2 := y2.c2
      have f0 := y2.fr 0
      have f1 := y2.fr 1
      have f2 := y2.fr 2
      clear x4 y2 hF hTS
      go_wp2_with fail
      exact bodyPost_ret (v := .agg #[Value.slice b1 n1 d1, Value.slice b2 n2 d2, Value.slice b3 n3 d3]) (by simp [results, Try.results58, go_sem, q0, q1, q2]) rfl HF.out
    · obtain rfl : n = 0 := by omega
      obtain ⟨P, a1, c1, a2, c2, a3, c3, hWP, hK⟩ := hST.ks hbl hw0 (by omega)
      have m1 := hK.2.2.2.2.2.c1
      have hTS := hST.ts hbl hw0 (by omega)
      clear hK hST
      obtain ⟨b1, n1, d1, b2, n2, d2, b3, n3, d3, x4, y2, hF⟩ := hTS.fin
      have HF := Lib.hid hF
      have k0 := x4.c0
      have k1 := x4.c1
      have k2 := x4.c2
      have q0 := y2.c0
      have q1 := y2.c1
      have q2 := y2.c2
      have f0 := y2.fr 0
      have f1 := y2.fr 1
      have f2 := y2.fr 2
      have hz := Option.some.inj (m1.symm.trans k1)
      simp only [Value.slice.injEq] at hz
      obtain ⟨rfl, rfl, rfl⟩ := hz
      clear x4 y2 hF hTS
      go_wp2_with fail
      exact bodyPost_ret (v := .agg #[Value.slice b1 n1 d1, Value.slice a2 0 c2, Value.slice b3 n3 d3]) (by simp [results, Try.results58, go_sem, q0, q1, q2]) rfl HF.out
  · clear r0 r1
    obtain ⟨P, a1, c1, a2, c2, a3, c3, hWP, hK⟩ := hST.ks hbl hw0 (by omega)
    have m2 := hK.2.2.2.2.2.c2
    by_cases hn0 : 0 < n
    · have hmk := run_makeInts n (by omega)
      obtain ⟨g, cap, r, e1, _, hRr, hset⟩ := hK.cnj0 hWP.cl hn0
      simp only [Value.slice.injEq] at e1
      obtain ⟨rfl, _, rfl⟩ := e1
      have hn1 : (0 : Int) < (n : Int) := by omega
      have hrl := hWP.rl 0 hn0
      have hcv := hWP.cv 0
      obtain ⟨M, hM⟩ : ∃ M, n - (0 + 1) = M := ⟨_, rfl⟩
      rw [hM] at hrl hcv
      have hM6 : M ≤ 6 := by omega
      obtain ⟨ar, cr, rfl, _, _⟩ := hRr.formN hrl
      have HRr := Lib.hid hRr
      have HRL := Lib.hid hrl
      have HCV : Hid (∀ k, k < M → ((P.conj.getD 0 []).getD k []).length = n) := fun k hk => hcv k hn0 hk
      generalize P.conj.getD 0 [] = rows at *
      have HSET : Hid (∀ wy, Below w5.heap.size w5 wy → (wy.cell? ⟨b4, 0, none⟩ = some (.slice a1 n c1) ∧ wy.cell? ⟨b4, 2, none⟩ = some (.slice (some ⟨g, 0, none⟩) n c3) ∧ wy.cell? ⟨g, 0, none⟩ = some (.slice ar M cr) ∧ wy.frozen? ⟨g, 0, none⟩ = false) ∧ ∀ u rows, O2 wy (fun k => w5.heap.size ≤ k) u rows → TS w0 vc nc b w (w.heap.size + 1) b4 (wy.setCell ⟨g, 0, none⟩ u)) := fun wy hb => by
        obtain ⟨h1, h2, h3, h4, h5⟩ := hset wy (hK.bel hb) hb
        exact ⟨⟨h1, h2, h3, h4⟩, h5⟩
      have HOWN : Hid (∀ wx, Below w5.heap.size w5 wx → Calls Try.prog 68 #[.slice ar M cr] wx (RetL2 wx rows)) := fun wx hb => s_l01Own2 _ rows wx (HRr.out.below hb) (by rw [HRL.out]; omega) (fun i hi => by rw [HCV.out i (by rw [HRL.out] at hi; exact hi)]; omega)
      obtain ⟨y1, y2, y3, _⟩ := (HSET.out w5 (Below.refl _ _)).1
      obtain ⟨z1, z2, z3, _⟩ := (HSET.out (w5.alloc (.cells (madeCells #[.int .i64 0] n) 2)) (below_alloc _ _)).1
      obtain ⟨zz1, zz2, zz3, _⟩ := (HSET.out ((w5.alloc (.cells (madeCells #[.int .i64 0] n) 2)).alloc (.cells #[.slice (some ⟨w5.heap.size, 0, none⟩) n n] 24)) (ballocD (below_alloc _ _) _)).1
      have HLN : Hid (rows.length ≤ 1000) := by show _ ≤ _; rw [HRL.out]; omega
      have HN6 : Hid (n ≤ 1000000) := by show _ ≤ _; omega
      clear hset hK hST hRr hrl hcv hWP m2 hM HPK HT7 HT2 HNX HS HW hN4 hbl hw0 hn
      go_upto_region 19 with (fail)
      refine wp_region_D (S := fun wx => wx.cell? ⟨b4, 0, none⟩ = some (.slice a1 n c1) ∧ wx.cell? ⟨b4, 2, none⟩ = some (.slice (some ⟨g, 0, none⟩) n c3) ∧ wx.cell? ⟨g, 0, none⟩ = some (.slice ar M cr)) (l := 14) (by kernel_rfl) ?_
      have KS3 : Hid (∀ wy, Below w5.heap.size w5 wy → wy.cell? ⟨b4, 0, none⟩ = some (.slice a1 n c1) ∧ wy.cell? ⟨b4, 2, none⟩ = some (.slice (some ⟨g, 0, none⟩) n c3) ∧ wy.cell? ⟨g, 0, none⟩ = some (.slice ar M cr)) := fun wy hb => ⟨(HSET.out wy hb).1.1, (HSET.out wy hb).1.2.1, (HSET.out wy hb).1.2.2.1⟩
      have hS0 : w5.drew.cell? ⟨b4, 0, none⟩ = some (.slice a1 n c1) ∧ w5.drew.cell? ⟨b4, 2, none⟩ = some (.slice (some ⟨g, 0, none⟩) n c3) ∧ w5.drew.cell? ⟨g, 0, none⟩ = some (.slice ar M cr) := ⟨y1, y2, y3⟩
      refine wpAnyD_put (i := 0) (v := .pointer (some ⟨b4, 2, none⟩)) rfl (by kernel_rfl) (by kernel_rfl) (by kernel_rfl) (by kernel_rfl) rfl (by kernel_rfl) (fun _ _ _ h => h) hS0 ?_ ?_
      · intro oi ho
        simp only [List.getElem?_toArray, List.getElem?_cons_zero, List.getElem?_cons_succ, Option.some.injEq] at ho; subst ho
        refine Or.inl ⟨by rfl, ?_⟩
        intro w' hSw
        obtain ⟨sa, sb, sc⟩ := hSw
        go_simp
      try simp only [Act.put, List.setIfInBounds_toArray, List.set_cons_zero, List.set_cons_succ]
      refine wpAnyD_put (i := 1) (v := .slice (some ⟨g, 0, none⟩) n c3) rfl (by kernel_rfl) (by kernel_rfl) (by kernel_rfl) (by kernel_rfl) rfl (by kernel_rfl) (fun _ _ _ h => h) hS0 ?_ ?_
      · intro oi ho
        simp only [List.getElem?_toArray, List.getElem?_cons_zero, List.getElem?_cons_succ, Option.some.injEq] at ho; subst ho
        refine Or.inl ⟨by rfl, ?_⟩
        intro w' hSw
        obtain ⟨sa, sb, sc⟩ := hSw
        go_simp
      try simp only [Act.put, List.setIfInBounds_toArray, List.set_cons_zero, List.set_cons_succ]
      refine wpAnyD_put (i := 2) (v := .pointer (some ⟨b4, 2, none⟩)) rfl (by kernel_rfl) (by kernel_rfl) (by kernel_rfl) (by kernel_rfl) rfl (by kernel_rfl) (fun _ _ _ h => h) hS0 ?_ ?_
      · intro oi ho
        simp only [List.getElem?_toArray, List.getElem?_cons_zero, List.getElem?_cons_succ, Option.some.injEq] at ho; subst ho
        refine Or.inl ⟨by rfl, ?_⟩
        intro w' hSw
        obtain ⟨sa, sb, sc⟩ := hSw
        go_simp
      try simp only [Act.put, List.setIfInBounds_toArray, List.set_cons_zero, List.set_cons_succ]
      refine wpAnyD_put (i := 3) (v := .slice (some ⟨g, 0, none⟩) n c3) rfl (by kernel_rfl) (by kernel_rfl) (by kernel_rfl) (by kernel_rfl) rfl (by kernel_rfl) (fun _ _ _ h => h) hS0 ?_ ?_
      · intro oi ho
        simp only [List.getElem?_toArray, List.getElem?_cons_zero, List.getElem?_cons_succ, Option.some.injEq] at ho; subst ho
        refine Or.inl ⟨by rfl, ?_⟩
        intro w' hSw
        obtain ⟨sa, sb, sc⟩ := hSw
        go_simp
      try simp only [Act.put, List.setIfInBounds_toArray, List.set_cons_zero, List.set_cons_succ]
      refine wpAnyD_put (i := 4) (v := .pointer (some ⟨g, 0, none⟩)) rfl (by kernel_rfl) (by kernel_rfl) (by kernel_rfl) (by kernel_rfl) rfl (by kernel_rfl) (fun _ _ _ h => h) hS0 ?_ ?_
      · intro oi ho
        simp only [List.getElem?_toArray, List.getElem?_cons_zero, List.getElem?_cons_succ, Option.some.injEq] at ho; subst ho
        refine Or.inl ⟨by rfl, ?_⟩
        intro w' hSw
        obtain ⟨sa, sb, sc⟩ := hSw
        go_simp
      try simp only [Act.put, List.setIfInBounds_toArray, List.set_cons_zero, List.set_cons_succ]
      refine wpAnyD_put (i := 5) (v := .slice ar M cr) rfl (by kernel_rfl) (by kernel_rfl) (by kernel_rfl) (by kernel_rfl) rfl (by kernel_rfl) (fun _ _ _ h => h) hS0 ?_ ?_
      · intro oi ho
        simp only [List.getElem?_toArray, List.getElem?_cons_zero, List.getElem?_cons_succ, Option.some.injEq] at ho; subst ho
        refine Or.inl ⟨by rfl, ?_⟩
        intro w' hSw
        obtain ⟨sa, sb, sc⟩ := hSw
        go_simp
      try simp only [Act.put, List.setIfInBounds_toArray, List.set_cons_zero, List.set_cons_succ]
      refine wpAnyD_put (i := 7) (v := .pointer (some ⟨b4, 0, none⟩)) rfl (by kernel_rfl) (by kernel_rfl) (by kernel_rfl) (by kernel_rfl) rfl (by kernel_rfl) (fun _ _ _ h => h) hS0 ?_ ?_
      · intro oi ho
        simp only [List.getElem?_toArray, List.getElem?_cons_zero, List.getElem?_cons_succ, Option.some.injEq] at ho; subst ho
        refine Or.inl ⟨by rfl, ?_⟩
        intro w' hSw
        obtain ⟨sa, sb, sc⟩ := hSw
        go_simp
      try simp only [Act.put, List.setIfInBounds_toArray, List.set_cons_zero, List.set_cons_succ]
      refine wpAnyD_put (i := 8) (v := .slice a1 n c1) rfl (by kernel_rfl) (by kernel_rfl) (by kernel_rfl) (by kernel_rfl) rfl (by kernel_rfl) (fun _ _ _ h => h) hS0 ?_ ?_
      · intro oi ho
        simp only [List.getElem?_toArray, List.getElem?_cons_zero, List.getElem?_cons_succ, Option.some.injEq] at ho; subst ho
        refine Or.inl ⟨by rfl, ?_⟩
        intro w' hSw
        obtain ⟨sa, sb, sc⟩ := hSw
        go_simp
      try simp only [Act.put, List.setIfInBounds_toArray, List.set_cons_zero, List.set_cons_succ]
      refine wpAnyD_put (i := 9) (v := .int .i64 n) rfl (by kernel_rfl) (by kernel_rfl) (by kernel_rfl) (by kernel_rfl) rfl (by kernel_rfl) (fun _ _ _ h => h) hS0 ?_ ?_
      · intro oi ho
        simp only [List.getElem?_toArray, List.getElem?_cons_zero, List.getElem?_cons_succ, Option.some.injEq] at ho; subst ho
        refine Or.inl ⟨by rfl, ?_⟩
        intro w' hSw
        obtain ⟨sa, sb, sc⟩ := hSw
        go_simp
      try simp only [Act.put, List.setIfInBounds_toArray, List.set_cons_zero, List.set_cons_succ]
      refine wpAnyD_ready (rs := [6, 10]) (by kernel_rfl) (by simp) ?_
      refine AllD.step (i := 6) (by kernel_rfl) ?_ ?_
      · intro o ho K hK
        simp only [List.getElem?_toArray, List.getElem?_cons_zero, List.getElem?_cons_succ, Option.some.injEq] at ho; subst ho
        go_simp
        go_at_call 68
        refine (HOWN.out w5.drew (Below.refl _ _).drew).mono ?_
        rintro e w6 ⟨u6, rfl, hO6, hB6⟩
        have hb6 : Below w5.heap.size w5 w6 := below_size (Below.refl _ _).drew hB6
        have hbm := ballocD hb6 (.cells (madeCells #[.int .i64 0] n) 2)
        have hbr := ballocD hbm (.cells #[.slice (some ⟨w6.heap.size, 0, none⟩) n n] 24)
        have hs6 := hb6.size
        obtain ⟨u7, w7, hr7, hI7, hb7⟩ := app_row (T := fun k => k = w6.heap.size) 25 hbr (local_O2.below (local_O2.below hO6 (below_alloc w6 (.cells (madeCells #[.int .i64 0] n) 2))) (below_alloc _ (.cells #[.slice (some ⟨w6.heap.size, 0, none⟩) n n] 24))) (fun k hk => hk.1) (O1B (made_own w6 n HN6.out) (below_alloc _ (.cells #[.slice (some ⟨w6.heap.size, 0, none⟩) n n] 24))) (fun k hk => by omega) (fun k hk hh => by have := hh.2; omega) rfl (vx := .slice (some ⟨w6.heap.size + 1, 0, none⟩) 1 1) (rdv_cell (by simp)) HLN.out
        obtain ⟨t7, t8⟩ := HSET.out w7 hb7
        obtain ⟨t9, t10, t11, t12⟩ := t7
        obtain ⟨a7, n7, c7, rfl⟩ : ∃ a n c, u7 = .slice a n c := by obtain ⟨a, c, e, _⟩ := hI7.rd.form; exact ⟨a, _, c, e⟩
        have hq := Lib.hid (t8 _ _ hI7)
        refine hK.out _ _ (fun hz => KS3.out _ hb6) ?_
        clear hK K
        try simp only [Act.put, List.setIfInBounds_toArray, List.set_cons_zero, List.set_cons_succ]
        refine wpAnyD_ready (rs := [10]) (by kernel_rfl) (by simp) ?_
        refine AllD.step (i := 10) (by kernel_rfl) ?_ ?_
        · intro o ho K hK
          simp only [List.getElem?_toArray, List.getElem?_cons_zero, List.getElem?_cons_succ, Option.some.injEq] at ho; subst ho
          go_simp
          refine hK.out _ _ (fun hz => KS3.out _ hbm) ?_
          clear hK K
          try simp only [Act.put, List.setIfInBounds_toArray, List.set_cons_zero, List.set_cons_succ]
          refine wpAnyD_ready (rs := [11]) (by kernel_rfl) (by simp) ?_
          refine AllD.step (i := 11) (by kernel_rfl) ?_ ?_
          · intro o ho K hK
            simp only [List.getElem?_toArray, List.getElem?_cons_zero, List.getElem?_cons_succ, Option.some.injEq] at ho; subst ho
            go_simp
            refine hK.out _ _ (fun hz => KS3.out _ hbr) ?_
            clear hK K
            try simp only [Act.put, List.setIfInBounds_toArray, List.set_cons_zero, List.set_cons_succ]
            refine wpAnyD_ready (rs := [12]) (by kernel_rfl) (by simp) ?_
            refine AllD.step (i := 12) (by kernel_rfl) ?_ ?_
            · intro o ho K hK
              simp only [List.getElem?_toArray, List.getElem?_cons_zero, List.getElem?_cons_succ, Option.some.injEq] at ho; subst ho
              refine step_of_run rfl (.tmp 83) (.tmp 88) 25 rfl _ _ (by simp [Act.eval, Act.put]) (by simp [Act.eval, Act.put]) _ _ hr7 ?_
              refine hK.out _ _ (fun hz => KS3.out _ hb7) ?_
              clear hK K
              try simp only [Act.put, List.setIfInBounds_toArray, List.set_cons_zero, List.set_cons_succ]
              refine wpAnyD_ready (rs := [13]) (by kernel_rfl) (by simp) ?_
              refine AllD.step (i := 13) (by kernel_rfl) ?_ ?_
              · intro o ho K hK
                simp only [List.getElem?_toArray, List.getElem?_cons_zero, List.getElem?_cons_succ, Option.some.injEq] at ho; subst ho
                go_simp
                refine hK.out _ _ (fun hz => KS3.out _ hb7) ?_
                clear hK K
                try simp only [Act.put, List.setIfInBounds_toArray, List.set_cons_zero, List.set_cons_succ]
                refine wpAnyD_ready (rs := [14]) (by kernel_rfl) (by simp) ?_
                refine AllD.step (i := 14) (by kernel_rfl) ?_ ?_
                · intro o ho K hK
                  simp only [List.getElem?_toArray, List.getElem?_cons_zero, List.getElem?_cons_succ, Option.some.injEq] at ho; subst ho
                  go_simp
                  refine hK.out _ _ (fun hz => Bool.noConfusion ((by kernel_rfl : _ = true).symm.trans hz)) ?_
                  clear hK K
                  try simp only [Act.put, List.setIfInBounds_toArray, List.set_cons_zero, List.set_cons_succ]
                  refine wpAnyD_done (by kernel_rfl) ?_ _
                  have hTS := hq.out
                  clear hq
                  obtain ⟨b1, n1, d1, b2, n2, d2, b3, n3, d3, x4, y2, hF⟩ := hTS.fin
                  have HF := Lib.hid hF
                  have k0 := x4.c0
                  have k1 := x4.c1
                  have k2 := x4.c2
                  have q0 := y2.c0
                  have q1 := y2.c1
                  have q2 := y2.c2
                  have f0 := y2.fr 0
                  have f1 := y2.fr 1
                  have f2 := y2.fr 2
                  clear x4 y2 hF hTS
                  go_wp2_with fail
                  exact bodyPost_ret (v := .agg #[Value.slice b1 n1 d1, Value.slice b2 n2 d2, Value.slice b3 n3 d3]) (by simp [results, Try.results58, go_sem, q0, q1, q2]) rfl HF.out
                exact AllD.nil
              exact AllD.nil
            exact AllD.nil
          exact AllD.nil
        exact AllD.nil
      refine AllD.step (i := 10) (by kernel_rfl) ?_ ?_
      · intro o ho K hK
        simp only [List.getElem?_toArray, List.getElem?_cons_zero, List.getElem?_cons_succ, Option.some.injEq] at ho; subst ho
        go_simp
        refine hK.out _ _ (fun hz => KS3.out _ (below_alloc w5 (.cells (madeCells #[.int .i64 0] n) 2)).drew) ?_
        clear hK K
        try simp only [Act.put, List.setIfInBounds_toArray, List.set_cons_zero, List.set_cons_succ]
        refine wpAnyD_ready (rs := [6, 11]) (by kernel_rfl) (by simp) ?_
        refine AllD.step (i := 6) (by kernel_rfl) ?_ ?_
        · intro o ho K hK
          simp only [List.getElem?_toArray, List.getElem?_cons_zero, List.getElem?_cons_succ, Option.some.injEq] at ho; subst ho
          go_simp
          go_at_call 68
          refine (HOWN.out (w5.drew.alloc (.cells (madeCells #[.int .i64 0] n) 2)) (below_alloc w5 (.cells (madeCells #[.int .i64 0] n) 2)).drew).mono ?_
          rintro e w6 ⟨u6, rfl, hO6, hB6⟩
          have hb6a : Below (w5.alloc (.cells (madeCells #[.int .i64 0] n) 2)).heap.size (w5.alloc (.cells (madeCells #[.int .i64 0] n) 2)) w6 := below_size (Below.refl _ _).drew hB6
          have hb6 : Below w5.heap.size w5 w6 := below_size (below_alloc _ _) hb6a
          have hbr := ballocD hb6 (.cells #[.slice (some ⟨w5.heap.size, 0, none⟩) n n] 24)
          obtain ⟨u7, w7, hr7, hI7, hb7⟩ := app_row (T := fun k => k = w5.heap.size) 25 hbr (local_O2.below hO6 (below_alloc w6 (.cells #[.slice (some ⟨w5.heap.size, 0, none⟩) n n] 24))) (fun k hk => by have h1 := hk.1; simp at h1; omega) (O1B (made_own w5 n HN6.out) (below_size hb6a (below_alloc _ (.cells #[.slice (some ⟨w5.heap.size, 0, none⟩) n n] 24)))) (fun k hk => by omega) (fun k hk hh => by have h1 := hh.1; simp at h1; omega) rfl (vx := .slice (some ⟨w6.heap.size, 0, none⟩) 1 1) (rdv_cell (by simp)) HLN.out
          obtain ⟨t7, t8⟩ := HSET.out w7 hb7
          obtain ⟨t9, t10, t11, t12⟩ := t7
          obtain ⟨a7, n7, c7, rfl⟩ : ∃ a n c, u7 = .slice a n c := by obtain ⟨a, c, e, _⟩ := hI7.rd.form; exact ⟨a, _, c, e⟩
          have hq := Lib.hid (t8 _ _ hI7)
          refine hK.out _ _ (fun hz => KS3.out _ hb6) ?_
          clear hK K
          try simp only [Act.put, List.setIfInBounds_toArray, List.set_cons_zero, List.set_cons_succ]
          refine wpAnyD_ready (rs := [11]) (by kernel_rfl) (by simp) ?_
          refine AllD.step (i := 11) (by kernel_rfl) ?_ ?_
          · intro o ho K hK
            simp only [List.getElem?_toArray, List.getElem?_cons_zero, List.getElem?_cons_succ, Option.some.injEq] at ho; subst ho
            go_simp
            refine hK.out _ _ (fun hz => KS3.out _ hbr) ?_
            clear hK K
            try simp only [Act.put, List.setIfInBounds_toArray, List.set_cons_zero, List.set_cons_succ]
            refine wpAnyD_ready (rs := [12]) (by kernel_rfl) (by simp) ?_
            refine AllD.step (i := 12) (by kernel_rfl) ?_ ?_
            · intro o ho K hK
              simp only [List.getElem?_toArray, List.getElem?_cons_zero, List.getElem?_cons_succ, Option.some.injEq] at ho; subst ho
              refine step_of_run rfl (.tmp 83) (.tmp 88) 25 rfl _ _ (by simp [Act.eval, Act.put]) (by simp [Act.eval, Act.put]) _ _ hr7 ?_
              refine hK.out _ _ (fun hz => KS3.out _ hb7) ?_
              clear hK K
              try simp only [Act.put, List.setIfInBounds_toArray, List.set_cons_zero, List.set_cons_succ]
              refine wpAnyD_ready (rs := [13]) (by kernel_rfl) (by simp) ?_
              refine AllD.step (i := 13) (by kernel_rfl) ?_ ?_
              · intro o ho K hK
                simp only [List.getElem?_toArray, List.getElem?_cons_zero, List.getElem?_cons_succ, Option.some.injEq] at ho; subst ho
                go_simp
                refine hK.out _ _ (fun hz => KS3.out _ hb7) ?_
                clear hK K
                try simp only [Act.put, List.setIfInBounds_toArray, List.set_cons_zero, List.set_cons_succ]
                refine wpAnyD_ready (rs := [14]) (by kernel_rfl) (by simp) ?_
                refine AllD.step (i := 14) (by kernel_rfl) ?_ ?_
                · intro o ho K hK
                  simp only [List.getElem?_toArray, List.getElem?_cons_zero, List.getElem?_cons_succ, Option.some.injEq] at ho; subst ho
                  go_simp
                  refine hK.out _ _ (fun hz => Bool.noConfusion ((by kernel_rfl : _ = true).symm.trans hz)) ?_
                  clear hK K
                  try simp only [Act.put, List.setIfInBounds_toArray, List.set_cons_zero, List.set_cons_succ]
                  refine wpAnyD_done (by kernel_rfl) ?_ _
                  have hTS := hq.out
                  clear hq
                  obtain ⟨b1, n1, d1, b2, n2, d2, b3, n3, d3, x4, y2, hF⟩ := hTS.fin
                  have HF := Lib.hid hF
                  have k0 := x4.c0
                  have k1 := x4.c1
                  have k2 := x4.c2
                  have q0 := y2.c0
                  have q1 := y2.c1
                  have q2 := y2.c2
                  have f0 := y2.fr 0
                  have f1 := y2.fr 1
                  have f2 := y2.fr 2
                  clear x4 y2 hF hTS
                  go_wp2_with fail
                  exact bodyPost_ret (v := .agg #[Value.slice b1 n1 d1, Value.slice b2 n2 d2, Value.slice b3 n3 d3]) (by simp [results, Try.results58, go_sem, q0, q1, q2]) rfl HF.out
                exact AllD.nil
              exact AllD.nil
            exact AllD.nil
          exact AllD.nil
        refine AllD.step (i := 11) (by kernel_rfl) ?_ ?_
        · intro o ho K hK
          simp only [List.getElem?_toArray, List.getElem?_cons_zero, List.getElem?_cons_succ, Option.some.injEq] at ho; subst ho
          go_simp
          refine hK.out _ _ (fun hz => KS3.out _ (ballocD (below_alloc w5 (.cells (madeCells #[.int .i64 0] n) 2)) (.cells #[.slice (some ⟨w5.heap.size, 0, none⟩) n n] 24)).drew) ?_
          clear hK K
          try simp only [Act.put, List.setIfInBounds_toArray, List.set_cons_zero, List.set_cons_succ]
          refine wpAnyD_ready (rs := [6]) (by kernel_rfl) (by simp) ?_
          refine AllD.step (i := 6) (by kernel_rfl) ?_ ?_
          · intro o ho K hK
            simp only [List.getElem?_toArray, List.getElem?_cons_zero, List.getElem?_cons_succ, Option.some.injEq] at ho; subst ho
            go_simp
            go_at_call 68
            refine (HOWN.out ((w5.drew.alloc (.cells (madeCells #[.int .i64 0] n) 2)).alloc (.cells #[.slice (some ⟨w5.heap.size, 0, none⟩) n n] 24)) (ballocD (below_alloc w5 (.cells (madeCells #[.int .i64 0] n) 2)) (.cells #[.slice (some ⟨w5.heap.size, 0, none⟩) n n] 24)).drew).mono ?_
            rintro e w6 ⟨u6, rfl, hO6, hB6⟩
            have hb6a : Below ((w5.alloc (.cells (madeCells #[.int .i64 0] n) 2)).alloc (.cells #[.slice (some ⟨w5.heap.size, 0, none⟩) n n] 24)).heap.size ((w5.alloc (.cells (madeCells #[.int .i64 0] n) 2)).alloc (.cells #[.slice (some ⟨w5.heap.size, 0, none⟩) n n] 24)) w6 := below_size (Below.refl _ _).drew hB6
            have hb6 : Below w5.heap.size w5 w6 := below_size (ballocD (below_alloc _ _) _) hb6a
            obtain ⟨u7, w7, hr7, hI7, hb7⟩ := app_row (T := fun k => k = w5.heap.size) 25 hb6 hO6 (fun k hk => by have h1 := hk.1; simp at h1; omega) (O1B (made_own w5 n HN6.out) (below_size (below_alloc _ _) hb6a)) (fun k hk => by omega) (fun k hk hh => by have h1 := hh.1; simp at h1; omega) rfl (vx := .slice (some ⟨w5.heap.size + 1, 0, none⟩) 1 1) (rdv_cell ((hb6a.cell (p := ⟨w5.heap.size + 1, 0, none⟩) (by simp)).trans (by simp))) HLN.out
            obtain ⟨t7, t8⟩ := HSET.out w7 hb7
            obtain ⟨t9, t10, t11, t12⟩ := t7
            obtain ⟨a7, n7, c7, rfl⟩ : ∃ a n c, u7 = .slice a n c := by obtain ⟨a, c, e, _⟩ := hI7.rd.form; exact ⟨a, _, c, e⟩
            have hq := Lib.hid (t8 _ _ hI7)
            refine hK.out _ _ (fun hz => KS3.out _ hb6) ?_
            clear hK K
            try simp only [Act.put, List.setIfInBounds_toArray, List.set_cons_zero, List.set_cons_succ]
            refine wpAnyD_ready (rs := [12]) (by kernel_rfl) (by simp) ?_
            refine AllD.step (i := 12) (by kernel_rfl) ?_ ?_
            · intro o ho K hK
              simp only [List.getElem?_toArray, List.getElem?_cons_zero, List.getElem?_cons_succ, Option.some.injEq] at ho; subst ho
              refine step_of_run rfl (.tmp 83) (.tmp 88) 25 rfl _ _ (by simp [Act.eval, Act.put]) (by simp [Act.eval, Act.put]) _ _ hr7 ?_
              refine hK.out _ _ (fun hz => KS3.out _ hb7) ?_
              clear hK K
              try simp only [Act.put, List.setIfInBounds_toArray, List.set_cons_zero, List.set_cons_succ]
              refine wpAnyD_ready (rs := [13]) (by kernel_rfl) (by simp) ?_
              refine AllD.step (i := 13) (by kernel_rfl) ?_ ?_
              · intro o ho K hK
                simp only [List.getElem?_toArray, List.getElem?_cons_zero, List.getElem?_cons_succ, Option.some.injEq] at ho; subst ho
                go_simp
                refine hK.out _ _ (fun hz => KS3.out _ hb7) ?_
                clear hK K
                try simp only [Act.put, List.setIfInBounds_toArray, List.set_cons_zero, List.set_cons_succ]
                refine wpAnyD_ready (rs := [14]) (by kernel_rfl) (by simp) ?_
                refine AllD.step (i := 14) (by kernel_rfl) ?_ ?_
                · intro o ho K hK
                  simp only [List.getElem?_toArray, List.getElem?_cons_zero, List.getElem?_cons_succ, Option.some.injEq] at ho; subst ho
                  go_simp
                  refine hK.out _ _ (fun hz => Bool.noConfusion ((by kernel_rfl : _ = true).symm.trans hz)) ?_
                  clear hK K
                  try simp only [Act.put, List.setIfInBounds_toArray, List.set_cons_zero, List.set_cons_succ]
                  refine wpAnyD_done (by kernel_rfl) ?_ _
                  have hTS := hq.out
                  clear hq
                  obtain ⟨b1, n1, d1, b2, n2, d2, b3, n3, d3, x4, y2, hF⟩ := hTS.fin
                  have HF := Lib.hid hF
                  have k0 := x4.c0
                  have k1 := x4.c1
                  have k2 := x4.c2
                  have q0 := y2.c0
                  have q1 := y2.c1
                  have q2 := y2.c2
                  have f0 := y2.fr 0
                  have f1 := y2.fr 1
                  have f2 := y2.fr 2
                  clear x4 y2 hF hTS
                  go_wp2_with fail
                  exact bodyPost_ret (v := .agg #[Value.slice b1 n1 d1, Value.slice b2 n2 d2, Value.slice b3 n3 d3]) (by simp [results, Try.results58, go_sem, q0, q1, q2]) rfl HF.out
                exact AllD.nil
              exact AllD.nil
            exact AllD.nil
          exact AllD.nil
        exact AllD.nil
      exact AllD.nil
    · obtain rfl : n = 0 := by omega
      have hTS := hST.ts hbl hw0 (by omega)
      clear hK hST
      obtain ⟨b1, n1, d1, b2, n2, d2, b3, n3, d3, x4, y2, hF⟩ := hTS.fin
      have HF := Lib.hid hF
      have k0 := x4.c0
      have k1 := x4.c1
      have k2 := x4.c2
      have q0 := y2.c0
      have q1 := y2.c1
      have q2 := y2.c2
      have f0 := y2.fr 0
      have f1 := y2.fr 1
      have f2 := y2.fr 2
      have hz := Option.some.inj (m2.symm.trans k2)
      simp only [Value.slice.injEq] at hz
      obtain ⟨rfl, rfl, rfl⟩ := hz
      clear x4 y2 hF hTS
      go_wp2_with fail
      exact bodyPost_ret (v := .agg #[Value.slice b1 n1 d1, Value.slice b2 n2 d2, Value.slice a3 0 c3]) (by simp [results, Try.results58, go_sem, q0, q1, q2]) rfl HF.out
  · clear r0 r1
    obtain ⟨P, a1, c1, a2, c2, a3, c3, hWP, hK⟩ := hST.ks hbl hw0 (by omega)
    have hlit := Rd.litI w5 [7, 7, 7, 7] (by simp)
    obtain ⟨⟨h2, h4, hne, _, _, hm2, hm4, hmN, _⟩, _⟩ := id hK
    go_wp2_with fail
    refine (HT7.out _ _ hlit).mono ?_
    rintro e w6 ⟨u1, u2, u3, rfl, hP6, hB6⟩
    have hW4 : WS 4 (triv [7, 7, 7, 7]) := ws_triv (os := [7, 7, 7, 7]) (by decide)
    obtain ⟨⟨d1, e1, rfl⟩, ⟨d2, e2, rfl⟩, ⟨d3, e3, rfl⟩⟩ := hP6.formsN hW4.on hW4.pl hW4.cl
    have hK6 := (hK.bel (below_alloc w5 (.cells (([7, 7, 7, 7] : List Int).map (Value.int .i64)).toArray 2))).bel hB6
    obtain ⟨_, hS6, hC6, X26, _, X46⟩ := id hK6
    have hBY := BY.set (N := w.heap.size) X26 X46 hP6 (fun k hk _ => by have h1 := hk.1; simp at h1; exact ⟨by omega, by omega, by omega⟩) hW4 h2 h4 hne
    have hbl6 := set3B ((Below.refl w6.heap.size w6).mono hC6.size) h4 (Value.slice d1 4 e1) (Value.slice d2 4 e2) (Value.slice d3 4 e3)
    have hST7 : ST w0 vc nc b w (w.heap.size + 1) b4 4 _ := ⟨hBY, hS6.belowB hbl6 hbl hw0, hC6.belB hbl6⟩
    have k0 := X46.c0
    have k1 := X46.c1
    have k2 := X46.c2
    have f0 := X46.fr 0
    have f1 := X46.fr 1
    have f2 := X46.fr 2
    clear hK hK6 hS6 hC6 X26 X46 hP6 hB6 hBY hbl6 hlit hST
    go_wp2_with fail
    generalize ((w6.setCell ⟨b4, 0, none⟩ (Value.slice d1 4 e1)).setCell ⟨b4, 1, none⟩ (Value.slice d2 4 e2)).setCell ⟨b4, 2, none⟩ (Value.slice d3 4 e3) = w7 at *
    clear k0 k1 k2 f0 f1 f2
    refine (HNX.out 2 w7 (by omega) (by omega) hST7.2.1).mono ?_
    rintro e w8 ⟨r8, rfl, r80, r81, hS8, hC8⟩
    have hST8 := hST7.keep hS8 hC8 hbl
    clear hST7 hS8 hC8
    by_cases hr : r8 = 0
    · subst hr
      obtain ⟨P, a1, c1, a2, c2, a3, c3, hWP, hK⟩ := hST8.ks hbl hw0 (by omega)
      have hlit := Rd.litI w8 [2, 2, 2, 2, 2, 2, 2] (by simp)
      obtain ⟨⟨h2, h4, hne, _, _, hm2, hm4, hmN, _⟩, _⟩ := id hK
      go_wp2_with fail
      refine (HT2.out _ _ hlit).mono ?_
      rintro e w9 ⟨u1, u2, u3, rfl, hP6, hB6⟩
      have hW7 : WS 7 (triv [2, 2, 2, 2, 2, 2, 2]) := ws_triv (os := [2, 2, 2, 2, 2, 2, 2]) (by decide)
      obtain ⟨⟨d1, e1, rfl⟩, ⟨d2, e2, rfl⟩, ⟨d3, e3, rfl⟩⟩ := hP6.formsN hW7.on hW7.pl hW7.cl
      have hK6 := (hK.bel (below_alloc w8 (.cells (([2, 2, 2, 2, 2, 2, 2] : List Int).map (Value.int .i64)).toArray 2))).bel hB6
      obtain ⟨_, hS6, hC6, X26, _, X46⟩ := id hK6
      have hBY := BY.set (N := w.heap.size) X26 X46 hP6 (fun k hk _ => by have h1 := hk.1; simp at h1; exact ⟨by omega, by omega, by omega⟩) hW7 h2 h4 hne
      have hbl6 := set3B ((Below.refl w9.heap.size w9).mono hC6.size) h4 (Value.slice d1 7 e1) (Value.slice d2 7 e2) (Value.slice d3 7 e3)
      have hST9 : ST w0 vc nc b w (w.heap.size + 1) b4 7 _ := ⟨hBY, hS6.belowB hbl6 hbl hw0, hC6.belB hbl6⟩
      have hTS := hST9.ts hbl hw0 (by omega)
      have m0 := X46.c0
      have m1 := X46.c1
      have m2 := X46.c2
      have g0 := X46.fr 0
      have g1 := X46.fr 1
      have g2 := X46.fr 2
      clear hK hK6 hS6 hC6 X26 X46 hP6 hB6 hBY hbl6 hlit hST9 hST8
      obtain ⟨b1, n1, d1, b2, n2, d2, b3, n3, d3, x4, y2, hF⟩ := hTS.fin
      have HF := Lib.hid hF
      have k0 := x4.c0
      have k1 := x4.c1
      have k2 := x4.c2
      have q0 := y2.c0
      have q1 := y2.c1
      have q2 := y2.c2
      have f0 := y2.fr 0
      have f1 := y2.fr 1
      have f2 := y2.fr 2
      clear x4 y2 hF hTS
      go_wp2_with fail
      exact bodyPost_ret (v := .agg #[Value.slice b1 n1 d1, Value.slice b2 n2 d2, Value.slice b3 n3 d3]) (by simp [results, Try.results58, go_sem, q0, q1, q2]) rfl HF.out
    · have hTS := hST8.ts hbl hw0 (by omega)
      clear hST8
      obtain ⟨b1, n1, d1, b2, n2, d2, b3, n3, d3, x4, y2, hF⟩ := hTS.fin
      have HF := Lib.hid hF
      have k0 := x4.c0
      have k1 := x4.c1
      have k2 := x4.c2
      have q0 := y2.c0
      have q1 := y2.c1
      have q2 := y2.c2
      have f0 := y2.fr 0
      have f1 := y2.fr 1
      have f2 := y2.fr 2
      clear x4 y2 hF hTS
      go_wp2_with fail
      exact bodyPost_ret (v := .agg #[Value.slice b1 n1 d1, Value.slice b2 n2 d2, Value.slice b3 n3 d3]) (by simp [results, Try.results58, go_sem, q0, q1, q2]) rfl HF.out
--== end
end Go.Proofs.Ytiikoappknejgaa
namespace Go.Proofs.Ytiikoappknejgaa
set_option linter.unusedVariables false
set_option linter.unusedSimpArgs false
set_option maxRecDepth 100000
open Go.RowKit
attribute [local go_sem ↓] Go.wp_at_zero Go.wp_at_succ

--== spec.l07Draw
theorem ob_ws {p : Pres} (h : WS6 p) : OB p := by
  obtain ⟨n, hn, hW⟩ := h
  unfold OB; rw [hW.on]; omega
set_option maxHeartbeats 8000000 in
theorem s_l07Draw {w0 : World} {vc : Value} {nc b : Nat} (l : Int) (w : World) (h : Src w0 vc nc b w) : Calls Try.prog 35 #[.pointer (some ⟨b, 0, none⟩), .int .i64 l] w (DrP OB w0 vc nc b w) := by
  have g0 := below_alloc w (Obj.cells #[Value.slice none 0 0, Value.slice none 0 0, Value.slice none 0 0] 28)
  have hF0 : FSt w0 vc nc b w (w.alloc (Obj.cells #[Value.slice none 0 0, Value.slice none 0 0, Value.slice none 0 0] 28)) := ⟨h.below g0, Chg.of_below g0 _ _, Bx.new w _ _ _, h.lt, h.be.size⟩
  have HNX : Hid (∀ (m : Int) wx, -100 ≤ m → m ≤ 100 → Src w0 vc nc b wx → Calls Try.prog 36 #[.pointer (some ⟨b, 0, none⟩), .int .i64 m] wx (Nxt w0 vc nc b wx m)) := fun m wx h1 h2 h => s_l01Next wx h m (by omega) (by omega)
  have hbw : b < w.heap.size := h.lt
  clear h g0
  go_enter Try.func35, Try.ntmps35
  go_wp2_with fail
  refine (s_l07Group l _ hF0.1).mono ?_
  rintro e w3 ⟨p, v1, v2, v3, hV, rfl, hP, hS3, hC3⟩
  have hW := ws_valid hV
  have h6 := hV.n6
  obtain ⟨⟨a1, c1, rfl⟩, ⟨a2, c2, rfl⟩, ⟨a3, c3, rfl⟩⟩ := hP.formsN hW.on hW.pl hW.cl
  have hF3 := hF0.keep hS3 hC3
  have hwz := hF0.lt
  have hP3 := OP.sub (S' := fun k => w.heap.size < k ∧ k < w3.heap.size) hP fun k hk hh => ⟨Nat.lt_of_lt_of_le hwz hh.1, hh.2⟩
  have X3 := Bx.new w3 (Value.slice a1 p.n c1) (Value.slice a2 p.n c2) (Value.slice a3 p.n c3)
  have hP4 := OP.below hP3 (below_alloc w3 (Obj.cells #[Value.slice a1 p.n c1, Value.slice a2 p.n c2, Value.slice a3 p.n c3] 28))
  have hF4 := hF3.bel (below_alloc w3 (Obj.cells #[Value.slice a1 p.n c1, Value.slice a2 p.n c2, Value.slice a3 p.n c3] 28))
  have hbx : w.heap.size < w3.heap.size := hF3.lt
  clear hP hP3 hF3 hF0 hS3 hC3 hwz
  go_wp2_with fail
  generalize w3.alloc (Obj.cells #[Value.slice a1 p.n c1, Value.slice a2 p.n c2, Value.slice a3 p.n c3] 28) = w4 at *
  generalize w3.heap.size = b6 at *
  refine (HNX.out 24 w4 (by omega) (by omega) hF4.1).mono ?_
  rintro e w5 ⟨r, rfl, r0, r1, hS5, hC5⟩
  have hF5 := hF4.keep hS5 hC5
  have X5 := X3.chg (chgS_of hC5) (by omega)
  have hP5 := OP.chg hP4 (chgS_of hC5) (fun k hk e => by have := hk.1; omega)
  have m0 := X5.c0
  have m1 := X5.c1
  have m2 := X5.c2
  clear hF4 X3 hP4 hS5 hC5
  by_cases h0 : r = 0
  · subst h0
    go_wp2_with fail
    refine (s_l07Bend hW h6 _ _ _ w5 hF5.1 hP5.rd).mono ?_
    rintro e w6 ⟨p6, u1, u2, u3, hc6, rfl, hP6, hS6, hC6⟩
    obtain ⟨⟨d1, e1, rfl⟩, ⟨d2, e2, rfl⟩, ⟨d3, e3, rfl⟩⟩ := hP6.forms
    have hF6 := hF5.keep hS6 hC6
    have hlt := hF5.lt
    clear hF5 hP5 X5 m0 m1 m2
    have q0 := hF6.2.2.1.c0
    have q1 := hF6.2.2.1.c1
    have q2 := hF6.2.2.1.c2
    have f0 := hF6.2.2.1.fr 0
    have f1 := hF6.2.2.1.fr 1
    have f2 := hF6.2.2.1.fr 2
    have HD := Lib.hid (drp_set (C := OB) hF6 hP6 (fun k hk => Nat.lt_of_lt_of_le hlt hk.1) hc6)
    clear hF6 hP6
    go_wp2_with fail
    exact bodyPost_ret (v := .agg #[Value.slice d1 p6.orders.length e1, Value.slice d2 p6.powers.length e2, Value.slice d3 p6.conj.length e3]) (by simp [results, Try.results35, go_sem, q0, q1, q2]) rfl HD.out
  · by_cases h1 : r = 1
    · subst h1
      go_wp2_with fail
      refine (s_l07Turn hW h6 _ _ _ w5 hF5.1 hP5.rd).mono ?_
      rintro e w6 ⟨p6, u1, u2, u3, hc6, rfl, hP6, hS6, hC6⟩
      obtain ⟨⟨d1, e1, rfl⟩, ⟨d2, e2, rfl⟩, ⟨d3, e3, rfl⟩⟩ := hP6.forms
      have hF6 := hF5.keep hS6 hC6
      have hlt := hF5.lt
      clear hF5 hP5 X5 m0 m1 m2
      have q0 := hF6.2.2.1.c0
      have q1 := hF6.2.2.1.c1
      have q2 := hF6.2.2.1.c2
      have f0 := hF6.2.2.1.fr 0
      have f1 := hF6.2.2.1.fr 1
      have f2 := hF6.2.2.1.fr 2
      have HD := Lib.hid (drp_set (C := OB) hF6 hP6 (fun k hk => Nat.lt_of_lt_of_le hlt hk.1) (ob_ws hc6))
      clear hF6 hP6
      go_wp2_with fail
      exact bodyPost_ret (v := .agg #[Value.slice d1 p6.orders.length e1, Value.slice d2 p6.powers.length e2, Value.slice d3 p6.conj.length e3]) (by simp [results, Try.results35, go_sem, q0, q1, q2]) rfl HD.out
    · by_cases h2 : r = 2
      · subst h2
        go_wp2_with fail
        refine (s_l07Turn hW h6 _ _ _ w5 hF5.1 hP5.rd).mono ?_
        rintro e w6 ⟨p6, u1, u2, u3, hc6, rfl, hP6, hS6, hC6⟩
        obtain ⟨⟨d1, e1, rfl⟩, ⟨d2, e2, rfl⟩, ⟨d3, e3, rfl⟩⟩ := hP6.forms
        have hF6 := hF5.keep hS6 hC6
        have hlt := hF5.lt
        clear hF5 hP5 X5 m0 m1 m2
        have q0 := hF6.2.2.1.c0
        have q1 := hF6.2.2.1.c1
        have q2 := hF6.2.2.1.c2
        have f0 := hF6.2.2.1.fr 0
        have f1 := hF6.2.2.1.fr 1
        have f2 := hF6.2.2.1.fr 2
        have HD := Lib.hid (drp_set (C := OB) hF6 hP6 (fun k hk => Nat.lt_of_lt_of_le hlt hk.1) (ob_ws hc6))
        clear hF6 hP6
        go_wp2_with fail
        exact bodyPost_ret (v := .agg #[Value.slice d1 p6.orders.length e1, Value.slice d2 p6.powers.length e2, Value.slice d3 p6.conj.length e3]) (by simp [results, Try.results35, go_sem, q0, q1, q2]) rfl HD.out
      · clear X5
        have q0 := hF5.2.2.1.c0
        have q1 := hF5.2.2.1.c1
        have q2 := hF5.2.2.1.c2
        have f0 := hF5.2.2.1.fr 0
        have f1 := hF5.2.2.1.fr 1
        have f2 := hF5.2.2.1.fr 2
        have HD := Lib.hid (drp_set (C := OB) hF5 hP5 (fun k hk => hk.1) (by unfold OB; rw [hW.on]; omega))
        clear hF5 hP5
        go_wp2_with fail
        exact bodyPost_ret (v := .agg #[Value.slice a1 p.n c1, Value.slice a2 p.n c2, Value.slice a3 p.n c3]) (by simp [results, Try.results35, go_sem, q0, q1, q2]) rfl HD.out
--== spec.l08Draw
set_option maxHeartbeats 8000000 in
theorem s_l08Draw {w0 : World} {vc : Value} {nc b : Nat} (w : World) (h : Src w0 vc nc b w) : Calls Try.prog 16 #[.pointer (some ⟨b, 0, none⟩)] w (DrP OB w0 vc nc b w) := by
  have g0 := below_alloc w (Obj.cells #[Value.slice none 0 0, Value.slice none 0 0, Value.slice none 0 0] 28)
  have hF0 : FSt w0 vc nc b w (w.alloc (Obj.cells #[Value.slice none 0 0, Value.slice none 0 0, Value.slice none 0 0] 28)) := ⟨h.below g0, Chg.of_below g0 _ _, Bx.new w _ _ _, h.lt, h.be.size⟩
  have HNX : Hid (∀ (m : Int) wx, -100 ≤ m → m ≤ 100 → Src w0 vc nc b wx → Calls Try.prog 36 #[.pointer (some ⟨b, 0, none⟩), .int .i64 m] wx (Nxt w0 vc nc b wx m)) := fun m wx h1 h2 h => s_l01Next wx h m (by omega) (by omega)
  have hbw : b < w.heap.size := h.lt
  clear h g0
  go_enter Try.func16, Try.ntmps16
  go_wp2_with fail
  refine (s_l07Draw 96 _ hF0.1).mono ?_
  rintro e w3 ⟨p, v1, v2, v3, hob, rfl, hP, hS3, hC3⟩
  obtain ⟨⟨a1, c1, rfl⟩, ⟨a2, c2, rfl⟩, ⟨a3, c3, rfl⟩⟩ := hP.forms
  have hF3 := hF0.keep hS3 hC3
  have hwz := hF0.lt
  have hP3 := OP.sub (S' := fun k => w.heap.size < k ∧ k < w3.heap.size) hP fun k hk hh => ⟨Nat.lt_of_lt_of_le hwz hh.1, hh.2⟩
  have X3 := Bx.new w3 (Value.slice a1 p.orders.length c1) (Value.slice a2 p.powers.length c2) (Value.slice a3 p.conj.length c3)
  have hP4 := OP.below hP3 (below_alloc w3 (Obj.cells #[Value.slice a1 p.orders.length c1, Value.slice a2 p.powers.length c2, Value.slice a3 p.conj.length c3] 28))
  have hF4 := hF3.bel (below_alloc w3 (Obj.cells #[Value.slice a1 p.orders.length c1, Value.slice a2 p.powers.length c2, Value.slice a3 p.conj.length c3] 28))
  have hbx : w.heap.size < w3.heap.size := hF3.lt
  clear hP hP3 hF3 hF0 hS3 hC3 hwz
  go_wp2_with fail
  generalize w3.alloc (Obj.cells #[Value.slice a1 p.orders.length c1, Value.slice a2 p.powers.length c2, Value.slice a3 p.conj.length c3] 28) = w4 at *
  generalize w3.heap.size = b6 at *
  refine (HNX.out 2 w4 (by omega) (by omega) hF4.1).mono ?_
  rintro e w5 ⟨r, rfl, r0, r1, hS5, hC5⟩
  have hF5 := hF4.keep hS5 hC5
  have X5 := X3.chg (chgS_of hC5) (by omega)
  have hP5 := OP.chg hP4 (chgS_of hC5) (fun k hk e => by have := hk.1; omega)
  have m0 := X5.c0
  have m1 := X5.c1
  have m2 := X5.c2
  clear hF4 X3 hP4 hS5 hC5
  by_cases h0 : r = 0
  · subst h0
    have HISP := Lib.hid (s_IsPresentation _ _ _ p w5 hP5.rd)
    go_wp2_with fail
    refine HISP.out.mono ?_
    rintro e w8 ⟨rfl, hB8⟩
    have X8 := X5.below hB8 X5.lt
    have hP8 := OP.below hP5 hB8
    have hF8 := hF5.bel hB8
    clear m0 m1 m2
    have m0 := X8.c0
    have m1 := X8.c1
    have m2 := X8.c2
    clear X5 hP5 hF5 hB8 HISP
    cases hvb : validB p with
    | true =>
      have hV := validB_true.1 hvb
      have hW := ws_valid hV
      have h6 := hV.n6
      go_wp2_with fail
      refine (s_l07Turn hW h6 _ _ _ w8 hF8.1 hP8.rd).mono ?_
      rintro e w6 ⟨p6, u1, u2, u3, hc6, rfl, hP6, hS6, hC6⟩
      obtain ⟨⟨d1, e1, rfl⟩, ⟨d2, e2, rfl⟩, ⟨d3, e3, rfl⟩⟩ := hP6.forms
      have hF6 := hF8.keep hS6 hC6
      have hlt := hF8.lt
      clear hF8 hP8 X8 m0 m1 m2
      have q0 := hF6.2.2.1.c0
      have q1 := hF6.2.2.1.c1
      have q2 := hF6.2.2.1.c2
      have f0 := hF6.2.2.1.fr 0
      have f1 := hF6.2.2.1.fr 1
      have f2 := hF6.2.2.1.fr 2
      have HD := Lib.hid (drp_set (C := OB) hF6 hP6 (fun k hk => Nat.lt_of_lt_of_le hlt hk.1) (ob_ws hc6))
      clear hF6 hP6
      go_wp2_with fail
      exact bodyPost_ret (v := .agg #[Value.slice d1 p6.orders.length e1, Value.slice d2 p6.powers.length e2, Value.slice d3 p6.conj.length e3]) (by simp [results, Try.results16, go_sem, q0, q1, q2]) rfl HD.out
    | false =>
      clear X8
      have q0 := hF8.2.2.1.c0
      have q1 := hF8.2.2.1.c1
      have q2 := hF8.2.2.1.c2
      have f0 := hF8.2.2.1.fr 0
      have f1 := hF8.2.2.1.fr 1
      have f2 := hF8.2.2.1.fr 2
      have HD := Lib.hid (drp_set (C := OB) hF8 hP8 (fun k hk => hk.1) hob)
      clear hF8 hP8
      go_wp2_with fail
      exact bodyPost_ret (v := .agg #[Value.slice a1 p.orders.length c1, Value.slice a2 p.powers.length c2, Value.slice a3 p.conj.length c3]) (by simp [results, Try.results16, go_sem, q0, q1, q2]) rfl HD.out
  · clear X5
    have q0 := hF5.2.2.1.c0
    have q1 := hF5.2.2.1.c1
    have q2 := hF5.2.2.1.c2
    have f0 := hF5.2.2.1.fr 0
    have f1 := hF5.2.2.1.fr 1
    have f2 := hF5.2.2.1.fr 2
    have HD := Lib.hid (drp_set (C := OB) hF5 hP5 (fun k hk => hk.1) hob)
    clear hF5 hP5
    go_wp2_with fail
    exact bodyPost_ret (v := .agg #[Value.slice a1 p.orders.length c1, Value.slice a2 p.powers.length c2, Value.slice a3 p.conj.length c3]) (by simp [results, Try.results16, go_sem, q0, q1, q2]) rfl HD.out
--== end
end Go.Proofs.Ytiikoappknejgaa
namespace Go.Proofs.Ytiikoappknejgaa
set_option linter.unusedVariables false
set_option linter.unusedSimpArgs false
set_option maxRecDepth 100000
open Go.RowKit
attribute [local go_sem ↓] Go.wp_at_zero Go.wp_at_succ

--== plain
/-- a fresh row of integers, and the source has moved on -/
def LetQ (K : Nat) (w0 : World) (vc : Value) (nc b : Nat) (w : World) (e : Ending) (w' : World) : Prop := ∃ v xs, e = .returned v ∧ xs.length ≤ K ∧ Ints w' w.heap.size v xs ∧ Src w0 vc nc b w' ∧ Chg b (b + 1) w w'
--== spec.l09Letters
set_option maxHeartbeats 4000000 in
theorem s_l09Letters {w0 : World} {vc : Value} {nc b : Nat} (w : World) (h : Src w0 vc nc b w) (a1 a2 a3 : Option Addr) (n c1 n2 c2 n3 c3 L : Nat) (hn : n ≤ 100) (hL : L ≤ 100) :
    Calls Try.prog 50 #[.pointer (some ⟨b, 0, none⟩), .agg #[.slice a1 n c1, .slice a2 n2 c2, .slice a3 n3 c3], .int .i64 L] w (LetQ 200 w0 vc nc b w) := by
  obtain ⟨i0, hi, hz0, hz1, hz2⟩ := info_parts Try.info2
  have g0 := below_alloc w (Obj.cells #[Value.slice a1 n c1, Value.slice a2 n2 c2, Value.slice a3 n3 c3] 28)
  have x0 := Bx.new w (Value.slice a1 n c1) (Value.slice a2 n2 c2) (Value.slice a3 n3 c3)
  have hbl := h.lt
  have hw0 := h.be.size
  have HS := Lib.hid (h.below g0)
  have HG := Lib.hid g0
  have x1 := x0.old (Obj.cells #[] 2)
  have m0 := x1.c0
  clear h x1
  go_enter Try.func50, Try.ntmps50
  go_wp2_with fail
  clear m0
  have HE := Lib.hid (Ints.empty (w.alloc (Obj.cells #[Value.slice a1 n c1, Value.slice a2 n2 c2, Value.slice a3 n3 c3] 28)))
  have z1 : (w.alloc (Obj.cells #[Value.slice a1 n c1, Value.slice a2 n2 c2, Value.slice a3 n3 c3] 28)).heap.size = w.heap.size + 1 := by simp
  have HE : Hid (Ints ((w.alloc (Obj.cells #[Value.slice a1 n c1, Value.slice a2 n2 c2, Value.slice a3 n3 c3] 28)).alloc (Obj.cells #[] 2)) w.heap.size (.slice (some ⟨w.heap.size + 1, 0, none⟩) 0 0) []) := by
    have := HE.out
    rw [z1] at this
    exact this.mono (Nat.le_succ _)
  have HS1 := Lib.hid (HS.out.below (below_alloc _ (Obj.cells #[] 2)))
  have HC1 := Lib.hid (Chg.of_below (below_size HG.out (below_alloc _ (Obj.cells #[] 2))) b (b + 1))
  clear x0 g0 z1
  go_loopw [7, 9] (fun u i wr => ∃ (j : Nat) (xs : List Int), j ≤ L ∧ i = .int .i64 j ∧ xs.length ≤ L + j ∧ Ints wr w.heap.size u xs ∧ Src w0 vc nc b wr ∧ Chg b (b + 1) w wr) (fun _ i _ => L - (intOf i).toNat)
  case atStart => exact ⟨0, [], Nat.zero_le _, rfl, Nat.zero_le _, HE.out, HS1.out, HC1.out⟩
  case round =>
    obtain ⟨j, xs, hj, rfl, hxl, hI, hS, hC⟩ := hrel
    by_cases hlt : j < L ∧ 0 < n
    · obtain ⟨h1, h2⟩ := hlt
      have HC := Lib.hid hC
      have HI := Lib.hid hI
      have HXL := Lib.hid hxl
      clear hC hI hxl
      go_wp2_with fail
      refine (s_l01Next wr hS n (by omega) (by omega)).mono ?_
      rintro e w1 ⟨r, rfl, r0, r1, hS1, hC1⟩
      have HI1 := Lib.hid (HI.out.chgb hC1 hbl)
      have HC1' := Lib.hid (HC.out.tr hC1)
      have hlen : xs.length ≤ 1000000000 := by have := HXL.out; omega
      have hsz := HC1'.out.size
      have HS1' := Lib.hid hS1
      clear hS hS1 hC1 r1
      go_wp2_with (at_builtin; refine wp_app1 _ rfl _ _ rfl w.heap.size i0 Try.underlying24 hi hz0 hz1 hz2 _ _ rfl HI1.out _ rfl hlen hsz ?_)
      intro v' w3 hI3 hG3 hB3
      have hS3 := HS1'.out.belowB hB3 hbl hw0
      have hC3 := HC1'.out.belB hB3
      generalize hys : xs ++ [_] = ys at hI3
      have hl3 : ys.length ≤ L + j + 1 := by rw [← hys, List.length_append]; have := HXL.out; simp; omega
      clear hys hG3 hB3
      go_wp2_with fail
      go_loopw [7] (fun u wr => ∃ (ys : List Int), ys.length ≤ L + j + 1 ∧ (∃ a c, u = .slice a ys.length c) ∧ Ints wr w.heap.size u ys ∧ Src w0 vc nc b wr ∧ Chg b (b + 1) w wr) (fun u _ => L - (match u with | .slice _ k _ => k | _ => 0))
      case atStart => exact ⟨ys, hl3, (by obtain ⟨a, c, e, _⟩ := hI3.form; exact ⟨a, c, e⟩), hI3, hS3, hC3⟩
      case round =>
        clear hI3 hS3 hC3 hl3
        obtain ⟨zs, hz, ⟨a, c, rfl⟩, hI, hS, hC⟩ := hrel
        have HI5 := Lib.hid hI
        have HC5 := Lib.hid hC
        clear hI hC
        go_wp2_with fail
        refine (s_l01Next wr hS 3 (by omega) (by omega)).mono ?_
        rintro e w5 ⟨s, rfl, s0, s1, hS5, hC5⟩
        have HI6 := Lib.hid (HI5.out.chgb hC5 hbl)
        have HC6 := Lib.hid (HC5.out.tr hC5)
        have HS6 := Lib.hid hS5
        have hsz5 := HC6.out.size
        clear hS hS5 hC5 s1
        by_cases hs : s = 0
        · subst hs
          by_cases hzl : zs.length < L
          · have hlen5 : zs.length ≤ 1000000000 := by omega
            go_wp2_with (at_builtin; refine wp_app1 _ rfl _ _ rfl w.heap.size i0 Try.underlying24 hi hz0 hz1 hz2 _ _ rfl HI6.out _ rfl hlen5 hsz5 ?_)
            intro v' w7 hI7 hG7 hB7
            have hS7 := HS6.out.belowB hB7 hbl hw0
            have hC7 := HC6.out.belB hB7
            obtain ⟨a7, c7, rfl, _, _⟩ := hI7.form
            clear hG7 hB7
            go_wp2_with fail
            go_roundw
            case rel => exact ⟨_, by rw [List.length_append]; simp; omega, ⟨_, _, rfl⟩, hI7, hS7, hC7⟩
            case measure => simp; omega
          · go_wp2_with fail
            go_roundw
            case rel => exact ⟨j + 1, zs, by omega, by go_num, by omega, HI6.out, HS6.out, HC6.out⟩
            case measure => simp [intOf]; omega
        · have hs1 : (s == 0) = false := by simpa using hs
          go_wp2_with fail
          go_roundw
          case rel => exact ⟨j + 1, zs, by omega, by go_num, by omega, HI6.out, HS6.out, HC6.out⟩
          case measure => simp [intOf]; omega
    · go_wp2_with fail
      all_goals
        go_ret
        exact ⟨_, xs, rfl, by omega, hI, hS, hC⟩
--== end
end Go.Proofs.Ytiikoappknejgaa
namespace Go.Proofs.Ytiikoappknejgaa
set_option linter.unusedVariables false
set_option linter.unusedSimpArgs false
set_option maxRecDepth 100000
open Go.RowKit
attribute [local go_sem ↓] Go.wp_at_zero Go.wp_at_succ

--== plain
def LimP (w0 : World) (vc : Value) (nc b : Nat) (w : World) (e : Ending) (w' : World) : Prop := ∃ l : Int, e = .returned (.int .i64 l) ∧ -1 ≤ l ∧ l ≤ 100000 ∧ Src w0 vc nc b w' ∧ Chg b (b + 1) w w'
def NumP (w0 : World) (vc : Value) (nc b : Nat) (wl : World) (xs : List Int) (e : Ending) (w' : World) : Prop := ∃ x, x ∈ xs ∧ e = .returned (.int .i64 x) ∧ Src w0 vc nc b w' ∧ Chg b (b + 1) wl w'
theorem pick_lit {w0 : World} {vc : Value} {nc b : Nat} (xs : List Int) (wl : World) (v : Value) (hs : Src w0 vc nc b wl) (hst : ∀ w', Chg b (b + 1) wl w' → Rd w' v xs) (h1 : 0 < xs.length) (h2 : xs.length ≤ 1000) :
    Calls Try.prog 51 #[.pointer (some ⟨b, 0, none⟩), v] wl (NumP w0 vc nc b wl xs) := by
  refine (s_l01Pick wl hs v xs (hst wl (Chg.refl _ _ _)) hst h1 h2).mono ?_
  rintro e w' ⟨q, hq, rfl, hS, hC⟩
  exact ⟨_, getD_mem hq, rfl, hS, hC⟩
theorem Chg.drew1 {lo hi : Nat} {w w' : World} (h : Chg lo hi w w') : Chg lo hi w w'.drew := ⟨h.os, h.tape, h.output, h.size, h.block⟩
--== spec.l09Limit
set_option maxHeartbeats 2000000 in
theorem s_l09Limit {w0 : World} {vc : Value} {nc b : Nat} (w : World) (h : Src w0 vc nc b w) : Calls Try.prog 27 #[.pointer (some ⟨b, 0, none⟩)] w (LimP w0 vc nc b w) := by
  have HPK : Hid (∀ (xs : List Int) (wx wl : World), wl = wx.alloc (.cells (xs.map (Value.int .i64)).toArray 2) → 0 < xs.length → xs.length ≤ 1000 → Src w0 vc nc b wx → Calls Try.prog 51 #[.pointer (some ⟨b, 0, none⟩), .slice (some ⟨wx.heap.size, 0, none⟩) xs.length xs.length] wl (NumP w0 vc nc b wl xs)) := by
    intro xs wx wl hl h1 h2 hS
    subst hl
    exact pick_lit xs _ _ (hS.below (below_alloc _ _)) (lit_keepB hS.lt (Rd.litI wx xs h2)) h1 h2
  have HS := Lib.hid h
  clear h
  go_enter Try.func27, Try.ntmps27
  go_wp2_with fail
  refine (s_l01Next w HS.out 15 (by omega) (by omega)).mono ?_
  rintro e w1 ⟨r, rfl, r0, r1, hS1, hC1⟩
  have HC1 := Lib.hid hC1
  clear hC1
  by_cases hr : r = 0
  · subst hr
    go_wp2_with fail
    refine (HPK.out [-1, 0, 1, 2, 2001] w1 _ rfl (by simp) (by simp) hS1).mono ?_
    rintro e w2 ⟨x, hx, rfl, hS2, hC2⟩
    simp only [List.mem_cons, List.not_mem_nil, or_false] at hx
    have h1 : -1 ≤ x ∧ x ≤ 100000 := by omega
    have HC2 := Lib.hid (HC1.out.tr ((Chg.of_below (below_alloc _ _) _ _).tr hC2))
    clear hx hC2
    go_wp2_with fail
    go_ret
    exact ⟨x, rfl, h1.1, h1.2, hS2, HC2.out⟩
  · go_wp2_with fail
    refine (HPK.out [5, 20, 2000, 2000, 2000] w1 _ rfl (by simp) (by simp) hS1).mono ?_
    rintro e w2 ⟨x, hx, rfl, hS2, hC2⟩
    simp only [List.mem_cons, List.not_mem_nil, or_false] at hx
    have h1 : -1 ≤ x ∧ x ≤ 100000 := by omega
    have HC2 := Lib.hid (HC1.out.tr ((Chg.of_below (below_alloc _ _) _ _).tr hC2))
    clear hx hC2
    go_wp2_with fail
    go_ret
    exact ⟨x, rfl, h1.1, h1.2, hS2, HC2.out⟩
--== spec.l09Draw
set_option maxHeartbeats 8000000 in
theorem s_l09Draw {w0 : World} {vc : Value} {nc b : Nat} (w : World) (h : Src w0 vc nc b w) (a1 a2 a3 : Option Addr) (n c1 n2 c2 n3 c3 : Nat) (hn : n ≤ 100) :
    Calls Try.prog 26 #[.pointer (some ⟨b, 0, none⟩), .agg #[.slice a1 n c1, .slice a2 n2 c2, .slice a3 n3 c3]] w (LetQ 300 w0 vc nc b w) := by
  have g0 := below_alloc w (Obj.cells #[Value.slice a1 n c1, Value.slice a2 n2 c2, Value.slice a3 n3 c3] 28)
  have x0 := Bx.new w (Value.slice a1 n c1) (Value.slice a2 n2 c2) (Value.slice a3 n3 c3)
  have hbl := h.lt
  have hw0 := h.be.size
  have HS := Lib.hid (h.below g0)
  have HC0 := Lib.hid (Chg.of_below g0 b (b + 1))
  have HNX : Hid (∀ (m : Int) wx, -200 ≤ m → m ≤ 200 → Src w0 vc nc b wx → Calls Try.prog 36 #[.pointer (some ⟨b, 0, none⟩), .int .i64 m] wx (Nxt w0 vc nc b wx m)) := fun m wx h1 h2 h => s_l01Next wx h m (by omega) (by omega)
  have HLT : Hid (∀ (L : Nat) wx, L ≤ 100 → Src w0 vc nc b wx → Calls Try.prog 50 #[.pointer (some ⟨b, 0, none⟩), .agg #[.slice a1 n c1, .slice a2 n2 c2, .slice a3 n3 c3], .int .i64 L] wx (LetQ 200 w0 vc nc b wx)) := fun L wx hL h => s_l09Letters wx h a1 a2 a3 n c1 n2 c2 n3 c3 L hn hL
  clear h
  go_enter Try.func26, Try.ntmps26
  go_wp2_with fail
  generalize w.alloc (Obj.cells #[Value.slice a1 n c1, Value.slice a2 n2 c2, Value.slice a3 n3 c3] 28) = w1 at *
  refine (HNX.out 30 w1 (by omega) (by omega) HS.out).mono ?_
  rintro e w2 ⟨r, rfl, r0, r1, hS2, hC2⟩
  have x2 := x0.chg (chgS_of hC2) (by omega)
  have HC2 := Lib.hid (HC0.out.tr hC2)
  have HS2 := Lib.hid hS2
  have KEEP : Hid (∀ wy, Chg b (b + 1) w2 wy → wy.cell? ⟨w.heap.size, 0, none⟩ = some (.slice a1 n c1) ∧ wy.cell? ⟨w.heap.size, 1, none⟩ = some (.slice a2 n2 c2) ∧ wy.cell? ⟨w.heap.size, 2, none⟩ = some (.slice a3 n3 c3)) := fun wy hc => by
    have := x2.chg (chgS_of hc) (by omega)
    exact ⟨this.c0, this.c1, this.c2⟩
  have R2 := Lib.hid (Chg.refl b (b + 1) w2)
  clear x0 g0 hS2 hC2 x2
  by_cases h0 : r = 0
  · subst h0
    have hn1 : IntKind.i64.wrap ((n : Int) + 1) = (n : Int) + 1 := IntWalk.i64_in _ (by omega)
    have HLIT : Hid (∀ wx : World, b < wx.heap.size → ∀ w', Chg b (b + 1) (wx.alloc (.cells #[.int .i64 0, .int .i64 (-1), .int .i64 ((n : Int) + 1)] 2)) w' → Rd w' (.slice (some ⟨wx.heap.size, 0, none⟩) 3 3) [0, -1, (n : Int) + 1]) := fun wx hb => lit_keepB hb (Rd.litI wx [0, -1, (n : Int) + 1] (by simp))
    have HL1 : Hid (∀ (wx : World) (x : Int), Rd (wx.alloc (.cells #[.int .i64 x] 2)) (.slice (some ⟨wx.heap.size, 0, none⟩) 1 1) [x]) := fun wx x => Rd.litI wx [x] (by simp)
    have HPK : Hid (∀ (wl : World) (v : Value), Src w0 vc nc b wl → (∀ w', Chg b (b + 1) wl w' → Rd w' v [0, -1, (n : Int) + 1]) → Calls Try.prog 51 #[.pointer (some ⟨b, 0, none⟩), v] wl (NumP w0 vc nc b wl [0, -1, (n : Int) + 1])) := fun wl v hs hst => pick_lit _ wl v hs hst (by simp) (by simp)
    have HSL := Lib.hid (HS2.out.below (below_alloc w2 (.cells #[.int .i64 0, .int .i64 (-1), .int .i64 ((n : Int) + 1)] 2)))
    have HXL := Lib.hid (Chg.of_below (below_alloc w2 (.cells #[.int .i64 0, .int .i64 (-1), .int .i64 ((n : Int) + 1)] 2)) b (b + 1))
    have HB2 := Lib.hid HS2.out.lt
    have HAPP : Hid (∀ (w6 : World) (u5 : Value) (xs : List Int) (x : Int), Chg b (b + 1) w2 w6 → Src w0 vc nc b w6 → Ints w6 w2.heap.size u5 xs → xs.length ≤ 250 → ∃ v7 w7, (Builtin.append_ #[24, 24] 24 #[u5, .slice (some ⟨w6.heap.size, 0, none⟩) 1 1]).run Try.prog (w6.alloc (.cells #[.int .i64 x] 2)) = .ok v7 w7 ∧ Chg b (b + 1) w2 w7 ∧ LetQ 300 w0 vc nc b w (.returned v7) w7) := fun w6 u5 xs x hc hs hI hl => by
      obtain ⟨v7, w7, hr, hI7, hB7, _⟩ := run_appB (w6.alloc (.cells #[.int .i64 x] 2)) 24 w2.heap.size u5 xs (Ints.below hI (below_alloc _ _)) _ [x] (HL1.out w6 x) (by omega) (by simp) (Nat.le_trans hc.size (below_alloc _ _).size)
      have hb67 : Below w2.heap.size w6 w7 := ((below_alloc w6 _).mono hc.size).trans hB7
      have hc7 := hc.belB hb67
      exact ⟨v7, w7, hr, hc7, v7, _, rfl, by rw [List.length_append]; simp; omega, hI7.mono HC2.out.size, hs.belowB hb67 HB2.out (Nat.le_trans hw0 HC2.out.size), HC2.out.tr hc7⟩
    go_upto_region 3 with (fail)
    go_region_held3 (fun wx => wx.cell? ⟨w.heap.size, 0, none⟩ = some (.slice a1 n c1) ∧ wx.cell? ⟨w.heap.size, 1, none⟩ = some (.slice a2 n2 c2) ∧ wx.cell? ⟨w.heap.size, 2, none⟩ = some (.slice a3 n3 c3))
      (first | exact KEEP.out _ R2.out.drew1 | exact KEEP.out _ HXL.out.drew1 | exact KEEP.out _ (HXL.out) | exact KEEP.out _ hx7 | exact KEEP.out _ hx6 | exact KEEP.out _ (hx6.bel (below_alloc _ _)) | exact KEEP.out _ hx5 | exact KEEP.out _ (hx5.bel (below_alloc _ _)) | exact KEEP.out _ hx4 | exact KEEP.out _ (hx4.bel (below_alloc _ _)))
      (first
        | (go_simp; go_at_call 36; (with_reducible refine (HNX.out 4 w2.drew (by omega) (by omega) (HS2.out.below ((Below.refl _ _).drew))).mono ?_); rintro e w4 ⟨r4, rfl, r40, r41, hS4, hC4⟩; have hx4 := hC4.undrew; obtain ⟨L, rfl⟩ : (∃ L : Nat, r4 = (L : Int)) := ⟨r4.toNat, by omega⟩; have hL : L ≤ 100 := (by rcases r41 with r41 | r41 <;> omega))
        | (go_simp; go_at_call 36; (with_reducible refine (HNX.out 4 (w2.alloc (.cells #[.int .i64 0, .int .i64 (-1), .int .i64 ((n : Int) + 1)] 2)).drew (by omega) (by omega) (HSL.out.below ((Below.refl _ _).drew))).mono ?_); rintro e w4 ⟨r4, rfl, r40, r41, hS4, hC4⟩; have hx4 := HXL.out.tr hC4.undrew; have hli := hC4.undrew; obtain ⟨L, rfl⟩ : (∃ L : Nat, r4 = (L : Int)) := ⟨r4.toNat, by omega⟩; have hL : L ≤ 100 := (by rcases r41 with r41 | r41 <;> omega))
        | (go_simp; go_at_call 50; (with_reducible refine (HLT.out L w4 hL hS4).mono ?_); rintro e w5 ⟨u5, xs, rfl, hl5, hI5, hS5, hC5⟩; have hx5 := hx4.tr hC5; obtain ⟨a5, n5, c5, rfl⟩ : (∃ a n c, u5 = .slice a n c) := (by obtain ⟨a, c, e, _⟩ := hI5.form; exact ⟨a, _, c, e⟩))
        | (go_simp; go_at_call 50; (with_reducible refine (HLT.out L (w4.alloc (.cells #[.int .i64 0, .int .i64 (-1), .int .i64 ((n : Int) + 1)] 2)) hL (hS4.below (below_alloc _ _))).mono ?_); rintro e w5 ⟨u5, xs, rfl, hl5, hI5, hS5, hC5⟩; have hx5 := (hx4.bel (below_alloc w4 (.cells #[.int .i64 0, .int .i64 (-1), .int .i64 ((n : Int) + 1)] 2))).tr hC5; obtain ⟨a5, n5, c5, rfl⟩ : (∃ a n c, u5 = .slice a n c) := (by obtain ⟨a, c, e, _⟩ := hI5.form; exact ⟨a, _, c, e⟩))
        | (go_simp; go_at_call 51; (with_reducible refine (HPK.out (w5.alloc (.cells #[.int .i64 0, .int .i64 (-1), .int .i64 ((n : Int) + 1)] 2)) (.slice (some ⟨w5.heap.size, 0, none⟩) 3 3) (hS5.below (below_alloc _ _)) (HLIT.out w5 hS5.lt)).mono ?_); rintro e w6 ⟨x, hx, rfl, hS6, hC6⟩; have hxp := (Chg.of_below (below_alloc w5 (.cells #[.int .i64 0, .int .i64 (-1), .int .i64 ((n : Int) + 1)] 2)) b (b + 1)).tr hC6; have hx6 := hx5.tr hxp; have hI6 := (Ints.mono hI5 (Nat.le_trans hx4.size (by first | exact Nat.le_refl _ | exact (below_alloc _ _).size))).chgb hxp HB2.out; obtain ⟨v7, w7, hr7, hx7, hq7⟩ := HAPP.out w6 _ xs x hx6 hS6 hI6 (by omega); obtain ⟨a7, n7, c7, rfl⟩ : (∃ a n c, v7 = .slice a n c) := (by obtain ⟨v8, ys, e8, _, h8, _⟩ := hq7; obtain ⟨a, c, e, _⟩ := h8.form; exact ⟨a, _, c, (Ending.returned.inj e8).trans e⟩); have hq := Lib.hid hq7)
        | (go_simp; go_at_call 51; (with_reducible refine (HPK.out w5 (.slice (some ⟨w4.heap.size, 0, none⟩) 3 3) hS5 (fun w' hc => HLIT.out w4 hS4.lt w' (hC5.tr hc))).mono ?_); rintro e w6 ⟨x, hx, rfl, hS6, hC6⟩; have hxp := hC6; have hx6 := hx5.tr hC6; have hI6 := (Ints.mono hI5 (Nat.le_trans hx4.size (by first | exact Nat.le_refl _ | exact (below_alloc _ _).size))).chgb hxp HB2.out; obtain ⟨v7, w7, hr7, hx7, hq7⟩ := HAPP.out w6 _ xs x hx6 hS6 hI6 (by omega); obtain ⟨a7, n7, c7, rfl⟩ : (∃ a n c, v7 = .slice a n c) := (by obtain ⟨v8, ys, e8, _, h8, _⟩ := hq7; obtain ⟨a, c, e, _⟩ := h8.form; exact ⟨a, _, c, (Ending.returned.inj e8).trans e⟩); have hq := Lib.hid hq7)
        | (go_simp; go_at_call 51; (with_reducible refine (HPK.out w5 (.slice (some ⟨w2.heap.size, 0, none⟩) 3 3) hS5 (fun w' hc => HLIT.out w2 HB2.out w' (hli.tr (hC5.tr hc)))).mono ?_); rintro e w6 ⟨x, hx, rfl, hS6, hC6⟩; have hxp := hC6; have hx6 := hx5.tr hC6; have hI6 := (Ints.mono hI5 (Nat.le_trans hx4.size (by first | exact Nat.le_refl _ | exact (below_alloc _ _).size))).chgb hxp HB2.out; obtain ⟨v7, w7, hr7, hx7, hq7⟩ := HAPP.out w6 _ xs x hx6 hS6 hI6 (by omega); obtain ⟨a7, n7, c7, rfl⟩ : (∃ a n c, v7 = .slice a n c) := (by obtain ⟨v8, ys, e8, _, h8, _⟩ := hq7; obtain ⟨a, c, e, _⟩ := h8.form; exact ⟨a, _, c, (Ending.returned.inj e8).trans e⟩); have hq := Lib.hid hq7)
        | (refine step_of_run rfl (.tmp 13) (.tmp 21) 24 rfl _ _ (by simp [Act.eval, Act.put]) (by simp [Act.eval, Act.put]) _ _ hr7 ?_))
    all_goals
      have hqq := hq.out
      clear hq
      go_wp2_with fail
      go_ret
      exact hqq
  · by_cases h1 : r = 1
    · subst h1
      have hlit : ∀ w', Chg b (b + 1) (w2.alloc (.cells #[.int .i64 64, .int .i64 65] 2)) w' → Rd w' (.slice (some ⟨w2.heap.size, 0, none⟩) 2 2) [64, 65] := lit_keepB HS2.out.lt (Rd.litI w2 [64, 65] (by simp))
      have HL := Lib.hid hlit
      have HSL := Lib.hid (HS2.out.below (below_alloc w2 (.cells #[.int .i64 64, .int .i64 65] 2)))
      have hxl := Chg.of_below (below_alloc w2 (.cells #[.int .i64 64, .int .i64 65] 2)) b (b + 1)
      clear hlit
      go_upto_region 5 with (fail)
      go_region_held3 (fun wx => wx.cell? ⟨w.heap.size, 0, none⟩ = some (.slice a1 n c1) ∧ wx.cell? ⟨w.heap.size, 1, none⟩ = some (.slice a2 n2 c2) ∧ wx.cell? ⟨w.heap.size, 2, none⟩ = some (.slice a3 n3 c3))
        (first | exact KEEP.out _ R2.out.drew1 | exact KEEP.out _ (hx4.tr hC5) | exact KEEP.out _ hx4 | exact KEEP.out _ hxl.drew1 | exact KEEP.out _ hxl)
        (first
          | (go_simp; go_at_call 51; (refine (pick_lit [64, 65] (w2.drew.alloc (.cells #[.int .i64 64, .int .i64 65] 2)) _ (HSL.out.below ((Below.refl _ _).drew)) (fun w' hc => HL.out w' hc.undrew) (by simp) (by simp)).mono ?_); rintro e w4 ⟨r4, hr4, rfl, hS4, hC4⟩; have hx4 := hxl.tr hC4.undrew; obtain ⟨L, rfl, hL⟩ : (∃ L : Nat, r4 = (L : Int) ∧ L ≤ 100) := (by simp only [List.mem_cons, List.not_mem_nil, or_false] at hr4; exact ⟨r4.toNat, by omega, by omega⟩))
          | (go_simp; go_at_call 50; (refine (HLT.out L w4 hL hS4).mono ?_); rintro e w5 ⟨u5, xs, rfl, hl5, hI5, hS5, hC5⟩; have hsz := hx4.size))
      all_goals
        have hI := hI5.mono (show w.heap.size ≤ w4.heap.size from Nat.le_trans HC2.out.size hsz)
        have hc := HC2.out.tr (hx4.tr hC5)
        clear hI5 hC5 hx4 hC4
        go_wp2_with fail
        go_ret
        exact ⟨_, xs, rfl, by omega, hI, hS5, hc⟩
    · go_upto_region 6 with (fail)
      go_region_held3 (fun wx => wx.cell? ⟨w.heap.size, 0, none⟩ = some (.slice a1 n c1) ∧ wx.cell? ⟨w.heap.size, 1, none⟩ = some (.slice a2 n2 c2) ∧ wx.cell? ⟨w.heap.size, 2, none⟩ = some (.slice a3 n3 c3))
        (first | exact KEEP.out _ R2.out.drew1 | exact KEEP.out _ (hx4.tr hC5) | exact KEEP.out _ hx4)
        (first
          | (go_simp; go_at_call 36; (refine (HNX.out 9 w2.drew (by omega) (by omega) (HS2.out.below ((Below.refl _ _).drew))).mono ?_); rintro e w4 ⟨r4, rfl, r40, r41, hS4, hC4⟩; have hx4 := hC4.undrew; obtain ⟨L, rfl⟩ : (∃ L : Nat, r4 = (L : Int)) := ⟨r4.toNat, by omega⟩; have hL : L ≤ 100 := (by rcases r41 with r41 | r41 <;> omega))
          | (go_simp; go_at_call 50; (refine (HLT.out L w4 hL hS4).mono ?_); rintro e w5 ⟨u5, xs, rfl, hl5, hI5, hS5, hC5⟩; have hsz := hx4.size))
      all_goals
        have hI := hI5.mono (show w.heap.size ≤ w4.heap.size from Nat.le_trans HC2.out.size hsz)
        have hc := HC2.out.tr (hx4.tr hC5)
        clear hI5 hC5 hx4 hC4
        go_wp2_with fail
        go_ret
        exact ⟨_, xs, rfl, by omega, hI, hS5, hc⟩
--== end
end Go.Proofs.Ytiikoappknejgaa
namespace Go.Proofs.Ytiikoappknejgaa
set_option linter.unusedVariables false
set_option linter.unusedSimpArgs false
set_option maxRecDepth 100000
open Go.RowKit
attribute [local go_sem ↓] Go.wp_at_zero Go.wp_at_succ

--== spec.DrawCollectWord
def DrawW (w : World) (e : Ending) (w' : World) : Prop := ∃ p v1 v2 v3 v xs l, e = .returned (.tuple #[.agg #[v1, v2, v3], v, .int .i64 l]) ∧ RdP w' v1 v2 v3 p ∧ Rd w' v xs ∧ -1 ≤ l ∧ l ≤ 100000 ∧ Below w.heap.size w w'
set_option maxHeartbeats 8000000 in
theorem s_DrawCollectWord (v : Value) (n : Nat) (w : World) (h : RdU w v n) (hn : n ≤ 1000000) : Calls Try.prog 11 #[v] w (DrawW w) := by
  have g0 := below_alloc w (Obj.cells #[Value.slice none 0 0, Value.slice none 0 0, Value.slice none 0 0] 28)
  have x0 := Bx.new w (Value.slice none 0 0) (Value.slice none 0 0) (Value.slice none 0 0)
  have z0 : (w.alloc (Obj.cells #[Value.slice none 0 0, Value.slice none 0 0, Value.slice none 0 0] 28)).heap.size = w.heap.size + 1 := by simp
  have HR := Lib.hid (h.below g0 (Nat.le_refl _))
  clear h
  go_enter Try.func11, Try.ntmps11
  go_wp2_with fail
  generalize w.alloc (Obj.cells #[Value.slice none 0 0, Value.slice none 0 0, Value.slice none 0 0] 28) = w1 at *
  refine (s_l01From v n w1 HR.out hn).mono ?_
  rintro e w2 ⟨b, rfl, hS2⟩
  have hlo := hS2.lo
  have hs2 := hS2.be.size
  have hb2 := hS2.lt
  have HS2 := Lib.hid hS2
  clear hS2
  go_wp2_with fail
  refine (s_l08Draw w2 HS2.out).mono ?_
  rintro e w3 ⟨p, v1, v2, v3, hob, rfl, hP, hS3, hC3⟩
  obtain ⟨⟨a1, c1, rfl⟩, ⟨a2, c2, rfl⟩, ⟨a3, c3, rfl⟩⟩ := hP.forms
  have hs3 := hC3.size
  have X6 := Bx.new w3 (Value.slice a1 p.orders.length c1) (Value.slice a2 p.powers.length c2) (Value.slice a3 p.conj.length c3)
  have hP4 := OP.below (OP.sub (S' := fun k => w2.heap.size ≤ k ∧ k < w3.heap.size) hP fun k hk hh => ⟨hh.1, hk⟩) (below_alloc w3 (Obj.cells #[Value.slice a1 p.orders.length c1, Value.slice a2 p.powers.length c2, Value.slice a3 p.conj.length c3] 28))
  have hS4 := hS3.below (below_alloc w3 (Obj.cells #[Value.slice a1 p.orders.length c1, Value.slice a2 p.powers.length c2, Value.slice a3 p.conj.length c3] 28))
  have hz4 : (w3.alloc (Obj.cells #[Value.slice a1 p.orders.length c1, Value.slice a2 p.powers.length c2, Value.slice a3 p.conj.length c3] 28)).heap.size = w3.heap.size + 1 := by simp
  have m0 := X6.c0
  have m1 := X6.c1
  have m2 := X6.c2
  clear hP hS3 hC3
  go_wp2_with fail
  generalize w3.alloc (Obj.cells #[Value.slice a1 p.orders.length c1, Value.slice a2 p.powers.length c2, Value.slice a3 p.conj.length c3] 28) = w4 at *
  obtain ⟨b6, hb6⟩ : ∃ b6, w3.heap.size = b6 := ⟨_, rfl⟩
  rw [hb6] at X6 hP4 hz4 hs3
  rw [hb6]
  clear hb6 m0 m1 m2
  refine (s_l09Draw w4 hS4 a1 a2 a3 _ c1 _ c2 _ c3 hob).mono ?_
  rintro e w5 ⟨u5, xs, rfl, hl5, hI5, hS5, hC5⟩
  obtain ⟨ua, uc, rfl, _, _⟩ := hI5.form
  have X5 := X6.chg (chgS_of hC5) (by omega)
  have hP5 := OP.chg hP4 (chgS_of hC5) (fun k hk e => by have := hk.1; omega)
  have x5 := x0.below hS5.be (by omega)
  have m0 := X5.c0
  have m1 := X5.c1
  have m2 := X5.c2
  have HI5 := Lib.hid hI5
  have HP5 := Lib.hid hP5
  have HX5 := Lib.hid X5
  have Hx5 := Lib.hid x5
  have HS5 := Lib.hid hS5
  have Hg0 := Lib.hid g0
  clear hI5 hP5 X5 x5 hS5 hP4 X6 hS4 hC5 x0 g0
  go_upto_region 4 with (fail)
  go_region_held3 (fun wx => wx.cell? ⟨b6, 0, none⟩ = some (.slice a1 p.orders.length c1) ∧ wx.cell? ⟨b6, 1, none⟩ = some (.slice a2 p.powers.length c2) ∧ wx.cell? ⟨b6, 2, none⟩ = some (.slice a3 p.conj.length c3))
    (first | exact ⟨m0, m1, m2⟩ | exact ⟨t0, t1, t2⟩ | exact ⟨s0, s1, s2⟩)
    (first
      | (go_simp; go_at_call 27; (refine (s_l09Limit w5.drew (HS5.out.below ((Below.refl _ _).drew))).mono ?_); rintro e w6 ⟨l, rfl, l0, l1, hS6, hC6⟩; have X6 := HX5.out.chg (chgS_of hC6.undrew) (by omega); have x6 := Hx5.out.chg (chgS_of hC6.undrew) (by omega); have t0 := X6.c0; have t1 := X6.c1; have t2 := X6.c2; have fr0 := x6.fr 0; have fr1 := x6.fr 1; have fr2 := x6.fr 2; have q0 := x6.c0; have q1 := x6.c1; have q2 := x6.c2; have Y6 := ((X6.other (c := w.heap.size) (by omega) 0 (.slice a1 p.orders.length c1)).other (c := w.heap.size) (by omega) 1 (.slice a2 p.powers.length c2)).other (c := w.heap.size) (by omega) 2 (.slice a3 p.conj.length c3); have s0 := Y6.c0; have s1 := Y6.c1; have s2 := Y6.c2))
  all_goals
    have hc6 := hC6.undrew
    have hP6 := OP.chg HP5.out (chgS_of hc6) (fun k hk e => by have := hk.1; omega)
    have nb : ¬ (fun k => w2.heap.size ≤ k ∧ k < b6) w.heap.size := fun hh => by have := hh.1; omega
    have HO := Lib.hid (OP.sets (OP.sets (OP.sets hP6 nb 0 (.slice a1 p.orders.length c1)) nb 1 (.slice a2 p.powers.length c2)) nb 2 (.slice a3 p.conj.length c3)).rd
    have hI6 := HI5.out.chgb hc6 (show b < w4.heap.size by omega)
    have HI := Lib.hid (((hI6.chgb (chg_set _ w.heap.size 0 (.slice a1 p.orders.length c1)) (by omega)).chgb (chg_set _ w.heap.size 1 (.slice a2 p.powers.length c2)) (by omega)).chgb (chg_set _ w.heap.size 2 (.slice a3 p.conj.length c3)) (by omega)).rd
    have HB := Lib.hid (set3B (below_size Hg0.out hS6.be) (Nat.le_refl _) (.slice a1 p.orders.length c1) (.slice a2 p.powers.length c2) (.slice a3 p.conj.length c3))
    clear hP6 hI6 hS6 hC6 hc6 X6 x6 Y6
    go_wp2_with fail
    exact bodyPost_ret (v := .tuple #[.agg #[.slice a1 p.orders.length c1, .slice a2 p.powers.length c2, .slice a3 p.conj.length c3], .slice ua xs.length uc, .int .i64 l]) (by simp [results, Try.results11, go_sem, q0, q1, q2]) rfl ⟨p, _, _, _, _, xs, l, rfl, HO.out, HI.out, l0, l1, HB.out⟩
--== end
end Go.Proofs.Ytiikoappknejgaa
