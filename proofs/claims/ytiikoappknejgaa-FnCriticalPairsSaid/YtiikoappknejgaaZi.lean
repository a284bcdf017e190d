/-
  The presentation that is bent: the walk.
  The draws of presentations.
  Reducible positive words.
  Positive words; normal words, tested.
-/
import Derived.Test.YtiikoappknejgaaZh
import Derived.Test.YtiikoappknejgaaZc
import Derived.IntWalk
namespace Go.Proofs.Ytiikoappknejgaa
set_option linter.unusedVariables false
set_option linter.unusedSimpArgs false
set_option maxRecDepth 100000
open Go.RowKit
attribute [local go_sem ↓] Go.wp_at_zero Go.wp_at_succ

--== spec.l07Bend
set_option maxHeartbeats 8000000 in
theorem s_l07Bend {w0 : World} {vc : Value} {nc b n : Nat} {p : Pres} (hW : WS n p) (hn : n ≤ 6) (v1 v2 v3 : Value) (w : World) (h : Src w0 vc nc b w) (hp : RdP w v1 v2 v3 p) : Calls Try.prog 58 #[.pointer (some ⟨b, 0, none⟩), .agg #[v1, v2, v3]] w (DrP OB w0 vc nc b w) := by
  obtain ⟨R1, R2, R3⟩ := hp
  obtain ⟨ao1, aq1, rfl, _, _⟩ := R1.formN hW.on
  obtain ⟨ao2, aq2, rfl, _, _⟩ := R2.formN hW.pl
  obtain ⟨ao3, aq3, rfl, _, _⟩ := R3.formN hW.cl
  have g1 := below_allocs2 w (Obj.cells #[Value.slice ao1 n aq1, Value.slice ao2 n aq2, Value.slice ao3 n aq3] 28) (Obj.cells #[Value.slice none 0 0, Value.slice none 0 0, Value.slice none 0 0] 28)
  have HXA := (Bx.new w (Value.slice ao1 n aq1) (Value.slice ao2 n aq2) (Value.slice ao3 n aq3)).old (Obj.cells #[Value.slice none 0 0, Value.slice none 0 0, Value.slice none 0 0] 28)
  have x1 := Bx.new (w.alloc (Obj.cells #[Value.slice ao1 n aq1, Value.slice ao2 n aq2, Value.slice ao3 n aq3] 28)) (Value.slice none 0 0) (Value.slice none 0 0) (Value.slice none 0 0)
  rw [show (w.alloc (Obj.cells #[Value.slice ao1 n aq1, Value.slice ao2 n aq2, Value.slice ao3 n aq3] 28)).heap.size = w.heap.size + 1 by simp] at x1
  have HRP := Lib.hid (⟨R1.below g1, R2.below g1, R3.below g1⟩ : RdP _ _ _ _ p)
  have hbl := h.lt
  have hw0 : w0.heap.size ≤ w.heap.size := h.be.size
  have HS := Lib.hid h
  have HNX : Hid (∀ (m : Int) wx, -100 ≤ m → m ≤ 100 → Src w0 vc nc b wx → Calls Try.prog 36 #[.pointer (some ⟨b, 0, none⟩), .int .i64 m] wx (Nxt w0 vc nc b wx m)) := fun m wx h1 h2 h => s_l01Next wx h m (by omega) (by omega)
  have HOW : Hid (∀ wx, RdP wx (.slice ao1 n aq1) (.slice ao2 n aq2) (.slice ao3 n aq3) p → Calls Try.prog 59 #[.agg #[.slice ao1 n aq1, .slice ao2 n aq2, .slice ao3 n aq3]] wx (RetP wx p)) := fun wx h => s_l07Own hW hn _ _ _ wx h
  have HW := Lib.hid hW
  obtain ⟨i0, hi, hz0, hz1, hz2⟩ := info_parts Try.info2
  have HPK : Hid (∀ (xs : List Int) (wl : World) (v : Value), Src w0 vc nc b wl → Rd wl v xs → (∀ w', Chg b (b + 1) wl w' → Rd w' v xs) → 0 < xs.length → xs.length ≤ 1000 → Calls Try.prog 51 #[.pointer (some ⟨b, 0, none⟩), v] wl (fun e w' => ∃ x, e = .returned (.int .i64 x) ∧ Src w0 vc nc b w' ∧ Chg b (b + 1) wl w')) := by
    intro xs wl v hs hv hst h1 h2
    refine (s_l01Pick wl hs v xs hv hst h1 h2).mono ?_
    rintro e w' ⟨q, hq, rfl, hS, hC⟩
    exact ⟨_, rfl, hS, hC⟩
  have HT7 : Hid (∀ (v : Value) (wx : World), Rd wx v [7, 7, 7, 7] → Calls Try.prog 67 #[v] wx (RetP wx (triv [7, 7, 7, 7]))) := fun v wx h => s_l07Trivial v [7, 7, 7, 7] wx h (by simp)
  have HT2 : Hid (∀ (v : Value) (wx : World), Rd wx v [2, 2, 2, 2, 2, 2, 2] → Calls Try.prog 67 #[v] wx (RetP wx (triv [2, 2, 2, 2, 2, 2, 2]))) := fun v wx h => s_l07Trivial v [2, 2, 2, 2, 2, 2, 2] wx h (by simp)
  have a0 := HXA.c0
  have a1' := HXA.c1
  have a2' := HXA.c2
  clear R1 R2 R3 h hW HXA
  go_enter Try.func58, Try.ntmps58
  go_wp2_with fail
  refine (HOW.out _ HRP.out).mono ?_
  generalize hw1 : (w.alloc (Obj.cells #[Value.slice ao1 n aq1, Value.slice ao2 n aq2, Value.slice ao3 n aq3] 28)).alloc (Obj.cells #[Value.slice none 0 0, Value.slice none 0 0, Value.slice none 0 0] 28) = w1 at *
  have z1 : w1.heap.size = w.heap.size + 2 := by rw [← hw1]; simp
  clear hw1
  rintro e w2 ⟨u1, u2, u3, rfl, hP, hB⟩
  obtain ⟨⟨k1, l1, rfl⟩, ⟨k2, l2, rfl⟩, ⟨k3, l3, rfl⟩⟩ := hP.formsN HW.out.on HW.out.pl HW.out.cl
  have x2 := x1.below hB (by omega)
  have g2 := below_size g1 hB
  have hY := BY.mk (N := w.heap.size) x2 hP (fun k hk _ => by have h1 := hk.1; exact ⟨by omega, by omega⟩) HW.out (by omega)
  have g3 := ballocD g2 (Obj.cells #[Value.slice k1 n l1, Value.slice k2 n l2, Value.slice k3 n l3] 28)
  have hST : ST w0 vc nc b w (w.heap.size + 1) w2.heap.size n (w2.alloc (Obj.cells #[Value.slice k1 n l1, Value.slice k2 n l2, Value.slice k3 n l3] 28)) := ⟨hY, HS.out.below g3, Chg.of_below g3 _ _⟩
  clear hP hB x2 g2 hY g3 g1 x1 a0 a1' a2'
  go_wp2_with fail
  generalize w2.alloc (Obj.cells #[Value.slice k1 n l1, Value.slice k2 n l2, Value.slice k3 n l3] 28) = w4 at *
  generalize w2.heap.size = b4 at *
  refine (HNX.out 6 w4 (by omega) (by omega) hST.2.1).mono ?_
  rintro e w5 ⟨r, rfl, r0, r1, hS5, hC5⟩
  replace hST := hST.keep hS5 hC5 hbl
  have hN4 : w.heap.size ≤ b4 := hST.1.2.1
  clear hS5 hC5 HOW HRP
  rcases (show r = 0 ∨ r = 1 ∨ r = 2 ∨ r = 3 ∨ r = 4 ∨ r = 5 by omega) with rfl | rfl | rfl | rfl | rfl | rfl
  · clear r0 r1
    obtain ⟨P, a1, c1, a2, c2, a3, c3, hWP, hK⟩ := hST.ks hbl hw0 (by omega)
    obtain ⟨HA, hS, hC, X2, hO, X4⟩ := id hK
    obtain ⟨h2, h4, hne, _, _, hm2, hm4, hmN, hob⟩ := HA
    have hI : Ints w5 0 (.slice a1 n c1) P.orders := by
      obtain ⟨A, B, C, q1, _⟩ := id hO
      exact q1.1
    have hBk : BlkS (.slice a1 n c1) (fun k => (w.heap.size ≤ k ∧ k ≠ (w.heap.size + 1) ∧ k ≠ b4) ∧ k < w5.heap.size) := by
      obtain ⟨A, B, C, q1, _, _, s1, _⟩ := id hO
      exact fun g hg => s1 g (q1.2 g hg)
    have k0 := X4.c0
    have HO := Lib.hid hO
    have HX4 := Lib.hid X4
    have HX2 := Lib.hid X2
    have HS5 := Lib.hid hS
    have HC5 := Lib.hid hC
    have hlen : P.orders.length ≤ 1000000000 := by rw [hWP.on]; omega
    clear hO X4 X2 hS hC hK hST
    go_wp2_with (at_builtin; refine wp_app1 _ rfl _ _ rfl 0 i0 Try.underlying24 hi hz0 hz1 hz2 _ _ rfl hI 2 rfl hlen (Nat.zero_le _) ?_)
    intro v' w6 hI6 hG6 hB6
    have hC6 := ChgS.of_grew hG6 hBk
    have hO6 := op_appOrd HO.out hI6 hG6
    have hob6 : OB ⟨P.orders ++ [2], P.powers, P.conj⟩ := by unfold OB; rw [List.length_append, hWP.on]; simp; omega
    have hX46 := HX4.out.chg hC6 (fun hh => hh.1.2.2 rfl)
    have hX26 := HX2.out.chg hC6 (fun hh => hh.1.2.1 rfl)
    have hb6 : Below w.heap.size w5 w6 := hC6.below (fun k hk => hk.1.1) hmN
    have hS6 := HS5.out.belowB hb6 hbl hw0
    have hCc6 := HC5.out.belB hb6
    obtain ⟨a6, n6, c6, rfl⟩ : ∃ a n c, v' = .slice a n c := by obtain ⟨a, c, e, _⟩ := hI6.form; exact ⟨a, _, c, e⟩
    have m0 := hX46.c0
    have fr0 := hX46.fr 0
    have hbl0 : Below w.heap.size w6 (w6.setCell ⟨b4, 0, none⟩ (.slice a6 n6 c6)) := ((Below.refl _ w6).mono hCc6.size).setCell (p := ⟨b4, 0, none⟩) h4 _
    have hTS : TS w0 vc nc b w (w.heap.size + 1) b4 (w6.setCell ⟨b4, 0, none⟩ (.slice a6 n6 c6)) := ⟨⟨h2, h4, hne, hbl, hw0⟩, hS6.belowB hbl0 hbl hw0, hCc6.belB hbl0, hX26.other hne _ _, _, _, _, _, hob6, OP.sub (OP.sets hO6 (b := b4) (fun hh => by
      rcases hh with hh | hh
      · exact hh.1.1.2.2 rfl
      · omega) 0 _) (fun k _ hk => by
      rcases hk with hk | hk
      · exact hk.1.1
      · exact ⟨by omega, by omega, by omega⟩), hX46.set0 _⟩
    clear hI6 hG6 hB6 hC6 hO6 hX46 hX26 hb6 hS6 hCc6 hbl0 hI hBk
    obtain ⟨b1, n1, d1, b2, n2, d2, b3, n3, d3, x4, y2, hF⟩ := hTS.fin
    have HF := Lib.hid hF
    have k0 := x4.c0
    have k1 := x4.c1
    have k2 := x4.c2
    have q0 := y2.c0
    have q1 := y2.c1
    have q2 := y2.c2
    have f0 := y2.fr 0
    have f1 := y2.fr 1
    have f2 := y2.fr 2
    clear x4 y2 hF hTS
    go_wp2_with fail
    exact bodyPost_ret (v := .agg #[Value.slice b1 n1 d1, Value.slice b2 n2 d2, Value.slice b3 n3 d3]) (by simp [results, Try.results58, go_sem, q0, q1, q2]) rfl HF.out
  · clear r0 r1
    obtain ⟨P, a1, c1, a2, c2, a3, c3, hWP, hK⟩ := hST.ks hbl hw0 (by omega)
    have m0 := hK.2.2.2.2.2.c0
    by_cases hn0 : 0 < n
    · obtain ⟨g, cap, e1, hset⟩ := hK.ord0 hWP.on hn0
      simp only [Value.slice.injEq] at e1
      obtain ⟨rfl, _, rfl⟩ := e1
      have hn1 : (0 : Int) < (n : Int) := by omega
      have HSET := Lib.hid hset
      have HK := Lib.hid hK
      have HLIT := Lib.hid (Rd.litI w5 [4, 1, 11, 0, -2] (by simp))
      have HKP := Lib.hid (lit_keepB hK.2.1.lt (Rd.litI w5 [4, 1, 11, 0, -2] (by simp)))
      have p0 : (w5.alloc (Obj.cells #[Value.int .i64 4, Value.int .i64 1, Value.int .i64 11, Value.int .i64 0, Value.int .i64 (-2)] 2)).cell? ⟨b4, 0, none⟩ = _ := (hset _ (hK.bel (below_alloc w5 (.cells (([4, 1, 11, 0, -2] : List Int).map (Value.int .i64)).toArray 2)))).1
      clear hset hK hST
      go_upto_region 10 with (fail)
      go_region_law (go_simp; go_at_call 51; go_must (refine (HPK.out [4, 1, 11, 0, -2] _ _ ((HK.out.bel ((below_alloc w5 (.cells (([4, 1, 11, 0, -2] : List Int).map (Value.int .i64)).toArray 2)).drew)).2.1) HLIT.out (fun w' hc => HKP.out w' hc.undrew) (by simp) (by simp)).mono ?_); rintro e w8 ⟨r8, rfl, hS8, hC8⟩; have hK8 := ((HK.out.bel (below_alloc w5 (.cells (([4, 1, 11, 0, -2] : List Int).map (Value.int .i64)).toArray 2))).keep hS8 hC8.undrew); obtain ⟨t0, ⟨rr, t1⟩, t2, t3⟩ := HSET.out w8 hK8; have hq := Lib.hid (t3 r8))
      all_goals
        have hTS := hq.out
        clear hq
        obtain ⟨b1, n1, d1, b2, n2, d2, b3, n3, d3, x4, y2, hF⟩ := hTS.fin
        have HF := Lib.hid hF
        have k0 := x4.c0
        have k1 := x4.c1
        have k2 := x4.c2
        have q0 := y2.c0
        have q1 := y2.c1
        have q2 := y2.c2
        have f0 := y2.fr 0
        have f1 := y2.fr 1
        have f2 := y2.fr 2
        clear x4 y2 hF hTS
        go_wp2_with fail
        exact bodyPost_ret (v := .agg #[Value.slice b1 n1 d1, Value.slice b2 n2 d2, Value.slice b3 n3 d3]) (by simp [results, Try.results58, go_sem, q0, q1, q2]) rfl HF.out
    · obtain rfl : n = 0 := by omega
      have hTS := hST.ts hbl hw0 (by omega)
      clear hK hST
      obtain ⟨b1, n1, d1, b2, n2, d2, b3, n3, d3, x4, y2, hF⟩ := hTS.fin
      have HF := Lib.hid hF
      have k0 := x4.c0
      have k1 := x4.c1
      have k2 := x4.c2
      have q0 := y2.c0
      have q1 := y2.c1
      have q2 := y2.c2
      have f0 := y2.fr 0
      have f1 := y2.fr 1
      have f2 := y2.fr 2
      have hz := Option.some.inj (m0.symm.trans k0)
      simp only [Value.slice.injEq] at hz
      obtain ⟨rfl, rfl, rfl⟩ := hz
      clear x4 y2 hF hTS
      go_wp2_with fail
      exact bodyPost_ret (v := .agg #[Value.slice a1 0 c1, Value.slice b2 n2 d2, Value.slice b3 n3 d3]) (by simp [results, Try.results58, go_sem, q0, q1, q2]) rfl HF.out
  · clear r0 r1
    obtain ⟨P, a1, c1, a2, c2, a3, c3, hWP, hK⟩ := hST.ks hbl hw0 (by omega)
    have m1 := hK.2.2.2.2.2.c1
    by_cases hn0 : 0 < n
    · obtain ⟨g, cap, r, e1, hgb, hRr, hset⟩ := hK.pow0 hWP.pl hn0
      have hb4 := hK.2.2.2.2.2.lt
      simp only [Value.slice.injEq] at e1
      obtain ⟨rfl, _, rfl⟩ := e1
      have hn1 : (0 : Int) < (n : Int) := by omega
      have hpv := hWP.pv 0 hn0
      obtain ⟨ar, cr, rfl, _, _⟩ := hRr.formN hpv
      have HPV := Lib.hid hpv
      have HRr := Lib.hid hRr
      generalize P.powers.getD 0 [] = row at *
      have HSET : Hid (∀ wy, Below w5.heap.size w5 wy → wy.cell? ⟨b4, 1, none⟩ = some (.slice (some ⟨g, 0, none⟩) n c2) ∧ wy.cell? ⟨g, 0, none⟩ = some (.slice ar n cr) ∧ wy.frozen? ⟨g, 0, none⟩ = false ∧ ∀ u row, Ints wy w5.heap.size u row → TS w0 vc nc b w (w.heap.size + 1) b4 (wy.setCell ⟨g, 0, none⟩ u)) := fun wy hb => hset wy (hK.bel hb) hb
      have HOWN : Hid (∀ wx, Below w5.heap.size w5 wx → Calls Try.prog 52 #[.slice ar n cr] wx (RetInts wx row)) := fun wx hb => s_l01Own _ row wx (HRr.out.below hb) (by rw [HPV.out]; omega)
      have HLN : Hid (row.length ≤ 1000000000) := by show _ ≤ _; rw [HPV.out]; omega
      have HLIT : Hid (∀ wx : World, Rd (wx.alloc (.cells #[.int .i64 0] 2)) (.slice (some ⟨wx.heap.size, 0, none⟩) 1 1) [0]) := fun wx => Rd.litI wx [0] (by simp)
      have y1 := (HSET.out w5 (Below.refl _ _)).1
      have y2 := (HSET.out w5 (Below.refl _ _)).2.1
      have z1 := (HSET.out (w5.alloc (.cells #[.int .i64 0] 2)) (below_alloc _ _)).1
      have z2 := (HSET.out (w5.alloc (.cells #[.int .i64 0] 2)) (below_alloc _ _)).2.1
      clear hset hK hST hRr hpv hgb hb4 hWP m1
      clear HPK HT7 HT2 HNX HS HW hN4
      go_upto_region 13 with (fail)
      refine wp_region_D (S := fun wx => wx.cell? ⟨b4, 1, none⟩ = some (.slice (some ⟨g, 0, none⟩) n c2) ∧ wx.cell? ⟨g, 0, none⟩ = some (.slice ar n cr)) (l := 10) (by kernel_rfl) ?_
      have KS3 : Hid (∀ wy, Below w5.heap.size w5 wy → wy.cell? ⟨b4, 1, none⟩ = some (.slice (some ⟨g, 0, none⟩) n c2) ∧ wy.cell? ⟨g, 0, none⟩ = some (.slice ar n cr)) := fun wy hb => ⟨(HSET.out wy hb).1, (HSET.out wy hb).2.1⟩
      have hS0 : w5.drew.cell? ⟨b4, 1, none⟩ = some (.slice (some ⟨g, 0, none⟩) n c2) ∧ w5.drew.cell? ⟨g, 0, none⟩ = some (.slice ar n cr) := ⟨y1, y2⟩
      refine wpAnyD_put (i := 0) (v := .pointer (some ⟨b4, 1, none⟩)) rfl (by kernel_rfl) (by kernel_rfl) (by kernel_rfl) (by kernel_rfl) rfl (by kernel_rfl) (fun _ _ _ h => h) hS0 ?_ ?_
      · intro oi ho
        simp only [List.getElem?_toArray, List.getElem?_cons_zero, List.getElem?_cons_succ, Option.some.injEq] at ho; subst ho
        refine Or.inl ⟨by rfl, ?_⟩
        intro w' hSw
        obtain ⟨sa, sb⟩ := hSw
        go_simp
      try simp only [Act.put, List.setIfInBounds_toArray, List.set_cons_zero, List.set_cons_succ]
      refine wpAnyD_put (i := 1) (v := .slice (some ⟨g, 0, none⟩) n c2) rfl (by kernel_rfl) (by kernel_rfl) (by kernel_rfl) (by kernel_rfl) rfl (by kernel_rfl) (fun _ _ _ h => h) hS0 ?_ ?_
      · intro oi ho
        simp only [List.getElem?_toArray, List.getElem?_cons_zero, List.getElem?_cons_succ, Option.some.injEq] at ho; subst ho
        refine Or.inl ⟨by rfl, ?_⟩
        intro w' hSw
        obtain ⟨sa, sb⟩ := hSw
        go_simp
      try simp only [Act.put, List.setIfInBounds_toArray, List.set_cons_zero, List.set_cons_succ]
      refine wpAnyD_put (i := 2) (v := .pointer (some ⟨b4, 1, none⟩)) rfl (by kernel_rfl) (by kernel_rfl) (by kernel_rfl) (by kernel_rfl) rfl (by kernel_rfl) (fun _ _ _ h => h) hS0 ?_ ?_
      · intro oi ho
        simp only [List.getElem?_toArray, List.getElem?_cons_zero, List.getElem?_cons_succ, Option.some.injEq] at ho; subst ho
        refine Or.inl ⟨by rfl, ?_⟩
        intro w' hSw
        obtain ⟨sa, sb⟩ := hSw
        go_simp
      try simp only [Act.put, List.setIfInBounds_toArray, List.set_cons_zero, List.set_cons_succ]
      refine wpAnyD_put (i := 3) (v := .slice (some ⟨g, 0, none⟩) n c2) rfl (by kernel_rfl) (by kernel_rfl) (by kernel_rfl) (by kernel_rfl) rfl (by kernel_rfl) (fun _ _ _ h => h) hS0 ?_ ?_
      · intro oi ho
        simp only [List.getElem?_toArray, List.getElem?_cons_zero, List.getElem?_cons_succ, Option.some.injEq] at ho; subst ho
        refine Or.inl ⟨by rfl, ?_⟩
        intro w' hSw
        obtain ⟨sa, sb⟩ := hSw
        go_simp
      try simp only [Act.put, List.setIfInBounds_toArray, List.set_cons_zero, List.set_cons_succ]
      refine wpAnyD_put (i := 4) (v := .pointer (some ⟨g, 0, none⟩)) rfl (by kernel_rfl) (by kernel_rfl) (by kernel_rfl) (by kernel_rfl) rfl (by kernel_rfl) (fun _ _ _ h => h) hS0 ?_ ?_
      · intro oi ho
        simp only [List.getElem?_toArray, List.getElem?_cons_zero, List.getElem?_cons_succ, Option.some.injEq] at ho; subst ho
        refine Or.inl ⟨by rfl, ?_⟩
        intro w' hSw
        obtain ⟨sa, sb⟩ := hSw
        go_simp
      try simp only [Act.put, List.setIfInBounds_toArray, List.set_cons_zero, List.set_cons_succ]
      refine wpAnyD_put (i := 5) (v := .slice ar n cr) rfl (by kernel_rfl) (by kernel_rfl) (by kernel_rfl) (by kernel_rfl) rfl (by kernel_rfl) (fun _ _ _ h => h) hS0 ?_ ?_
      · intro oi ho
        simp only [List.getElem?_toArray, List.getElem?_cons_zero, List.getElem?_cons_succ, Option.some.injEq] at ho; subst ho
        refine Or.inl ⟨by rfl, ?_⟩
        intro w' hSw
        obtain ⟨sa, sb⟩ := hSw
        go_simp
      try simp only [Act.put, List.setIfInBounds_toArray, List.set_cons_zero, List.set_cons_succ]
      refine wpAnyD_ready (rs := [6, 7]) (by kernel_rfl) (by simp) ?_
      refine AllD.step (i := 6) (by kernel_rfl) ?_ ?_
      · intro o ho K hK
        simp only [List.getElem?_toArray, List.getElem?_cons_zero, List.getElem?_cons_succ, Option.some.injEq] at ho; subst ho
        go_simp
        go_at_call 52
        refine (HOWN.out w5.drew (Below.refl _ _).drew).mono ?_
        rintro e w6 ⟨u6, rfl, hI6, hB6⟩
        have hb6 : Below w5.heap.size w5 w6 := below_size (Below.refl _ _).drew hB6
        have hbr := ballocD hb6 (.cells #[.int .i64 0] 2)
        obtain ⟨u7, w7, hr7, hI7, hB7, _⟩ := run_appB (w6.alloc (.cells #[.int .i64 0] 2)) 24 w5.heap.size u6 row (Ints.below hI6 (below_alloc _ _)) _ [0] (HLIT.out w6) HLN.out (by simp) (Nat.le_trans hb6.size (below_alloc _ _).size)
        have hb7 : Below w5.heap.size w5 w7 := (ballocD hb6 _).trans hB7
        obtain ⟨t7, t8, t9, t10⟩ := HSET.out w7 hb7
        obtain ⟨a7, n7, c7, rfl⟩ : ∃ a n c, u7 = .slice a n c := by obtain ⟨a, c, e, _⟩ := hI7.form; exact ⟨a, _, c, e⟩
        have hq := Lib.hid (t10 _ _ hI7)
        refine hK.out _ _ (fun hz => KS3.out _ hb6) ?_
        clear hK K
        try simp only [Act.put, List.setIfInBounds_toArray, List.set_cons_zero, List.set_cons_succ]
        refine wpAnyD_ready (rs := [7]) (by kernel_rfl) (by simp) ?_
        refine AllD.step (i := 7) (by kernel_rfl) ?_ ?_
        · intro o ho K hK
          simp only [List.getElem?_toArray, List.getElem?_cons_zero, List.getElem?_cons_succ, Option.some.injEq] at ho; subst ho
          go_simp
          refine hK.out _ _ (fun hz => KS3.out _ hbr) ?_
          clear hK K
          try simp only [Act.put, List.setIfInBounds_toArray, List.set_cons_zero, List.set_cons_succ]
          refine wpAnyD_ready (rs := [8]) (by kernel_rfl) (by simp) ?_
          refine AllD.step (i := 8) (by kernel_rfl) ?_ ?_
          · intro o ho K hK
            simp only [List.getElem?_toArray, List.getElem?_cons_zero, List.getElem?_cons_succ, Option.some.injEq] at ho; subst ho
            refine step_of_run rfl (.tmp 48) (.tmp 49) 24 rfl _ _ (by simp [Act.eval, Act.put]) (by simp [Act.eval, Act.put]) _ _ hr7 ?_
            refine hK.out _ _ (fun hz => KS3.out _ hb7) ?_
            clear hK K
            try simp only [Act.put, List.setIfInBounds_toArray, List.set_cons_zero, List.set_cons_succ]
            refine wpAnyD_ready (rs := [9]) (by kernel_rfl) (by simp) ?_
            refine AllD.step (i := 9) (by kernel_rfl) ?_ ?_
            · intro o ho K hK
              simp only [List.getElem?_toArray, List.getElem?_cons_zero, List.getElem?_cons_succ, Option.some.injEq] at ho; subst ho
              go_simp
              refine hK.out _ _ (fun hz => KS3.out _ hb7) ?_
              clear hK K
              try simp only [Act.put, List.setIfInBounds_toArray, List.set_cons_zero, List.set_cons_succ]
              refine wpAnyD_ready (rs := [10]) (by kernel_rfl) (by simp) ?_
              refine AllD.step (i := 10) (by kernel_rfl) ?_ ?_
              · intro o ho K hK
                simp only [List.getElem?_toArray, List.getElem?_cons_zero, List.getElem?_cons_succ, Option.some.injEq] at ho; subst ho
                go_simp
                refine hK.out _ _ (fun hz => Bool.noConfusion ((by kernel_rfl : _ = true).symm.trans hz)) ?_
                clear hK K
                try simp only [Act.put, List.setIfInBounds_toArray, List.set_cons_zero, List.set_cons_succ]
                refine wpAnyD_done (by kernel_rfl) ?_ _
                have hTS := hq.out
                clear hq
                obtain ⟨b1, n1, d1, b2, n2, d2, b3, n3, d3, x4, y2, hF⟩ := hTS.fin
                have HF := Lib.hid hF
                have k0 := x4.c0
                have k1 := x4.c1
                have k2 := x4.c2
                have q0 := y2.c0
                have q1 := y2.c1
                have q2 := y2.c2
                have f0 := y2.fr 0
                have f1 := y2.fr 1
                have f2 := y2.fr 2
                clear x4 y2 hF hTS
                go_wp2_with fail
                exact bodyPost_ret (v := .agg #[Value.slice b1 n1 d1, Value.slice b2 n2 d2, Value.slice b3 n3 d3]) (by simp [results, Try.results58, go_sem, q0, q1, q2]) rfl HF.out
              exact AllD.nil
            exact AllD.nil
          exact AllD.nil
        exact AllD.nil
      refine AllD.step (i := 7) (by kernel_rfl) ?_ ?_
      · intro o ho K hK
        simp only [List.getElem?_toArray, List.getElem?_cons_zero, List.getElem?_cons_succ, Option.some.injEq] at ho; subst ho
        go_simp
        refine hK.out _ _ (fun hz => KS3.out _ (below_alloc w5 (.cells #[.int .i64 0] 2)).drew) ?_
        clear hK K
        try simp only [Act.put, List.setIfInBounds_toArray, List.set_cons_zero, List.set_cons_succ]
        refine wpAnyD_ready (rs := [6]) (by kernel_rfl) (by simp) ?_
        refine AllD.step (i := 6) (by kernel_rfl) ?_ ?_
        · intro o ho K hK
          simp only [List.getElem?_toArray, List.getElem?_cons_zero, List.getElem?_cons_succ, Option.some.injEq] at ho; subst ho
          go_simp
          go_at_call 52
          refine (HOWN.out (w5.drew.alloc (.cells #[.int .i64 0] 2)) (below_alloc w5 (.cells #[.int .i64 0] 2)).drew).mono ?_
          rintro e w6 ⟨u6, rfl, hI6, hB6⟩
          have hb6a : Below (w5.alloc (.cells #[.int .i64 0] 2)).heap.size (w5.alloc (.cells #[.int .i64 0] 2)) w6 := below_size (Below.refl _ _).drew hB6
          have hb6 : Below w5.heap.size w5 w6 := below_size (below_alloc _ _) hb6a
          have hI6' : Ints w6 w5.heap.size u6 row := Ints.mono hI6 (by simp)
          obtain ⟨u7, w7, hr7, hI7, hB7, _⟩ := run_appB w6 24 w5.heap.size u6 row hI6' _ [0] ((HLIT.out w5).below hb6a) HLN.out (by simp) hb6.size
          have hb7 : Below w5.heap.size w5 w7 := hb6.trans hB7
          obtain ⟨t7, t8, t9, t10⟩ := HSET.out w7 hb7
          obtain ⟨a7, n7, c7, rfl⟩ : ∃ a n c, u7 = .slice a n c := by obtain ⟨a, c, e, _⟩ := hI7.form; exact ⟨a, _, c, e⟩
          have hq := Lib.hid (t10 _ _ hI7)
          refine hK.out _ _ (fun hz => KS3.out _ hb6) ?_
          clear hK K
          try simp only [Act.put, List.setIfInBounds_toArray, List.set_cons_zero, List.set_cons_succ]
          refine wpAnyD_ready (rs := [8]) (by kernel_rfl) (by simp) ?_
          refine AllD.step (i := 8) (by kernel_rfl) ?_ ?_
          · intro o ho K hK
            simp only [List.getElem?_toArray, List.getElem?_cons_zero, List.getElem?_cons_succ, Option.some.injEq] at ho; subst ho
            refine step_of_run rfl (.tmp 48) (.tmp 49) 24 rfl _ _ (by simp [Act.eval, Act.put]) (by simp [Act.eval, Act.put]) _ _ hr7 ?_
            refine hK.out _ _ (fun hz => KS3.out _ hb7) ?_
            clear hK K
            try simp only [Act.put, List.setIfInBounds_toArray, List.set_cons_zero, List.set_cons_succ]
            refine wpAnyD_ready (rs := [9]) (by kernel_rfl) (by simp) ?_
            refine AllD.step (i := 9) (by kernel_rfl) ?_ ?_
            · intro o ho K hK
              simp only [List.getElem?_toArray, List.getElem?_cons_zero, List.getElem?_cons_succ, Option.some.injEq] at ho; subst ho
              go_simp
              refine hK.out _ _ (fun hz => KS3.out _ hb7) ?_
              clear hK K
              try simp only [Act.put, List.setIfInBounds_toArray, List.set_cons_zero, List.set_cons_succ]
              refine wpAnyD_ready (rs := [10]) (by kernel_rfl) (by simp) ?_
              refine AllD.step (i := 10) (by kernel_rfl) ?_ ?_
              · intro o ho K hK
                simp only [List.getElem?_toArray, List.getElem?_cons_zero, List.getElem?_cons_succ, Option.some.injEq] at ho; subst ho
                go_simp
                refine hK.out _ _ (fun hz => Bool.noConfusion ((by kernel_rfl : _ = true).symm.trans hz)) ?_
                clear hK K
                try simp only [Act.put, List.setIfInBounds_toArray, List.set_cons_zero, List.set_cons_succ]
                refine wpAnyD_done (by kernel_rfl) ?_ _
                have hTS := hq.out
                clear hq
                obtain ⟨b1, n1, d1, b2, n2, d2, b3, n3, d3, x4, y2, hF⟩ := hTS.fin
                have HF := Lib.hid hF
                have k0 := x4.c0
                have k1 := x4.c1
                have k2 := x4.c2
                have q0 := y2.c0
                have q1 := y2.c1
                have q2 := y2.c2
                have f0 := y2.fr 0
                have f1 := y2.fr 1
                have f2 := y2.fr 2
                clear x4 y2 hF hTS
                go_wp2_with fail
                exact bodyPost_ret (v := .agg #[Value.slice b1 n1 d1, Value.slice b2 n2 d2, Value.slice b3 n3 d3]) (by simp [results, Try.results58, go_sem, q0, q1, q2]) rfl HF.out
              exact AllD.nil
            exact AllD.nil
          exact AllD.nil
        exact AllD.nil
      exact AllD.nil
    · obtain rfl : n = 0 := by omega
      have hTS := hST.ts hbl hw0 (by omega)
      clear hK hST
      obtain ⟨b1, n1, d1, b2, n2, d2, b3, n3, d3, x4, y2, hF⟩ := hTS.fin
      have HF := Lib.hid hF
      have k0 := x4.c0
      have k1 := x4.c1
      have k2 := x4.c2
      have q0 := y2.c0
      have q1 := y2.c1
      have q2 := y2.c2
      have f0 := y2.fr 0
      have f1 := y2.fr 1
      have f2 := y2.fr 2
      have hz := Option.some.inj (m1.symm.trans k1)
      simp only [Value.slice.injEq] at hz
      obtain ⟨rfl, rfl, rfl⟩ := hz
      clear x4 y2 hF hTS
      go_wp2_with fail
      exact bodyPost_ret (v := .agg #[Value.slice b1 n1 d1, Value.slice a2 0 c2, Value.slice b3 n3 d3]) (by simp [results, Try.results58, go_sem, q0, q1, q2]) rfl HF.out
  · clear r0 r1
    by_cases hn0 : 0 < n
    · obtain ⟨go, c1, o, g, c2, a3, c3, g2, q2, o1, o2, hg2, hset⟩ := hST.1.putP hbl hn0 hn0
      obtain ⟨y0, _, y2, ⟨rr, y3⟩, y4, y5⟩ := hset _ (ChgS.refl _ _)
      have hTS := (hST.put hbl hw0 hST.2.1 (Chg.refl _ _ _) hg2 (y5 1)).ts hbl hw0 (by omega)
      have m1 := y0.c1
      have hn1 : (0 : Int) < (n : Int) := by omega
      clear hset y0 y5 hST
      obtain ⟨b1, n1, d1, b2, n2, d2, b3, n3, d3, x4, y2, hF⟩ := hTS.fin
      have HF := Lib.hid hF
      have k0 := x4.c0
      have k1 := x4.c1
      have k2 := x4.c2
      have q0 := y2.c0
      have q1 := y2.c1
      have q2 := y2.c2
      have f0 := y2.fr 0
      have f1 := y2.fr 1
      have f2 := y2.fr 2
      clear x4 y2 hF hTS
      go_wp2_with fail
      exact bodyPost_ret (v := .agg #[Value.slice b1 n1 d1, Value.slice b2 n2 d2, Value.slice b3 n3 d3]) (by simp [results, Try.results58, go_sem, q0, q1, q2]) rfl HF.out
    · obtain rfl : n = 0 := by omega
      obtain ⟨P, a1, c1, a2, c2, a3, c3, hWP, hK⟩ := hST.ks hbl hw0 (by omega)
      have m1 := hK.2.2.2.2.2.c1
      have hTS := hST.ts hbl hw0 (by omega)
      clear hK hST
      obtain ⟨b1, n1, d1, b2, n2, d2, b3, n3, d3, x4, y2, hF⟩ := hTS.fin
      have HF := Lib.hid hF
      have k0 := x4.c0
      have k1 := x4.c1
      have k2 := x4.c2
      have q0 := y2.c0
      have q1 := y2.c1
      have q2 := y2.c2
      have f0 := y2.fr 0
      have f1 := y2.fr 1
      have f2 := y2.fr 2
      have hz := Option.some.inj (m1.symm.trans k1)
      simp only [Value.slice.injEq] at hz
      obtain ⟨rfl, rfl, rfl⟩ := hz
      clear x4 y2 hF hTS
      go_wp2_with fail
      exact bodyPost_ret (v := .agg #[Value.slice b1 n1 d1, Value.slice a2 0 c2, Value.slice b3 n3 d3]) (by simp [results, Try.results58, go_sem, q0, q1, q2]) rfl HF.out
  · clear r0 r1
    obtain ⟨P, a1, c1, a2, c2, a3, c3, hWP, hK⟩ := hST.ks hbl hw0 (by omega)
    have m2 := hK.2.2.2.2.2.c2
    by_cases hn0 : 0 < n
    · have hmk := run_makeInts n (by omega)
      obtain ⟨g, cap, r, e1, _, hRr, hset⟩ := hK.cnj0 hWP.cl hn0
      simp only [Value.slice.injEq] at e1
      obtain ⟨rfl, _, rfl⟩ := e1
      have hn1 : (0 : Int) < (n : Int) := by omega
      have hrl := hWP.rl 0 hn0
      have hcv := hWP.cv 0
      obtain ⟨M, hM⟩ : ∃ M, n - (0 + 1) = M := ⟨_, rfl⟩
      rw [hM] at hrl hcv
      have hM6 : M ≤ 6 := by omega
      obtain ⟨ar, cr, rfl, _, _⟩ := hRr.formN hrl
      have HRr := Lib.hid hRr
      have HRL := Lib.hid hrl
      have HCV : Hid (∀ k, k < M → ((P.conj.getD 0 []).getD k []).length = n) := fun k hk => hcv k hn0 hk
      generalize P.conj.getD 0 [] = rows at *
      have HSET : Hid (∀ wy, Below w5.heap.size w5 wy → (wy.cell? ⟨b4, 0, none⟩ = some (.slice a1 n c1) ∧ wy.cell? ⟨b4, 2, none⟩ = some (.slice (some ⟨g, 0, none⟩) n c3) ∧ wy.cell? ⟨g, 0, none⟩ = some (.slice ar M cr) ∧ wy.frozen? ⟨g, 0, none⟩ = false) ∧ ∀ u rows, O2 wy (fun k => w5.heap.size ≤ k) u rows → TS w0 vc nc b w (w.heap.size + 1) b4 (wy.setCell ⟨g, 0, none⟩ u)) := fun wy hb => by
        obtain ⟨h1, h2, h3, h4, h5⟩ := hset wy (hK.bel hb) hb
        exact ⟨⟨h1, h2, h3, h4⟩, h5⟩
      have HOWN : Hid (∀ wx, Below w5.heap.size w5 wx → Calls Try.prog 68 #[.slice ar M cr] wx (RetL2 wx rows)) := fun wx hb => s_l01Own2 _ rows wx (HRr.out.below hb) (by rw [HRL.out]; omega) (fun i hi => by rw [HCV.out i (by rw [HRL.out] at hi; exact hi)]; omega)
      obtain ⟨y1, y2, y3, _⟩ := (HSET.out w5 (Below.refl _ _)).1
      obtain ⟨z1, z2, z3, _⟩ := (HSET.out (w5.alloc (.cells (madeCells #[.int .i64 0] n) 2)) (below_alloc _ _)).1
      obtain ⟨zz1, zz2, zz3, _⟩ := (HSET.out ((w5.alloc (.cells (madeCells #[.int .i64 0] n) 2)).alloc (.cells #[.slice (some ⟨w5.heap.size, 0, none⟩) n n] 24)) (ballocD (below_alloc _ _) _)).1
      have HLN : Hid (rows.length ≤ 1000) := by show _ ≤ _; rw [HRL.out]; omega
      have HN6 : Hid (n ≤ 1000000) := by show _ ≤ _; omega
      clear hset hK hST hRr hrl hcv hWP m2 hM HPK HT7 HT2 HNX HS HW hN4 hbl hw0 hn
      go_upto_region 19 with (fail)
      refine wp_region_D (S := fun wx => wx.cell? ⟨b4, 0, none⟩ = some (.slice a1 n c1) ∧ wx.cell? ⟨b4, 2, none⟩ = some (.slice (some ⟨g, 0, none⟩) n c3) ∧ wx.cell? ⟨g, 0, none⟩ = some (.slice ar M cr)) (l := 14) (by kernel_rfl) ?_
      have KS3 : Hid (∀ wy, Below w5.heap.size w5 wy → wy.cell? ⟨b4, 0, none⟩ = some (.slice a1 n c1) ∧ wy.cell? ⟨b4, 2, none⟩ = some (.slice (some ⟨g, 0, none⟩) n c3) ∧ wy.cell? ⟨g, 0, none⟩ = some (.slice ar M cr)) := fun wy hb => ⟨(HSET.out wy hb).1.1, (HSET.out wy hb).1.2.1, (HSET.out wy hb).1.2.2.1⟩
      have hS0 : w5.drew.cell? ⟨b4, 0, none⟩ = some (.slice a1 n c1) ∧ w5.drew.cell? ⟨b4, 2, none⟩ = some (.slice (some ⟨g, 0, none⟩) n c3) ∧ w5.drew.cell? ⟨g, 0, none⟩ = some (.slice ar M cr) := ⟨y1, y2, y3⟩
      refine wpAnyD_put (i := 0) (v := .pointer (some ⟨b4, 2, none⟩)) rfl (by kernel_rfl) (by kernel_rfl) (by kernel_rfl) (by kernel_rfl) rfl (by kernel_rfl) (fun _ _ _ h => h) hS0 ?_ ?_
      · intro oi ho
        simp only [List.getElem?_toArray, List.getElem?_cons_zero, List.getElem?_cons_succ, Option.some.injEq] at ho; subst ho
        refine Or.inl ⟨by rfl, ?_⟩
        intro w' hSw
        obtain ⟨sa, sb, sc⟩ := hSw
        go_simp
      try simp only [Act.put, List.setIfInBounds_toArray, List.set_cons_zero, List.set_cons_succ]
      refine wpAnyD_put (i := 1) (v := .slice (some ⟨g, 0, none⟩) n c3) rfl (by kernel_rfl) (by kernel_rfl) (by kernel_rfl) (by kernel_rfl) rfl (by kernel_rfl) (fun _ _ _ h => h) hS0 ?_ ?_
      · intro oi ho
        simp only [List.getElem?_toArray, List.getElem?_cons_zero, List.getElem?_cons_succ, Option.some.injEq] at ho; subst ho
        refine Or.inl ⟨by rfl, ?_⟩
        intro w' hSw
        obtain ⟨sa, sb, sc⟩ := hSw
        go_simp
      try simp only [Act.put, List.setIfInBounds_toArray, List.set_cons_zero, List.set_cons_succ]
      refine wpAnyD_put (i := 2) (v := .pointer (some ⟨b4, 2, none⟩)) rfl (by kernel_rfl) (by kernel_rfl) (by kernel_rfl) (by kernel_rfl) rfl (by kernel_rfl) (fun _ _ _ h => h) hS0 ?_ ?_
      · intro oi ho
        simp only [List.getElem?_toArray, List.getElem?_cons_zero, List.getElem?_cons_succ, Option.some.injEq] at ho; subst ho
        refine Or.inl ⟨by rfl, ?_⟩
        intro w' hSw
        obtain ⟨sa, sb, sc⟩ := hSw
        go_simp
      try simp only [Act.put, List.setIfInBounds_toArray, List.set_cons_zero, List.set_cons_succ]
      refine wpAnyD_put (i := 3) (v := .slice (some ⟨g, 0, none⟩) n c3) rfl (by kernel_rfl) (by kernel_rfl) (by kernel_rfl) (by kernel_rfl) rfl (by kernel_rfl) (fun _ _ _ h => h) hS0 ?_ ?_
      · intro oi ho
        simp only [List.getElem?_toArray, List.getElem?_cons_zero, List.getElem?_cons_succ, Option.some.injEq] at ho; subst ho
        refine Or.inl ⟨by rfl, ?_⟩
        intro w' hSw
        obtain ⟨sa, sb, sc⟩ := hSw
        go_simp
      try simp only [Act.put, List.setIfInBounds_toArray, List.set_cons_zero, List.set_cons_succ]
      refine wpAnyD_put (i := 4) (v := .pointer (some ⟨g, 0, none⟩)) rfl (by kernel_rfl) (by kernel_rfl) (by kernel_rfl) (by kernel_rfl) rfl (by kernel_rfl) (fun _ _ _ h => h) hS0 ?_ ?_
      · intro oi ho
        simp only [List.getElem?_toArray, List.getElem?_cons_zero, List.getElem?_cons_succ, Option.some.injEq] at ho; subst ho
        refine Or.inl ⟨by rfl, ?_⟩
        intro w' hSw
        obtain ⟨sa, sb, sc⟩ := hSw
        go_simp
      try simp only [Act.put, List.setIfInBounds_toArray, List.set_cons_zero, List.set_cons_succ]
      refine wpAnyD_put (i := 5) (v := .slice ar M cr) rfl (by kernel_rfl) (by kernel_rfl) (by kernel_rfl) (by kernel_rfl) rfl (by kernel_rfl) (fun _ _ _ h => h) hS0 ?_ ?_
      · intro oi ho
        simp only [List.getElem?_toArray, List.getElem?_cons_zero, List.getElem?_cons_succ, Option.some.injEq] at ho; subst ho
        refine Or.inl ⟨by rfl, ?_⟩
        intro w' hSw
        obtain ⟨sa, sb, sc⟩ := hSw
        go_simp
      try simp only [Act.put, List.setIfInBounds_toArray, List.set_cons_zero, List.set_cons_succ]
      refine wpAnyD_put (i := 7) (v := .pointer (some ⟨b4, 0, none⟩)) rfl (by kernel_rfl) (by kernel_rfl) (by kernel_rfl) (by kernel_rfl) rfl (by kernel_rfl) (fun _ _ _ h => h) hS0 ?_ ?_
      · intro oi ho
        simp only [List.getElem?_toArray, List.getElem?_cons_zero, List.getElem?_cons_succ, Option.some.injEq] at ho; subst ho
        refine Or.inl ⟨by rfl, ?_⟩
        intro w' hSw
        obtain ⟨sa, sb, sc⟩ := hSw
        go_simp
      try simp only [Act.put, List.setIfInBounds_toArray, List.set_cons_zero, List.set_cons_succ]
      refine wpAnyD_put (i := 8) (v := .slice a1 n c1) rfl (by kernel_rfl) (by kernel_rfl) (by kernel_rfl) (by kernel_rfl) rfl (by kernel_rfl) (fun _ _ _ h => h) hS0 ?_ ?_
      · intro oi ho
        simp only [List.getElem?_toArray, List.getElem?_cons_zero, List.getElem?_cons_succ, Option.some.injEq] at ho; subst ho
        refine Or.inl ⟨by rfl, ?_⟩
        intro w' hSw
        obtain ⟨sa, sb, sc⟩ := hSw
        go_simp
      try simp only [Act.put, List.setIfInBounds_toArray, List.set_cons_zero, List.set_cons_succ]
      refine wpAnyD_put (i := 9) (v := .int .i64 n) rfl (by kernel_rfl) (by kernel_rfl) (by kernel_rfl) (by kernel_rfl) rfl (by kernel_rfl) (fun _ _ _ h => h) hS0 ?_ ?_
      · intro oi ho
        simp only [List.getElem?_toArray, List.getElem?_cons_zero, List.getElem?_cons_succ, Option.some.injEq] at ho; subst ho
        refine Or.inl ⟨by rfl, ?_⟩
        intro w' hSw
        obtain ⟨sa, sb, sc⟩ := hSw
        go_simp
      try simp only [Act.put, List.setIfInBounds_toArray, List.set_cons_zero, List.set_cons_succ]
      refine wpAnyD_ready (rs := [6, 10]) (by kernel_rfl) (by simp) ?_
      refine AllD.step (i := 6) (by kernel_rfl) ?_ ?_
      · intro o ho K hK
        simp only [List.getElem?_toArray, List.getElem?_cons_zero, List.getElem?_cons_succ, Option.some.injEq] at ho; subst ho
        go_simp
        go_at_call 68
        refine (HOWN.out w5.drew (Below.refl _ _).drew).mono ?_
        rintro e w6 ⟨u6, rfl, hO6, hB6⟩
        have hb6 : Below w5.heap.size w5 w6 := below_size (Below.refl _ _).drew hB6
        have hbm := ballocD hb6 (.cells (madeCells #[.int .i64 0] n) 2)
        have hbr := ballocD hbm (.cells #[.slice (some ⟨w6.heap.size, 0, none⟩) n n] 24)
        have hs6 := hb6.size
        obtain ⟨u7, w7, hr7, hI7, hb7⟩ := app_row (T := fun k => k = w6.heap.size) 25 hbr (local_O2.below (local_O2.below hO6 (below_alloc w6 (.cells (madeCells #[.int .i64 0] n) 2))) (below_alloc _ (.cells #[.slice (some ⟨w6.heap.size, 0, none⟩) n n] 24))) (fun k hk => hk.1) (O1B (made_own w6 n HN6.out) (below_alloc _ (.cells #[.slice (some ⟨w6.heap.size, 0, none⟩) n n] 24))) (fun k hk => by omega) (fun k hk hh => by have := hh.2; omega) rfl (vx := .slice (some ⟨w6.heap.size + 1, 0, none⟩) 1 1) (rdv_cell (by simp)) HLN.out
        obtain ⟨t7, t8⟩ := HSET.out w7 hb7
        obtain ⟨t9, t10, t11, t12⟩ := t7
        obtain ⟨a7, n7, c7, rfl⟩ : ∃ a n c, u7 = .slice a n c := by obtain ⟨a, c, e, _⟩ := hI7.rd.form; exact ⟨a, _, c, e⟩
        have hq := Lib.hid (t8 _ _ hI7)
        refine hK.out _ _ (fun hz => KS3.out _ hb6) ?_
        clear hK K
        try simp only [Act.put, List.setIfInBounds_toArray, List.set_cons_zero, List.set_cons_succ]
        refine wpAnyD_ready (rs := [10]) (by kernel_rfl) (by simp) ?_
        refine AllD.step (i := 10) (by kernel_rfl) ?_ ?_
        · intro o ho K hK
          simp only [List.getElem?_toArray, List.getElem?_cons_zero, List.getElem?_cons_succ, Option.some.injEq] at ho; subst ho
          go_simp
          refine hK.out _ _ (fun hz => KS3.out _ hbm) ?_
          clear hK K
          try simp only [Act.put, List.setIfInBounds_toArray, List.set_cons_zero, List.set_cons_succ]
          refine wpAnyD_ready (rs := [11]) (by kernel_rfl) (by simp) ?_
          refine AllD.step (i := 11) (by kernel_rfl) ?_ ?_
          · intro o ho K hK
            simp only [List.getElem?_toArray, List.getElem?_cons_zero, List.getElem?_cons_succ, Option.some.injEq] at ho; subst ho
            go_simp
            refine hK.out _ _ (fun hz => KS3.out _ hbr) ?_
            clear hK K
            try simp only [Act.put, List.setIfInBounds_toArray, List.set_cons_zero, List.set_cons_succ]
            refine wpAnyD_ready (rs := [12]) (by kernel_rfl) (by simp) ?_
            refine AllD.step (i := 12) (by kernel_rfl) ?_ ?_
            · intro o ho K hK
              simp only [List.getElem?_toArray, List.getElem?_cons_zero, List.getElem?_cons_succ, Option.some.injEq] at ho; subst ho
              refine step_of_run rfl (.tmp 83) (.tmp 88) 25 rfl _ _ (by simp [Act.eval, Act.put]) (by simp [Act.eval, Act.put]) _ _ hr7 ?_
              refine hK.out _ _ (fun hz => KS3.out _ hb7) ?_
              clear hK K
              try simp only [Act.put, List.setIfInBounds_toArray, List.set_cons_zero, List.set_cons_succ]
              refine wpAnyD_ready (rs := [13]) (by kernel_rfl) (by simp) ?_
              refine AllD.step (i := 13) (by kernel_rfl) ?_ ?_
              · intro o ho K hK
                simp only [List.getElem?_toArray, List.getElem?_cons_zero, List.getElem?_cons_succ, Option.some.injEq] at ho; subst ho
                go_simp
                refine hK.out _ _ (fun hz => KS3.out _ hb7) ?_
                clear hK K
                try simp only [Act.put, List.setIfInBounds_toArray, List.set_cons_zero, List.set_cons_succ]
                refine wpAnyD_ready (rs := [14]) (by kernel_rfl) (by simp) ?_
                refine AllD.step (i := 14) (by kernel_rfl) ?_ ?_
                · intro o ho K hK
                  simp only [List.getElem?_toArray, List.getElem?_cons_zero, List.getElem?_cons_succ, Option.some.injEq] at ho; subst ho
                  go_simp
                  refine hK.out _ _ (fun hz => Bool.noConfusion ((by kernel_rfl : _ = true).symm.trans hz)) ?_
                  clear hK K
                  try simp only [Act.put, List.setIfInBounds_toArray, List.set_cons_zero, List.set_cons_succ]
                  refine wpAnyD_done (by kernel_rfl) ?_ _
                  have hTS := hq.out
                  clear hq
                  obtain ⟨b1, n1, d1, b2, n2, d2, b3, n3, d3, x4, y2, hF⟩ := hTS.fin
                  have HF := Lib.hid hF
                  have k0 := x4.c0
                  have k1 := x4.c1
                  have k2 := x4.c2
                  have q0 := y2.c0
                  have q1 := y2.c1
                  have q2 := y2.c2
                  have f0 := y2.fr 0
                  have f1 := y2.fr 1
                  have f2 := y2.fr 2
                  clear x4 y2 hF hTS
                  go_wp2_with fail
                  exact bodyPost_ret (v := .agg #[Value.slice b1 n1 d1, Value.slice b2 n2 d2, Value.slice b3 n3 d3]) (by simp [results, Try.results58, go_sem, q0, q1, q2]) rfl HF.out
                exact AllD.nil
              exact AllD.nil
            exact AllD.nil
          exact AllD.nil
        exact AllD.nil
      refine AllD.step (i := 10) (by kernel_rfl) ?_ ?_
      · intro o ho K hK
        simp only [List.getElem?_toArray, List.getElem?_cons_zero, List.getElem?_cons_succ, Option.some.injEq] at ho; subst ho
        go_simp
        refine hK.out _ _ (fun hz => KS3.out _ (below_alloc w5 (.cells (madeCells #[.int .i64 0] n) 2)).drew) ?_
        clear hK K
        try simp only [Act.put, List.setIfInBounds_toArray, List.set_cons_zero, List.set_cons_succ]
        refine wpAnyD_ready (rs := [6, 11]) (by kernel_rfl) (by simp) ?_
        refine AllD.step (i := 6) (by kernel_rfl) ?_ ?_
        · intro o ho K hK
          simp only [List.getElem?_toArray, List.getElem?_cons_zero, List.getElem?_cons_succ, Option.some.injEq] at ho; subst ho
          go_simp
          go_at_call 68
          refine (HOWN.out (w5.drew.alloc (.cells (madeCells #[.int .i64 0] n) 2)) (below_alloc w5 (.cells (madeCells #[.int .i64 0] n) 2)).drew).mono ?_
          rintro e w6 ⟨u6, rfl, hO6, hB6⟩
          have hb6a : Below (w5.alloc (.cells (madeCells #[.int .i64 0] n) 2)).heap.size (w5.alloc (.cells (madeCells #[.int .i64 0] n) 2)) w6 := below_size (Below.refl _ _).drew hB6
          have hb6 : Below w5.heap.size w5 w6 := below_size (below_alloc _ _) hb6a
          have hbr := ballocD hb6 (.cells #[.slice (some ⟨w5.heap.size, 0, none⟩) n n] 24)
          obtain ⟨u7, w7, hr7, hI7, hb7⟩ := app_row (T := fun k => k = w5.heap.size) 25 hbr (local_O2.below hO6 (below_alloc w6 (.cells #[.slice (some ⟨w5.heap.size, 0, none⟩) n n] 24))) (fun k hk => by have h1 := hk.1; simp at h1; omega) (O1B (made_own w5 n HN6.out) (below_size hb6a (below_alloc _ (.cells #[.slice (some ⟨w5.heap.size, 0, none⟩) n n] 24)))) (fun k hk => by omega) (fun k hk hh => by have h1 := hh.1; simp at h1; omega) rfl (vx := .slice (some ⟨w6.heap.size, 0, none⟩) 1 1) (rdv_cell (by simp)) HLN.out
          obtain ⟨t7, t8⟩ := HSET.out w7 hb7
          obtain ⟨t9, t10, t11, t12⟩ := t7
          obtain ⟨a7, n7, c7, rfl⟩ : ∃ a n c, u7 = .slice a n c := by obtain ⟨a, c, e, _⟩ := hI7.rd.form; exact ⟨a, _, c, e⟩
          have hq := Lib.hid (t8 _ _ hI7)
          refine hK.out _ _ (fun hz => KS3.out _ hb6) ?_
          clear hK K
          try simp only [Act.put, List.setIfInBounds_toArray, List.set_cons_zero, List.set_cons_succ]
          refine wpAnyD_ready (rs := [11]) (by kernel_rfl) (by simp) ?_
          refine AllD.step (i := 11) (by kernel_rfl) ?_ ?_
          · intro o ho K hK
            simp only [List.getElem?_toArray, List.getElem?_cons_zero, List.getElem?_cons_succ, Option.some.injEq] at ho; subst ho
            go_simp
            refine hK.out _ _ (fun hz => KS3.out _ hbr) ?_
            clear hK K
            try simp only [Act.put, List.setIfInBounds_toArray, List.set_cons_zero, List.set_cons_succ]
            refine wpAnyD_ready (rs := [12]) (by kernel_rfl) (by simp) ?_
            refine AllD.step (i := 12) (by kernel_rfl) ?_ ?_
            · intro o ho K hK
              simp only [List.getElem?_toArray, List.getElem?_cons_zero, List.getElem?_cons_succ, Option.some.injEq] at ho; subst ho
              refine step_of_run rfl (.tmp 83) (.tmp 88) 25 rfl _ _ (by simp [Act.eval, Act.put]) (by simp [Act.eval, Act.put]) _ _ hr7 ?_
              refine hK.out _ _ (fun hz => KS3.out _ hb7) ?_
              clear hK K
              try simp only [Act.put, List.setIfInBounds_toArray, List.set_cons_zero, List.set_cons_succ]
              refine wpAnyD_ready (rs := [13]) (by kernel_rfl) (by simp) ?_
              refine AllD.step (i := 13) (by kernel_rfl) ?_ ?_
              · intro o ho K hK
                simp only [List.getElem?_toArray, List.getElem?_cons_zero, List.getElem?_cons_succ, Option.some.injEq] at ho; subst ho
                go_simp
                refine hK.out _ _ (fun hz => KS3.out _ hb7) ?_
                clear hK K
                try simp only [Act.put, List.setIfInBounds_toArray, List.set_cons_zero, List.set_cons_succ]
                refine wpAnyD_ready (rs := [14]) (by kernel_rfl) (by simp) ?_
                refine AllD.step (i := 14) (by kernel_rfl) ?_ ?_
                · intro o ho K hK
                  simp only [List.getElem?_toArray, List.getElem?_cons_zero, List.getElem?_cons_succ, Option.some.injEq] at ho; subst ho
                  go_simp
                  refine hK.out _ _ (fun hz => Bool.noConfusion ((by kernel_rfl : _ = true).symm.trans hz)) ?_
                  clear hK K
                  try simp only [Act.put, List.setIfInBounds_toArray, List.set_cons_zero, List.set_cons_succ]
                  refine wpAnyD_done (by kernel_rfl) ?_ _
                  have hTS := hq.out
                  clear hq
                  obtain ⟨b1, n1, d1, b2, n2, d2, b3, n3, d3, x4, y2, hF⟩ := hTS.fin
                  have HF := Lib.hid hF
                  have k0 := x4.c0
                  have k1 := x4.c1
                  have k2 := x4.c2
                  have q0 := y2.c0
                  have q1 := y2.c1
                  have q2 := y2.c2
                  have f0 := y2.fr 0
                  have f1 := y2.fr 1
                  have f2 := y2.fr 2
                  clear x4 y2 hF hTS
                  go_wp2_with fail
                  exact bodyPost_ret (v := .agg #[Value.slice b1 n1 d1, Value.slice b2 n2 d2, Value.slice b3 n3 d3]) (by simp [results, Try.results58, go_sem, q0, q1, q2]) rfl HF.out
                exact AllD.nil
              exact AllD.nil
            exact AllD.nil
          exact AllD.nil
        refine AllD.step (i := 11) (by kernel_rfl) ?_ ?_
        · intro o ho K hK
          simp only [List.getElem?_toArray, List.getElem?_cons_zero, List.getElem?_cons_succ, Option.some.injEq] at ho; subst ho
          go_simp
          refine hK.out _ _ (fun hz => KS3.out _ (ballocD (below_alloc w5 (.cells (madeCells #[.int .i64 0] n) 2)) (.cells #[.slice (some ⟨w5.heap.size, 0, none⟩) n n] 24)).drew) ?_
          clear hK K
          try simp only [Act.put, List.setIfInBounds_toArray, List.set_cons_zero, List.set_cons_succ]
          refine wpAnyD_ready (rs := [6]) (by kernel_rfl) (by simp) ?_
          refine AllD.step (i := 6) (by kernel_rfl) ?_ ?_
          · intro o ho K hK
            simp only [List.getElem?_toArray, List.getElem?_cons_zero, List.getElem?_cons_succ, Option.some.injEq] at ho; subst ho
            go_simp
            go_at_call 68
            refine (HOWN.out ((w5.drew.alloc (.cells (madeCells #[.int .i64 0] n) 2)).alloc (.cells #[.slice (some ⟨w5.heap.size, 0, none⟩) n n] 24)) (ballocD (below_alloc w5 (.cells (madeCells #[.int .i64 0] n) 2)) (.cells #[.slice (some ⟨w5.heap.size, 0, none⟩) n n] 24)).drew).mono ?_
            rintro e w6 ⟨u6, rfl, hO6, hB6⟩
            have hb6a : Below ((w5.alloc (.cells (madeCells #[.int .i64 0] n) 2)).alloc (.cells #[.slice (some ⟨w5.heap.size, 0, none⟩) n n] 24)).heap.size ((w5.alloc (.cells (madeCells #[.int .i64 0] n) 2)).alloc (.cells #[.slice (some ⟨w5.heap.size, 0, none⟩) n n] 24)) w6 := below_size (Below.refl _ _).drew hB6
            have hb6 : Below w5.heap.size w5 w6 := below_size (ballocD (below_alloc _ _) _) hb6a
            obtain ⟨u7, w7, hr7, hI7, hb7⟩ := app_row (T := fun k => k = w5.heap.size) 25 hb6 hO6 (fun k hk => by have h1 := hk.1; simp at h1; omega) (O1B (made_own w5 n HN6.out) (below_size (below_alloc _ _) hb6a)) (fun k hk => by omega) (fun k hk hh => by have h1 := hh.1; simp at h1; omega) rfl (vx := .slice (some ⟨w5.heap.size + 1, 0, none⟩) 1 1) (rdv_cell ((hb6a.cell (p := ⟨w5.heap.size + 1, 0, none⟩) (by simp)).trans (by simp))) HLN.out
            obtain ⟨t7, t8⟩ := HSET.out w7 hb7
            obtain ⟨t9, t10, t11, t12⟩ := t7
            obtain ⟨a7, n7, c7, rfl⟩ : ∃ a n c, u7 = .slice a n c := by obtain ⟨a, c, e, _⟩ := hI7.rd.form; exact ⟨a, _, c, e⟩
            have hq := Lib.hid (t8 _ _ hI7)
            refine hK.out _ _ (fun hz => KS3.out _ hb6) ?_
            clear hK K
            try simp only [Act.put, List.setIfInBounds_toArray, List.set_cons_zero, List.set_cons_succ]
            refine wpAnyD_ready (rs := [12]) (by kernel_rfl) (by simp) ?_
            refine AllD.step (i := 12) (by kernel_rfl) ?_ ?_
            · intro o ho K hK
              simp only [List.getElem?_toArray, List.getElem?_cons_zero, List.getElem?_cons_succ, Option.some.injEq] at ho; subst ho
              refine step_of_run rfl (.tmp 83) (.tmp 88) 25 rfl _ _ (by simp [Act.eval, Act.put]) (by simp [Act.eval, Act.put]) _ _ hr7 ?_
              refine hK.out _ _ (fun hz => KS3.out _ hb7) ?_
              clear hK K
              try simp only [Act.put, List.setIfInBounds_toArray, List.set_cons_zero, List.set_cons_succ]
              refine wpAnyD_ready (rs := [13]) (by kernel_rfl) (by simp) ?_
              refine AllD.step (i := 13) (by kernel_rfl) ?_ ?_
              · intro o ho K hK
                simp only [List.getElem?_toArray, List.getElem?_cons_zero, List.getElem?_cons_succ, Option.some.injEq] at ho; subst ho
                go_simp
                refine hK.out _ _ (fun hz => KS3.out _ hb7) ?_
                clear hK K
                try simp only [Act.put, List.setIfInBounds_toArray, List.set_cons_zero, List.set_cons_succ]
                refine wpAnyD_ready (rs := [14]) (by kernel_rfl) (by simp) ?_
                refine AllD.step (i := 14) (by kernel_rfl) ?_ ?_
                · intro o ho K hK
                  simp only [List.getElem?_toArray, List.getElem?_cons_zero, List.getElem?_cons_succ, Option.some.injEq] at ho; subst ho
                  go_simp
                  refine hK.out _ _ (fun hz => Bool.noConfusion ((by kernel_rfl : _ = true).symm.trans hz)) ?_
                  clear hK K
                  try simp only [Act.put, List.setIfInBounds_toArray, List.set_cons_zero, List.set_cons_succ]
                  refine wpAnyD_done (by kernel_rfl) ?_ _
                  have hTS := hq.out
                  clear hq
                  obtain ⟨b1, n1, d1, b2, n2, d2, b3, n3, d3, x4, y2, hF⟩ := hTS.fin
                  have HF := Lib.hid hF
                  have k0 := x4.c0
                  have k1 := x4.c1
                  have k2 := x4.c2
                  have q0 := y2.c0
                  have q1 := y2.c1
                  have q2 := y2.c2
                  have f0 := y2.fr 0
                  have f1 := y2.fr 1
                  have f2 := y2.fr 2
                  clear x4 y2 hF hTS
                  go_wp2_with fail
                  exact bodyPost_ret (v := .agg #[Value.slice b1 n1 d1, Value.slice b2 n2 d2, Value.slice b3 n3 d3]) (by simp [results, Try.results58, go_sem, q0, q1, q2]) rfl HF.out
                exact AllD.nil
              exact AllD.nil
            exact AllD.nil
          exact AllD.nil
        exact AllD.nil
      exact AllD.nil
    · obtain rfl : n = 0 := by omega
      have hTS := hST.ts hbl hw0 (by omega)
      clear hK hST
      obtain ⟨b1, n1, d1, b2, n2, d2, b3, n3, d3, x4, y2, hF⟩ := hTS.fin
      have HF := Lib.hid hF
      have k0 := x4.c0
      have k1 := x4.c1
      have k2 := x4.c2
      have q0 := y2.c0
      have q1 := y2.c1
      have q2 := y2.c2
      have f0 := y2.fr 0
      have f1 := y2.fr 1
      have f2 := y2.fr 2
      have hz := Option.some.inj (m2.symm.trans k2)
      simp only [Value.slice.injEq] at hz
      obtain ⟨rfl, rfl, rfl⟩ := hz
      clear x4 y2 hF hTS
      go_wp2_with fail
      exact bodyPost_ret (v := .agg #[Value.slice b1 n1 d1, Value.slice b2 n2 d2, Value.slice a3 0 c3]) (by simp [results, Try.results58, go_sem, q0, q1, q2]) rfl HF.out
  · clear r0 r1
    obtain ⟨P, a1, c1, a2, c2, a3, c3, hWP, hK⟩ := hST.ks hbl hw0 (by omega)
    have hlit := Rd.litI w5 [7, 7, 7, 7] (by simp)
    obtain ⟨⟨h2, h4, hne, _, _, hm2, hm4, hmN, _⟩, _⟩ := id hK
    go_wp2_with fail
    refine (HT7.out _ _ hlit).mono ?_
    rintro e w6 ⟨u1, u2, u3, rfl, hP6, hB6⟩
    have hW4 : WS 4 (triv [7, 7, 7, 7]) := ws_triv (os := [7, 7, 7, 7]) (by decide)
    obtain ⟨⟨d1, e1, rfl⟩, ⟨d2, e2, rfl⟩, ⟨d3, e3, rfl⟩⟩ := hP6.formsN hW4.on hW4.pl hW4.cl
    have hK6 := (hK.bel (below_alloc w5 (.cells (([7, 7, 7, 7] : List Int).map (Value.int .i64)).toArray 2))).bel hB6
    obtain ⟨_, hS6, hC6, X26, _, X46⟩ := id hK6
    have hBY := BY.set (N := w.heap.size) X26 X46 hP6 (fun k hk _ => by have h1 := hk.1; simp at h1; exact ⟨by omega, by omega, by omega⟩) hW4 h2 h4 hne
    have hbl6 := set3B ((Below.refl w6.heap.size w6).mono hC6.size) h4 (Value.slice d1 4 e1) (Value.slice d2 4 e2) (Value.slice d3 4 e3)
    have hST7 : ST w0 vc nc b w (w.heap.size + 1) b4 4 _ := ⟨hBY, hS6.belowB hbl6 hbl hw0, hC6.belB hbl6⟩
    have k0 := X46.c0
    have k1 := X46.c1
    have k2 := X46.c2
    have f0 := X46.fr 0
    have f1 := X46.fr 1
    have f2 := X46.fr 2
    clear hK hK6 hS6 hC6 X26 X46 hP6 hB6 hBY hbl6 hlit hST
    go_wp2_with fail
    generalize ((w6.setCell ⟨b4, 0, none⟩ (Value.slice d1 4 e1)).setCell ⟨b4, 1, none⟩ (Value.slice d2 4 e2)).setCell ⟨b4, 2, none⟩ (Value.slice d3 4 e3) = w7 at *
    clear k0 k1 k2 f0 f1 f2
    refine (HNX.out 2 w7 (by omega) (by omega) hST7.2.1).mono ?_
    rintro e w8 ⟨r8, rfl, r80, r81, hS8, hC8⟩
    have hST8 := hST7.keep hS8 hC8 hbl
    clear hST7 hS8 hC8
    by_cases hr : r8 = 0
    · subst hr
      obtain ⟨P, a1, c1, a2, c2, a3, c3, hWP, hK⟩ := hST8.ks hbl hw0 (by omega)
      have hlit := Rd.litI w8 [2, 2, 2, 2, 2, 2, 2] (by simp)
      obtain ⟨⟨h2, h4, hne, _, _, hm2, hm4, hmN, _⟩, _⟩ := id hK
      go_wp2_with fail
      refine (HT2.out _ _ hlit).mono ?_
      rintro e w9 ⟨u1, u2, u3, rfl, hP6, hB6⟩
      have hW7 : WS 7 (triv [2, 2, 2, 2, 2, 2, 2]) := ws_triv (os := [2, 2, 2, 2, 2, 2, 2]) (by decide)
      obtain ⟨⟨d1, e1, rfl⟩, ⟨d2, e2, rfl⟩, ⟨d3, e3, rfl⟩⟩ := hP6.formsN hW7.on hW7.pl hW7.cl
      have hK6 := (hK.bel (below_alloc w8 (.cells (([2, 2, 2, 2, 2, 2, 2] : List Int).map (Value.int .i64)).toArray 2))).bel hB6
      obtain ⟨_, hS6, hC6, X26, _, X46⟩ := id hK6
      have hBY := BY.set (N := w.heap.size) X26 X46 hP6 (fun k hk _ => by have h1 := hk.1; simp at h1; exact ⟨by omega, by omega, by omega⟩) hW7 h2 h4 hne
      have hbl6 := set3B ((Below.refl w9.heap.size w9).mono hC6.size) h4 (Value.slice d1 7 e1) (Value.slice d2 7 e2) (Value.slice d3 7 e3)
      have hST9 : ST w0 vc nc b w (w.heap.size + 1) b4 7 _ := ⟨hBY, hS6.belowB hbl6 hbl hw0, hC6.belB hbl6⟩
      have hTS := hST9.ts hbl hw0 (by omega)
      have m0 := X46.c0
      have m1 := X46.c1
      have m2 := X46.c2
      have g0 := X46.fr 0
      have g1 := X46.fr 1
      have g2 := X46.fr 2
      clear hK hK6 hS6 hC6 X26 X46 hP6 hB6 hBY hbl6 hlit hST9 hST8
      obtain ⟨b1, n1, d1, b2, n2, d2, b3, n3, d3, x4, y2, hF⟩ := hTS.fin
      have HF := Lib.hid hF
      have k0 := x4.c0
      have k1 := x4.c1
      have k2 := x4.c2
      have q0 := y2.c0
      have q1 := y2.c1
      have q2 := y2.c2
      have f0 := y2.fr 0
      have f1 := y2.fr 1
      have f2 := y2.fr 2
      clear x4 y2 hF hTS
      go_wp2_with fail
      exact bodyPost_ret (v := .agg #[Value.slice b1 n1 d1, Value.slice b2 n2 d2, Value.slice b3 n3 d3]) (by simp [results, Try.results58, go_sem, q0, q1, q2]) rfl HF.out
    · have hTS := hST8.ts hbl hw0 (by omega)
      clear hST8
      obtain ⟨b1, n1, d1, b2, n2, d2, b3, n3, d3, x4, y2, hF⟩ := hTS.fin
      have HF := Lib.hid hF
      have k0 := x4.c0
      have k1 := x4.c1
      have k2 := x4.c2
      have q0 := y2.c0
      have q1 := y2.c1
      have q2 := y2.c2
      have f0 := y2.fr 0
      have f1 := y2.fr 1
      have f2 := y2.fr 2
      clear x4 y2 hF hTS
      go_wp2_with fail
      exact bodyPost_ret (v := .agg #[Value.slice b1 n1 d1, Value.slice b2 n2 d2, Value.slice b3 n3 d3]) (by simp [results, Try.results58, go_sem, q0, q1, q2]) rfl HF.out
--== end
end Go.Proofs.Ytiikoappknejgaa
namespace Go.Proofs.Ytiikoappknejgaa
set_option linter.unusedVariables false
set_option linter.unusedSimpArgs false
set_option maxRecDepth 100000
open Go.RowKit
attribute [local go_sem ↓] Go.wp_at_zero Go.wp_at_succ

--== spec.l07Draw
theorem ob_ws {p : Pres} (h : WS6 p) : OB p := by
  obtain ⟨n, hn, hW⟩ := h
  unfold OB; rw [hW.on]; omega
set_option maxHeartbeats 8000000 in
theorem s_l07Draw {w0 : World} {vc : Value} {nc b : Nat} (l : Int) (w : World) (h : Src w0 vc nc b w) : Calls Try.prog 35 #[.pointer (some ⟨b, 0, none⟩), .int .i64 l] w (DrP OB w0 vc nc b w) := by
  have g0 := below_alloc w (Obj.cells #[Value.slice none 0 0, Value.slice none 0 0, Value.slice none 0 0] 28)
  have hF0 : FSt w0 vc nc b w (w.alloc (Obj.cells #[Value.slice none 0 0, Value.slice none 0 0, Value.slice none 0 0] 28)) := ⟨h.below g0, Chg.of_below g0 _ _, Bx.new w _ _ _, h.lt, h.be.size⟩
  have HNX : Hid (∀ (m : Int) wx, -100 ≤ m → m ≤ 100 → Src w0 vc nc b wx → Calls Try.prog 36 #[.pointer (some ⟨b, 0, none⟩), .int .i64 m] wx (Nxt w0 vc nc b wx m)) := fun m wx h1 h2 h => s_l01Next wx h m (by omega) (by omega)
  have hbw : b < w.heap.size := h.lt
  clear h g0
  go_enter Try.func35, Try.ntmps35
  go_wp2_with fail
  refine (s_l07Group l _ hF0.1).mono ?_
  rintro e w3 ⟨p, v1, v2, v3, hV, rfl, hP, hS3, hC3⟩
  have hW := ws_valid hV
  have h6 := hV.n6
  obtain ⟨⟨a1, c1, rfl⟩, ⟨a2, c2, rfl⟩, ⟨a3, c3, rfl⟩⟩ := hP.formsN hW.on hW.pl hW.cl
  have hF3 := hF0.keep hS3 hC3
  have hwz := hF0.lt
  have hP3 := OP.sub (S' := fun k => w.heap.size < k ∧ k < w3.heap.size) hP fun k hk hh => ⟨Nat.lt_of_lt_of_le hwz hh.1, hh.2⟩
  have X3 := Bx.new w3 (Value.slice a1 p.n c1) (Value.slice a2 p.n c2) (Value.slice a3 p.n c3)
  have hP4 := OP.below hP3 (below_alloc w3 (Obj.cells #[Value.slice a1 p.n c1, Value.slice a2 p.n c2, Value.slice a3 p.n c3] 28))
  have hF4 := hF3.bel (below_alloc w3 (Obj.cells #[Value.slice a1 p.n c1, Value.slice a2 p.n c2, Value.slice a3 p.n c3] 28))
  have hbx : w.heap.size < w3.heap.size := hF3.lt
  clear hP hP3 hF3 hF0 hS3 hC3 hwz
  go_wp2_with fail
  generalize w3.alloc (Obj.cells #[Value.slice a1 p.n c1, Value.slice a2 p.n c2, Value.slice a3 p.n c3] 28) = w4 at *
  generalize w3.heap.size = b6 at *
  refine (HNX.out 24 w4 (by omega) (by omega) hF4.1).mono ?_
  rintro e w5 ⟨r, rfl, r0, r1, hS5, hC5⟩
  have hF5 := hF4.keep hS5 hC5
  have X5 := X3.chg (chgS_of hC5) (by omega)
  have hP5 := OP.chg hP4 (chgS_of hC5) (fun k hk e => by have := hk.1; omega)
  have m0 := X5.c0
  have m1 := X5.c1
  have m2 := X5.c2
  clear hF4 X3 hP4 hS5 hC5
  by_cases h0 : r = 0
  · subst h0
    go_wp2_with fail
    refine (s_l07Bend hW h6 _ _ _ w5 hF5.1 hP5.rd).mono ?_
    rintro e w6 ⟨p6, u1, u2, u3, hc6, rfl, hP6, hS6, hC6⟩
    obtain ⟨⟨d1, e1, rfl⟩, ⟨d2, e2, rfl⟩, ⟨d3, e3, rfl⟩⟩ := hP6.forms
    have hF6 := hF5.keep hS6 hC6
    have hlt := hF5.lt
    clear hF5 hP5 X5 m0 m1 m2
    have q0 := hF6.2.2.1.c0
    have q1 := hF6.2.2.1.c1
    have q2 := hF6.2.2.1.c2
    have f0 := hF6.2.2.1.fr 0
    have f1 := hF6.2.2.1.fr 1
    have f2 := hF6.2.2.1.fr 2
    have HD := Lib.hid (drp_set (C := OB) hF6 hP6 (fun k hk => Nat.lt_of_lt_of_le hlt hk.1) hc6)
    clear hF6 hP6
    go_wp2_with fail
    exact bodyPost_ret (v := .agg #[Value.slice d1 p6.orders.length e1, Value.slice d2 p6.powers.length e2, Value.slice d3 p6.conj.length e3]) (by simp [results, Try.results35, go_sem, q0, q1, q2]) rfl HD.out
  · by_cases h1 : r = 1
    · subst h1
      go_wp2_with fail
      refine (s_l07Turn hW h6 _ _ _ w5 hF5.1 hP5.rd).mono ?_
      rintro e w6 ⟨p6, u1, u2, u3, hc6, rfl, hP6, hS6, hC6⟩
      obtain ⟨⟨d1, e1, rfl⟩, ⟨d2, e2, rfl⟩, ⟨d3, e3, rfl⟩⟩ := hP6.forms
      have hF6 := hF5.keep hS6 hC6
      have hlt := hF5.lt
      clear hF5 hP5 X5 m0 m1 m2
      have q0 := hF6.2.2.1.c0
      have q1 := hF6.2.2.1.c1
      have q2 := hF6.2.2.1.c2
      have f0 := hF6.2.2.1.fr 0
      have f1 := hF6.2.2.1.fr 1
      have f2 := hF6.2.2.1.fr 2
      have HD := Lib.hid (drp_set (C := OB) hF6 hP6 (fun k hk => Nat.lt_of_lt_of_le hlt hk.1) (ob_ws hc6))
      clear hF6 hP6
      go_wp2_with fail
      exact bodyPost_ret (v := .agg #[Value.slice d1 p6.orders.length e1, Value.slice d2 p6.powers.length e2, Value.slice d3 p6.conj.length e3]) (by simp [results, Try.results35, go_sem, q0, q1, q2]) rfl HD.out
    · by_cases h2 : r = 2
      · subst h2
        go_wp2_with fail
        refine (s_l07Turn hW h6 _ _ _ w5 hF5.1 hP5.rd).mono ?_
        rintro e w6 ⟨p6, u1, u2, u3, hc6, rfl, hP6, hS6, hC6⟩
        obtain ⟨⟨d1, e1, rfl⟩, ⟨d2, e2, rfl⟩, ⟨d3, e3, rfl⟩⟩ := hP6.forms
        have hF6 := hF5.keep hS6 hC6
        have hlt := hF5.lt
        clear hF5 hP5 X5 m0 m1 m2
        have q0 := hF6.2.2.1.c0
        have q1 := hF6.2.2.1.c1
        have q2 := hF6.2.2.1.c2
        have f0 := hF6.2.2.1.fr 0
        have f1 := hF6.2.2.1.fr 1
        have f2 := hF6.2.2.1.fr 2
        have HD := Lib.hid (drp_set (C := OB) hF6 hP6 (fun k hk => Nat.lt_of_lt_of_le hlt hk.1) (ob_ws hc6))
        clear hF6 hP6
        go_wp2_with fail
        exact bodyPost_ret (v := .agg #[Value.slice d1 p6.orders.length e1, Value.slice d2 p6.powers.length e2, Value.slice d3 p6.conj.length e3]) (by simp [results, Try.results35, go_sem, q0, q1, q2]) rfl HD.out
      · clear X5
        have q0 := hF5.2.2.1.c0
        have q1 := hF5.2.2.1.c1
        have q2 := hF5.2.2.1.c2
        have f0 := hF5.2.2.1.fr 0
        have f1 := hF5.2.2.1.fr 1
        have f2 := hF5.2.2.1.fr 2
        have HD := Lib.hid (drp_set (C := OB) hF5 hP5 (fun k hk => hk.1) (by unfold OB; rw [hW.on]; omega))
        clear hF5 hP5
        go_wp2_with fail
        exact bodyPost_ret (v := .agg #[Value.slice a1 p.n c1, Value.slice a2 p.n c2, Value.slice a3 p.n c3]) (by simp [results, Try.results35, go_sem, q0, q1, q2]) rfl HD.out
--== spec.l08Draw
set_option maxHeartbeats 8000000 in
theorem s_l08Draw {w0 : World} {vc : Value} {nc b : Nat} (w : World) (h : Src w0 vc nc b w) : Calls Try.prog 16 #[.pointer (some ⟨b, 0, none⟩)] w (DrP OB w0 vc nc b w) := by
  have g0 := below_alloc w (Obj.cells #[Value.slice none 0 0, Value.slice none 0 0, Value.slice none 0 0] 28)
  have hF0 : FSt w0 vc nc b w (w.alloc (Obj.cells #[Value.slice none 0 0, Value.slice none 0 0, Value.slice none 0 0] 28)) := ⟨h.below g0, Chg.of_below g0 _ _, Bx.new w _ _ _, h.lt, h.be.size⟩
  have HNX : Hid (∀ (m : Int) wx, -100 ≤ m → m ≤ 100 → Src w0 vc nc b wx → Calls Try.prog 36 #[.pointer (some ⟨b, 0, none⟩), .int .i64 m] wx (Nxt w0 vc nc b wx m)) := fun m wx h1 h2 h => s_l01Next wx h m (by omega) (by omega)
  have hbw : b < w.heap.size := h.lt
  clear h g0
  go_enter Try.func16, Try.ntmps16
  go_wp2_with fail
  refine (s_l07Draw 96 _ hF0.1).mono ?_
  rintro e w3 ⟨p, v1, v2, v3, hob, rfl, hP, hS3, hC3⟩
  obtain ⟨⟨a1, c1, rfl⟩, ⟨a2, c2, rfl⟩, ⟨a3, c3, rfl⟩⟩ := hP.forms
  have hF3 := hF0.keep hS3 hC3
  have hwz := hF0.lt
  have hP3 := OP.sub (S' := fun k => w.heap.size < k ∧ k < w3.heap.size) hP fun k hk hh => ⟨Nat.lt_of_lt_of_le hwz hh.1, hh.2⟩
  have X3 := Bx.new w3 (Value.slice a1 p.orders.length c1) (Value.slice a2 p.powers.length c2) (Value.slice a3 p.conj.length c3)
  have hP4 := OP.below hP3 (below_alloc w3 (Obj.cells #[Value.slice a1 p.orders.length c1, Value.slice a2 p.powers.length c2, Value.slice a3 p.conj.length c3] 28))
  have hF4 := hF3.bel (below_alloc w3 (Obj.cells #[Value.slice a1 p.orders.length c1, Value.slice a2 p.powers.length c2, Value.slice a3 p.conj.length c3] 28))
  have hbx : w.heap.size < w3.heap.size := hF3.lt
  clear hP hP3 hF3 hF0 hS3 hC3 hwz
  go_wp2_with fail
  generalize w3.alloc (Obj.cells #[Value.slice a1 p.orders.length c1, Value.slice a2 p.powers.length c2, Value.slice a3 p.conj.length c3] 28) = w4 at *
  generalize w3.heap.size = b6 at *
  refine (HNX.out 2 w4 (by omega) (by omega) hF4.1).mono ?_
  rintro e w5 ⟨r, rfl, r0, r1, hS5, hC5⟩
  have hF5 := hF4.keep hS5 hC5
  have X5 := X3.chg (chgS_of hC5) (by omega)
  have hP5 := OP.chg hP4 (chgS_of hC5) (fun k hk e => by have := hk.1; omega)
  have m0 := X5.c0
  have m1 := X5.c1
  have m2 := X5.c2
  clear hF4 X3 hP4 hS5 hC5
  by_cases h0 : r = 0
  · subst h0
    have HISP := Lib.hid (s_IsPresentation _ _ _ p w5 hP5.rd)
    go_wp2_with fail
    refine HISP.out.mono ?_
    rintro e w8 ⟨rfl, hB8⟩
    have X8 := X5.below hB8 X5.lt
    have hP8 := OP.below hP5 hB8
    have hF8 := hF5.bel hB8
    clear m0 m1 m2
    have m0 := X8.c0
    have m1 := X8.c1
    have m2 := X8.c2
    clear X5 hP5 hF5 hB8 HISP
    cases hvb : validB p with
    | true =>
      have hV := validB_true.1 hvb
      have hW := ws_valid hV
      have h6 := hV.n6
      go_wp2_with fail
      refine (s_l07Turn hW h6 _ _ _ w8 hF8.1 hP8.rd).mono ?_
      rintro e w6 ⟨p6, u1, u2, u3, hc6, rfl, hP6, hS6, hC6⟩
      obtain ⟨⟨d1, e1, rfl⟩, ⟨d2, e2, rfl⟩, ⟨d3, e3, rfl⟩⟩ := hP6.forms
      have hF6 := hF8.keep hS6 hC6
      have hlt := hF8.lt
      clear hF8 hP8 X8 m0 m1 m2
      have q0 := hF6.2.2.1.c0
      have q1 := hF6.2.2.1.c1
      have q2 := hF6.2.2.1.c2
      have f0 := hF6.2.2.1.fr 0
      have f1 := hF6.2.2.1.fr 1
      have f2 := hF6.2.2.1.fr 2
      have HD := Lib.hid (drp_set (C := OB) hF6 hP6 (fun k hk => Nat.lt_of_lt_of_le hlt hk.1) (ob_ws hc6))
      clear hF6 hP6
      go_wp2_with fail
      exact bodyPost_ret (v := .agg #[Value.slice d1 p6.orders.length e1, Value.slice d2 p6.powers.length e2, Value.slice d3 p6.conj.length e3]) (by simp [results, Try.results16, go_sem, q0, q1, q2]) rfl HD.out
    | false =>
      clear X8
      have q0 := hF8.2.2.1.c0
      have q1 := hF8.2.2.1.c1
      have q2 := hF8.2.2.1.c2
      have f0 := hF8.2.2.1.fr 0
      have f1 := hF8.2.2.1.fr 1
      have f2 := hF8.2.2.1.fr 2
      have HD := Lib.hid (drp_set (C := OB) hF8 hP8 (fun k hk => hk.1) hob)
      clear hF8 hP8
      go_wp2_with fail
      exact bodyPost_ret (v := .agg #[Value.slice a1 p.orders.length c1, Value.slice a2 p.powers.length c2, Value.slice a3 p.conj.length c3]) (by simp [results, Try.results16, go_sem, q0, q1, q2]) rfl HD.out
  · clear X5
    have q0 := hF5.2.2.1.c0
    have q1 := hF5.2.2.1.c1
    have q2 := hF5.2.2.1.c2
    have f0 := hF5.2.2.1.fr 0
    have f1 := hF5.2.2.1.fr 1
    have f2 := hF5.2.2.1.fr 2
    have HD := Lib.hid (drp_set (C := OB) hF5 hP5 (fun k hk => hk.1) hob)
    clear hF5 hP5
    go_wp2_with fail
    exact bodyPost_ret (v := .agg #[Value.slice a1 p.orders.length c1, Value.slice a2 p.powers.length c2, Value.slice a3 p.conj.length c3]) (by simp [results, Try.results16, go_sem, q0, q1, q2]) rfl HD.out
--== end
end Go.Proofs.Ytiikoappknejgaa
namespace Go.Proofs.Ytiikoappknejgaa
set_option linter.unusedVariables false
set_option linter.unusedSimpArgs false
set_option maxRecDepth 100000
open Go.RowKit

theorem named (x : Int) : ∃ y, Hid (x = y) := ⟨x, rfl⟩
theorem tw_ge {α : Type} (p : α → Bool) (l : List α) : ∀ n, n ≤ (l.takeWhile p).length ↔ n ≤ l.length ∧ ∀ i (h : i < l.length), i < n → p l[i] = true := by
  induction l with
  | nil => intro n; simp
  | cons a l ih =>
    intro n
    by_cases hp : p a = true
    · rw [List.takeWhile_cons_of_pos hp]
      cases n with
      | zero => simp
      | succ n =>
        simp only [List.length_cons, Nat.add_le_add_iff_right]
        rw [ih n]
        constructor
        · rintro ⟨h1, h2⟩
          refine ⟨h1, fun i hi hin => ?_⟩
          cases i with
          | zero => exact hp
          | succ i => exact h2 i (by simpa using hi) (by omega)
        · rintro ⟨h1, h2⟩
          exact ⟨h1, fun i hi hin => h2 (i + 1) (by simpa using hi) (by omega)⟩
    · rw [List.takeWhile_cons_of_neg (by simpa using hp)]
      constructor
      · intro h
        have : n = 0 := by simpa using h
        subst this
        exact ⟨Nat.zero_le _, fun i _ h => by omega⟩
      · rintro ⟨h1, h2⟩
        cases n with
        | zero => exact Nat.zero_le _
        | succ n => exact absurd (h2 0 (by simp) (by omega)) hp
def runL (w : List Int) (t : Nat) : Nat := ((w.drop t).takeWhile fun x => x == w.getD t 0).length
theorem runL_ge {w : List Int} {t m : Nat} (ht : t ≤ w.length) : m ≤ runL w t ↔ t + m ≤ w.length ∧ ∀ i, i < m → w.getD (t + i) 0 = w.getD t 0 := by
  unfold runL
  rw [tw_ge]
  have hdl : (List.drop t w).length = w.length - t := List.length_drop
  constructor
  · rintro ⟨h1, h2⟩
    refine ⟨by omega, fun i hi => ?_⟩
    have := h2 i (by omega) hi
    rw [List.getElem_drop] at this
    have hlt : t + i < w.length := by omega
    rw [show w.getD (t + i) 0 = w[t + i] by simp [List.getD, hlt]]
    simpa using this
  · rintro ⟨h1, h2⟩
    refine ⟨by omega, fun i hi hin => ?_⟩
    have hlt : t + i < w.length := by omega
    rw [List.getElem_drop]
    have := h2 i hin
    rw [show w.getD (t + i) 0 = w[t + i] by simp [List.getD, hlt]] at this
    simpa using this
theorem runL_eq {w : List Int} {t k : Nat} (ht : t ≤ k) (hk : k ≤ w.length) (h : ∀ i, t ≤ i → i < k → w.getD i 0 = w.getD t 0) (hend : k = w.length ∨ w.getD k 0 ≠ w.getD t 0) : runL w t = k - t := by
  have h1 : k - t ≤ runL w t := (runL_ge (by omega)).2 ⟨by omega, fun i hi => h (t + i) (by omega) (by omega)⟩
  have h2 : ¬ (k - t + 1 ≤ runL w t) := by
    intro hc
    obtain ⟨h3, h4⟩ := (runL_ge (by omega)).1 hc
    rcases hend with he | he
    · omega
    · have := h4 (k - t) (by omega)
      rw [show t + (k - t) = k by omega] at this
      exact he this
  omega
def redB (os w : List Int) (t : Nat) : Bool := (decide (t + 1 < w.length) && decide (w.getD (t + 1) 0 < w.getD t 0)) || decide (os.getD (w.getD t 0 - 1).toNat 0 ≤ (runL w t : Int))
def firstR (os w : List Int) : Int := match (List.range w.length).find? (redB os w) with | some t => (t : Int) | none => -1
theorem find_range (p : Nat → Bool) (n t : Nat) (ht : t < n) (h : p t = true) (hl : ∀ i, i < t → p i = false) : (List.range n).find? p = some t := by
  rw [range_split n t ht, List.find?_append, List.find?_cons_of_pos h]
  rw [List.find?_eq_none.2 (fun i hi => by rw [hl i (List.mem_range.1 hi)]; exact Bool.false_ne_true)]
  rfl
theorem firstR_some {os w : List Int} {t : Nat} (ht : t < w.length) (h : redB os w t = true) (hl : ∀ i, i < t → redB os w i = false) : firstR os w = (t : Int) := by
  unfold firstR; rw [find_range _ _ _ ht h hl]
theorem firstR_none {os w : List Int} (hl : ∀ i, i < w.length → redB os w i = false) : firstR os w = -1 := by
  unfold firstR
  rw [List.find?_eq_none.2 (fun i hi => by rw [hl i (List.mem_range.1 hi)]; exact Bool.false_ne_true)]
theorem firstR_bd (os w : List Int) : firstR os w = -1 ∨ ∃ t : Nat, firstR os w = (t : Int) ∧ t < w.length ∧ redB os w t = true := by
  unfold firstR
  cases h : (List.range w.length).find? (redB os w) with
  | none => exact .inl rfl
  | some t => exact .inr ⟨t, rfl, List.mem_range.1 (List.mem_of_find?_eq_some h), List.find?_some h⟩
/-- letters 1 .. n -/
def posB (n : Nat) (w : List Int) : Bool := w.all fun l => inB l 1 n
def PosW (n : Nat) (xs : List Int) : Prop := ∀ j, j < xs.length → ∃ q : Nat, xs.getD j 0 = (q : Int) + 1 ∧ q < n
theorem posB_true {n : Nat} {w : List Int} (h : posB n w = true) : PosW n w := by
  intro j hj
  have := inB_true.1 (List.all_eq_true.1 h _ (getD_mem hj))
  exact ⟨(w.getD j 0 - 1).toNat, by omega, by omega⟩
theorem posB_false {n : Nat} {w : List Int} {j : Nat} (hj : j < w.length) (h : inB (w.getD j 0) 1 n = false) : posB n w = false := by
  rw [posB, List.all_eq_false]; exact ⟨_, getD_mem hj, by rw [h]; exact Bool.false_ne_true⟩
--== spec.l09Run
set_option maxHeartbeats 2000000 in
theorem s_l09Run (v : Value) (xs : List Int) (t : Nat) (w : World) (hv : Rd w v xs) (ht : t < xs.length) :
    Calls Try.prog 71 #[v, .int .i64 t] w (RetQuiet w (.int .i64 (runL xs t))) := by
  have HV := Lib.hid hv
  obtain ⟨ao, cap, rfl, hc1, hc2⟩ := hv.form
  obtain ⟨b, off, rfl, hct⟩ := hv.at ht
  clear hv
  go_enter Try.func71, Try.ntmps71
  go_wp2_with fail
  go_loopw [5] (fun i wr => ∃ k : Nat, t ≤ k ∧ k ≤ xs.length ∧ i = .int .i64 k ∧ (∀ i, t ≤ i → i < k → xs.getD i 0 = xs.getD t 0) ∧ ∃ n, wr = w.drewN n) (fun i _ => xs.length - (intOf i).toNat)
  case atStart => exact ⟨t, Nat.le_refl _, by omega, rfl, fun i h1 h2 => by omega, 0, rfl⟩
  case round =>
    obtain ⟨k, hk1, hk2, rfl, hall, n, hn⟩ := hrel
    have HN := Lib.hid hn
    have HA := Lib.hid hall
    clear hn hall
    by_cases hlt : k < xs.length
    · obtain ⟨b', off', he, hck0⟩ := Rd.at HV.out hlt
      cases he
      have hck : wr.cell? ⟨b, off + k, none⟩ = some (.int .i64 (xs.getD k 0)) := by rw [HN.out]; exact hck0
      have hct' : wr.cell? ⟨b, off + t, none⟩ = some (.int .i64 (xs.getD t 0)) := by rw [HN.out]; exact hct
      have D1 : decide ((k : Int) < (xs.length : Int)) = true := by simpa using hlt
      by_cases he : xs.getD k 0 = xs.getD t 0
      · have HE := Lib.hid he
        have e1 : (xs.getD k 0 == xs.getD t 0) = true := by rw [he]; simp
        have HX : Hid (∀ i, t ≤ i → i < k + 1 → xs.getD i 0 = xs.getD t 0) := fun i h1 h2 => by
          by_cases h : i = k
          · subst h; exact he
          · exact HA.out i h1 (by omega)
        clear he hck0 hct HA HE
        obtain ⟨x, Hx⟩ := named (xs.getD k 0)
        obtain ⟨y, Hy⟩ := named (xs.getD t 0)
        rw [Hx.out] at hck
        rw [Hy.out] at hct'
        rw [Hx.out, Hy.out] at e1
        go_wp2_with fail
        go_quiet (fail)
        go_wp2_with fail
        go_roundw
        case rel => exact ⟨k + 1, by omega, by omega, by go_num, HX.out, by rw [HN.out]; exact drewN_drewN _ _ _⟩
        case measure => simp [intOf]; omega
      · have HR := Lib.hid (runL_eq hk1 hk2 HA.out (.inr he))
        have e1 : (xs.getD k 0 == xs.getD t 0) = false := by simpa using he
        clear he hck0 hct
        obtain ⟨x, Hx⟩ := named (xs.getD k 0)
        obtain ⟨y, Hy⟩ := named (xs.getD t 0)
        rw [Hx.out] at hck
        rw [Hy.out] at hct'
        rw [Hx.out, Hy.out] at e1
        go_wp2_with fail
        go_quiet (fail)
        go_wp2_with fail
        go_ret
        exact ⟨ret_int (by rw [HR.out]; omega), by rw [HN.out]; exact drewN_drewN _ _ _⟩
    · obtain rfl : k = xs.length := by omega
      have HR := Lib.hid (runL_eq hk1 hk2 HA.out (.inl rfl))
      have D1 : decide ((xs.length : Int) < (xs.length : Int)) = false := by simp
      clear hct
      go_wp2_with fail
      go_quiet (fail)
      go_wp2_with fail
      go_ret
      exact ⟨ret_int (by rw [HR.out]; omega), by rw [HN.out]; exact drewN_drewN _ _ _⟩
--== impl.reducible
theorem redB_desc {os w : List Int} {t : Nat} (h1 : t + 1 < w.length) (h2 : w.getD (t + 1) 0 < w.getD t 0) : redB os w t = true := by
  unfold redB; rw [decide_eq_true h1, decide_eq_true h2]; rfl
theorem redB_run {os w : List Int} {t q m : Nat} (h : ¬ (t + 1 < w.length ∧ w.getD (t + 1) 0 < w.getD t 0)) (hq : w.getD t 0 = (q : Int) + 1) (hm : os.getD q 0 = (m : Int)) : redB os w t = decide (m ≤ runL w t) := by
  have h' : (decide (t + 1 < w.length) && decide (w.getD (t + 1) 0 < w.getD t 0)) = false := by
    rw [Bool.eq_false_iff]; intro hc; simp only [Bool.and_eq_true, decide_eq_true_eq] at hc; exact h hc
  unfold redB
  rw [h', Bool.false_or, hq, show ((q : Int) + 1 - 1).toNat = q by omega, hm]
  rw [Bool.eq_iff_iff, decide_eq_true_iff, decide_eq_true_iff]; omega
set_option maxHeartbeats 4000000 in
theorem i_reducible (vp v : Value) (p : Pres) (xs : List Int) (t : Nat) (w : World) (hp : PtrP w vp p) (hv : Rd w v xs) (ht : t < xs.length) (hw : PosW p.n xs) (ho : primesB p.orders = true) (hx : xs.length ≤ 100000) :
    Calls Try.prog 48 #[vp, v, .int .i64 t] w (RetQuiet w (.bool (redB p.orders xs t))) := by
  have HV := Lib.hid hv
  have HP := Lib.hid hp
  obtain ⟨pb, v1, v2, v3, rfl, hp1, _, _, hR, _, _⟩ := hp
  obtain ⟨aq, capq, rfl, hq1, hq2⟩ := hR.form
  obtain ⟨ao, cap, rfl, hc1, hc2⟩ := hv.form
  obtain ⟨b, off, rfl, hct⟩ := hv.at ht
  obtain ⟨q, hq, hqn⟩ := hw t ht
  obtain ⟨bo, offo, rfl, hco⟩ := hR.at (show q < p.orders.length from hqn)
  have hob := primesB_at ho (getD_mem (xs := p.orders) (k := q) hqn)
  obtain ⟨m, hm⟩ : ∃ m : Nat, p.orders.getD q 0 = (m : Int) := ⟨(p.orders.getD q 0).toNat, by omega⟩
  rw [hm] at hco hob
  have hqn' : q < p.orders.length := hqn
  have HQ := Lib.hid hq
  have HM := Lib.hid hm
  clear hv hR hw ho hm
  rw [hq] at hct
  have W0 : IntKind.i64.wrap ((t : Int) + 1) = (t : Int) + 1 := IntWalk.i64_in _ (by omega)
  by_cases h1 : t + 1 < xs.length
  · obtain ⟨b', off', he, hc1'⟩ := Rd.at HV.out h1
    cases he
    have D1 : decide ((t : Int) + 1 < (xs.length : Int)) = true := by simp; omega
    have L1 : (t : Int) + 1 < (xs.length : Int) := by omega
    by_cases h2 : xs.getD (t + 1) 0 < xs.getD t 0
    · have HR := Lib.hid (redB_desc (os := p.orders) h1 h2)
      rw [hq] at h2
      obtain ⟨x, Hx⟩ := named (xs.getD (t + 1) 0)
      rw [Hx.out] at h2 hc1'
      have D2 : decide (x < (q : Int) + 1) = true := by simpa using h2
      clear hq
      go_enter Try.func48, Try.ntmps48
      go_wp2_with fail
      go_quiet (fail)
      go_wp2_with fail
      go_ret
      exact ⟨ret_bool HR.out.symm, by first | exact ⟨_, rfl⟩ | exact drewN_drewN _ _ _⟩
    · have HR := Lib.hid (redB_run (os := p.orders) (fun h => h2 h.2) hq HM.out)
      rw [hq] at h2
      obtain ⟨x, Hx⟩ := named (xs.getD (t + 1) 0)
      rw [Hx.out] at h2 hc1'
      have D2 : decide (x < (q : Int) + 1) = false := by simpa using h2
      have D3 : decide ((q : Int) + 1 > x) = false := by simpa using h2
      clear hq h2
      have W1 : IntKind.i64.wrap ((q : Int) + 1 - 1) = (q : Int) := by rw [IntWalk.i64_in _ (by omega)]; omega
      have L2 : (q : Int) < (p.orders.length : Int) := by omega
      have L3 : (0 : Int) ≤ (q : Int) := by omega
      go_enter Try.func48, Try.ntmps48
      go_wp2_with fail
      go_quiet (fail)
      clear D1 D2 D3 W0 hc1'
      go_wp2_with fail
      go_quiet (fail)
      clear W1 L2 L3
      have hm2 : 2 ≤ m ∧ m ≤ 7 := by omega
      have HVd := HV.out
      have HV2 := Lib.hid HVd
      clear HVd
      by_cases hle : t + m ≤ xs.length
      case neg =>
        have HN : Hid (redB p.orders xs t = false) := by
          show _ = _; rw [HR.out, decide_eq_false]; intro hc; have := ((runL_ge (Nat.le_of_lt ht)).1 hc).1; omega
        go_wp2_with fail
        go_ret
        exact ⟨ret_bool HN.out.symm, by first | exact ⟨_, rfl⟩ | exact drewN_drewN _ _ _⟩
      go_wp2_with fail
      go_loop [51] (fun i => ∃ k : Nat, k ≤ m ∧ i = .int .i64 k ∧ ∀ j, j < k → xs.getD (t + j) 0 = (q : Int) + 1) (fun i => m - (intOf i).toNat)
      case atStart => exact ⟨0, Nat.zero_le _, rfl, fun j hj => by omega⟩
      case round =>
        obtain ⟨k, hk, rfl, hall⟩ := hrel
        have HA := Lib.hid hall
        clear hall
        by_cases hkm : k < m
        · obtain ⟨b', off', he, hck⟩ := Rd.at HV2.out (show t + k < xs.length by omega)
          cases he
          obtain ⟨y, Hy⟩ := named (xs.getD (t + k) 0)
          rw [Hy.out, ← Nat.add_assoc] at hck
          by_cases hyq : y = (q : Int) + 1
          · have e1 : (y == (q : Int) + 1) = true := by simpa using hyq
            have e2 : (y != (q : Int) + 1) = false := by simpa using hyq
            have HX : Hid (∀ j, j < k + 1 → xs.getD (t + j) 0 = (q : Int) + 1) := fun j hj => by
              by_cases h : j = k
              · subst h; rw [Hy.out]; exact hyq
              · exact HA.out j (by omega)
            clear hyq
            go_wp2_with fail
            go_round
            case rel => exact ⟨k + 1, by omega, by go_num, HX.out⟩
            case measure => simp [intOf]; omega
          · have e1 : (y == (q : Int) + 1) = false := by simpa using hyq
            have e2 : (y != (q : Int) + 1) = true := by simpa using hyq
            have HN : Hid (redB p.orders xs t = false) := by
              show _ = _; rw [HR.out, decide_eq_false]; intro hc; have := ((runL_ge (Nat.le_of_lt ht)).1 hc).2 k hkm; rw [Hy.out, HQ.out] at this; exact hyq this
            clear hyq
            go_wp2_with fail
            go_ret
            exact ⟨ret_bool HN.out.symm, by first | exact ⟨_, rfl⟩ | exact drewN_drewN _ _ _⟩
        · obtain rfl : k = m := by omega
          have HN : Hid (redB p.orders xs t = true) := by
            show _ = _; rw [HR.out, decide_eq_true_iff]; exact (runL_ge (Nat.le_of_lt ht)).2 ⟨hle, fun j hj => by rw [HA.out j hj, HQ.out]⟩
          go_wp2_with fail
          go_ret
          exact ⟨ret_bool HN.out.symm, by first | exact ⟨_, rfl⟩ | exact drewN_drewN _ _ _⟩
  · have HR := Lib.hid (redB_run (os := p.orders) (fun h => h1 h.1) hq HM.out)
    have D1 : decide ((t : Int) + 1 < (xs.length : Int)) = false := by simp; omega
    clear hq
    have W1 : IntKind.i64.wrap ((q : Int) + 1 - 1) = (q : Int) := by rw [IntWalk.i64_in _ (by omega)]; omega
    have L2 : (q : Int) < (p.orders.length : Int) := by omega
    have L3 : (0 : Int) ≤ (q : Int) := by omega
    go_enter Try.func48, Try.ntmps48
    go_wp2_with fail
    go_quiet (fail)
    clear D1 W0
    go_wp2_with fail
    go_quiet (fail)
    clear W1 L2 L3
    have hm2 : 2 ≤ m ∧ m ≤ 7 := by omega
    have HVd := HV.out
    have HV2 := Lib.hid HVd
    clear HVd
    by_cases hle : t + m ≤ xs.length
    case neg =>
      have HN : Hid (redB p.orders xs t = false) := by
        show _ = _; rw [HR.out, decide_eq_false]; intro hc; have := ((runL_ge (Nat.le_of_lt ht)).1 hc).1; omega
      go_wp2_with fail
      go_ret
      exact ⟨ret_bool HN.out.symm, by first | exact ⟨_, rfl⟩ | exact drewN_drewN _ _ _⟩
    exfalso; omega
--== impl.reducibleAt
set_option maxHeartbeats 2000000 in
theorem i_reducibleAt (vp v : Value) (p : Pres) (xs : List Int) (w : World) (hp : PtrP w vp p) (hv : Rd w v xs) (hw : PosW p.n xs) (ho : primesB p.orders = true) (hx : xs.length ≤ 100000) :
    Calls Try.prog 23 #[vp, v] w (RetQuiet w (.int .i64 (firstR p.orders xs))) := by
  have HV := Lib.hid hv
  have HP := Lib.hid hp
  have HW := Lib.hid hw
  obtain ⟨ao, cap, rfl, hc1, hc2⟩ := hv.form
  clear hv hp hw
  go_enter Try.func23, Try.ntmps23
  go_wp2_with fail
  go_loopw [8] (fun i wr => ∃ k : Nat, k ≤ xs.length ∧ i = .int .i64 k ∧ (∀ i, i < k → redB p.orders xs i = false) ∧ ∃ n, wr = w.drewN n) (fun i _ => xs.length - (intOf i).toNat)
  case atStart => exact ⟨0, Nat.zero_le _, rfl, fun i hi => by omega, 0, rfl⟩
  case round =>
    obtain ⟨k, hk, rfl, hall, n, hn⟩ := hrel
    have HN := Lib.hid hn
    have HA := Lib.hid hall
    clear hn hall
    by_cases hlt : k < xs.length
    · have hv' : Rd wr (.slice ao xs.length cap) xs := by rw [HN.out]; exact HV.out
      have hp' : PtrP wr vp p := by rw [HN.out]; exact HP.out
      by_cases hr : redB p.orders xs k = true
      · have HF := Lib.hid (firstR_some hlt hr HA.out)
        go_wp2_with fail
        refine (i_reducible _ _ p xs k _ hp' hv' hlt HW.out ho hx).mono ?_
        rw [hr]
        rintro e w2 ⟨rfl, n2, rfl⟩
        go_wp2_with fail
        go_ret
        exact ⟨ret_int HF.out.symm, by rw [HN.out]; exact drewN_drewN _ _ _⟩
      · have hr' : redB p.orders xs k = false := by simpa using hr
        have HX : Hid (∀ i, i < k + 1 → redB p.orders xs i = false) := fun i hi => by
          by_cases h : i = k
          · subst h; exact hr'
          · exact HA.out i (by omega)
        clear hr
        go_wp2_with fail
        refine (i_reducible _ _ p xs k _ hp' hv' hlt HW.out ho hx).mono ?_
        rw [hr']
        rintro e w2 ⟨rfl, n2, rfl⟩
        clear hr'
        go_wp2_with fail
        go_roundw
        case rel => exact ⟨k + 1, by omega, by go_num, HX.out, by rw [HN.out]; exact drewN_drewN _ _ _⟩
        case measure => simp [intOf]; omega
    · obtain rfl : k = xs.length := by omega
      have HF := Lib.hid (firstR_none HA.out)
      go_wp2_with fail
      go_ret
      exact ⟨ret_int HF.out.symm, n, HN.out⟩
--== spec.l09Reducible
set_option maxHeartbeats 4000000 in
theorem s_l09Reducible (v1 v2 v3 v : Value) (p : Pres) (xs : List Int) (t : Nat) (w : World) (hp : RdP w v1 v2 v3 p) (hv : Rd w v xs) (ht : t < xs.length) (hw : PosW p.n xs) (ho : primesB p.orders = true) (hx : xs.length ≤ 100000) :
    Calls Try.prog 63 #[.agg #[v1, v2, v3], v, .int .i64 t] w (RetV w (.bool (redB p.orders xs t))) := by
  have HV := Lib.hid hv
  obtain ⟨hR, hR2, hR3⟩ := hp
  obtain ⟨aq, capq, rfl, hq1, hq2⟩ := hR.form
  obtain ⟨a2, cap2, rfl, _, _⟩ := hR2.form
  obtain ⟨a3, cap3, rfl, _, _⟩ := hR3.form
  obtain ⟨ao, cap, rfl, hc1, hc2⟩ := hv.form
  have g0 := below_alloc w (Obj.cells #[Value.slice aq p.orders.length capq, Value.slice a2 p.powers.length cap2, Value.slice a3 p.conj.length cap3] 28)
  have HVb := Lib.hid (hv.below g0)
  obtain ⟨b, off, rfl, hct⟩ := (hv.below g0).at ht
  obtain ⟨q, hq, hqn⟩ := hw t ht
  obtain ⟨bo, offo, rfl, hco⟩ := (hR.below g0).at (show q < p.orders.length from hqn)
  have hob := primesB_at ho (getD_mem (xs := p.orders) (k := q) hqn)
  obtain ⟨m, hm⟩ : ∃ m : Nat, p.orders.getD q 0 = (m : Int) := ⟨(p.orders.getD q 0).toNat, by omega⟩
  rw [hm] at hco hob
  have hqn' : q < p.orders.length := hqn
  have HQ := Lib.hid hq
  have HM := Lib.hid hm
  clear hv hR hR2 hR3 hw ho hm
  rw [hq] at hct
  have W0 : IntKind.i64.wrap ((t : Int) + 1) = (t : Int) + 1 := IntWalk.i64_in _ (by omega)
  have B0 := Bx.new w (Value.slice (some ⟨bo, offo, none⟩) p.orders.length capq) (Value.slice a2 p.powers.length cap2) (Value.slice a3 p.conj.length cap3)
  have m0 := B0.c0
  clear B0
  generalize hw0 : w.alloc (Obj.cells #[Value.slice (some ⟨bo, offo, none⟩) p.orders.length capq, Value.slice a2 p.powers.length cap2, Value.slice a3 p.conj.length cap3] 28) = w0 at *
  have HW0 := Lib.hid hw0
  clear hw0
  by_cases h1 : t + 1 < xs.length
  · obtain ⟨b', off', he, hc1'⟩ := Rd.at HVb.out h1
    cases he
    have D1 : decide ((t : Int) + 1 < (xs.length : Int)) = true := by simp; omega
    have L1 : (t : Int) + 1 < (xs.length : Int) := by omega
    by_cases h2 : xs.getD (t + 1) 0 < xs.getD t 0
    · have HR := Lib.hid (redB_desc (os := p.orders) h1 h2)
      rw [hq] at h2
      obtain ⟨x, Hx⟩ := named (xs.getD (t + 1) 0)
      rw [Hx.out] at h2 hc1'
      have D2 : decide (x < (q : Int) + 1) = true := by simpa using h2
      clear hq
      go_enter Try.func63, Try.ntmps63
      go_wp2_with fail
      rw [HW0.out]
      go_quiet (fail)
      go_wp2_with fail
      go_ret
      exact ⟨ret_bool HR.out.symm, below_drewN g0 _⟩
    have HR := Lib.hid (redB_run (os := p.orders) (fun h => h2 h.2) hq HM.out)
    rw [hq] at h2
    obtain ⟨x, Hx⟩ := named (xs.getD (t + 1) 0)
    rw [Hx.out] at h2 hc1'
    have D2 : decide (x < (q : Int) + 1) = false := by simpa using h2
    clear hq h2
    have W1 : IntKind.i64.wrap ((q : Int) + 1 - 1) = (q : Int) := by rw [IntWalk.i64_in _ (by omega)]; omega
    have L2 : (q : Int) < (p.orders.length : Int) := by omega
    have L3 : (0 : Int) ≤ (q : Int) := by omega
    go_enter Try.func63, Try.ntmps63
    go_wp2_with fail
    rw [HW0.out]
    go_quiet (fail)
    clear D2 W0 hc1'
    clear D1
    obtain ⟨w1, HW1⟩ : ∃ w1, Hid (w0.drewN nq = w1) := ⟨_, rfl⟩
    rw [HW1.out]
    have n0 : w1.cell? ⟨w.heap.size, 0, none⟩ = some (Value.slice (some ⟨bo, offo, none⟩) p.orders.length capq) := by rw [← HW1.out]; exact m0
    have nct : w1.cell? ⟨b, off + t, none⟩ = some (.int .i64 ((q : Int) + 1)) := by rw [← HW1.out]; exact hct
    have nco : w1.cell? ⟨bo, offo + q, none⟩ = some (.int .i64 (m : Int)) := by rw [← HW1.out]; exact hco
    have HV1 : Hid (Rd w1 (.slice (some ⟨b, off, none⟩) xs.length cap) xs) := by rw [← HW1.out]; exact HVb.out
    clear m0 hct hco
    go_wp2_with fail
    go_quiet ((go_at_call 71; exact Calls.quiet_of (s_l09Run _ xs t _ HV1.out ht)))
    clear W1 L2 L3
    go_wp2_with fail
    go_ret
    exact ⟨ret_bool (by rw [HR.out]), by rw [← HW1.out]; exact below_drewN (below_drewN g0 _) _⟩
  have HR := Lib.hid (redB_run (os := p.orders) (fun h => h1 h.1) hq HM.out)
  have D1 : decide ((t : Int) + 1 < (xs.length : Int)) = false := by simp; omega
  clear hq
  have W1 : IntKind.i64.wrap ((q : Int) + 1 - 1) = (q : Int) := by rw [IntWalk.i64_in _ (by omega)]; omega
  have L2 : (q : Int) < (p.orders.length : Int) := by omega
  have L3 : (0 : Int) ≤ (q : Int) := by omega
  go_enter Try.func63, Try.ntmps63
  go_wp2_with fail
  rw [HW0.out]
  go_quiet (fail)
  clear W0
  clear D1
  obtain ⟨w1, HW1⟩ : ∃ w1, Hid (w0.drewN nq = w1) := ⟨_, rfl⟩
  rw [HW1.out]
  have n0 : w1.cell? ⟨w.heap.size, 0, none⟩ = some (Value.slice (some ⟨bo, offo, none⟩) p.orders.length capq) := by rw [← HW1.out]; exact m0
  have nct : w1.cell? ⟨b, off + t, none⟩ = some (.int .i64 ((q : Int) + 1)) := by rw [← HW1.out]; exact hct
  have nco : w1.cell? ⟨bo, offo + q, none⟩ = some (.int .i64 (m : Int)) := by rw [← HW1.out]; exact hco
  have HV1 : Hid (Rd w1 (.slice (some ⟨b, off, none⟩) xs.length cap) xs) := by rw [← HW1.out]; exact HVb.out
  clear m0 hct hco
  go_wp2_with fail
  go_quiet ((go_at_call 71; exact Calls.quiet_of (s_l09Run _ xs t _ HV1.out ht)))
  clear W1 L2 L3
  go_wp2_with fail
  go_ret
  exact ⟨ret_bool (by rw [HR.out]), by rw [← HW1.out]; exact below_drewN (below_drewN g0 _) _⟩
--== spec.l09At
set_option maxHeartbeats 2000000 in
theorem s_l09At (v1 v2 v3 v : Value) (p : Pres) (xs : List Int) (w : World) (hp : RdP w v1 v2 v3 p) (hv : Rd w v xs) (hw : PosW p.n xs) (ho : primesB p.orders = true) (hx : xs.length ≤ 100000) :
    Calls Try.prog 53 #[.agg #[v1, v2, v3], v] w (RetV w (.int .i64 (firstR p.orders xs))) := by
  have HV := Lib.hid hv
  have HP := Lib.hid hp
  have HW := Lib.hid hw
  obtain ⟨a1, c1, rfl, _, _⟩ := hp.1.form
  obtain ⟨a2, c2, rfl, _, _⟩ := hp.2.1.form
  obtain ⟨a3, c3, rfl, _, _⟩ := hp.2.2.form
  obtain ⟨ao, cap, rfl, hc1, hc2⟩ := hv.form
  have g0 := below_alloc w (Obj.cells #[Value.slice a1 p.orders.length c1, Value.slice a2 p.powers.length c2, Value.slice a3 p.conj.length c3] 28)
  have B0 := Bx.new w (Value.slice a1 p.orders.length c1) (Value.slice a2 p.powers.length c2) (Value.slice a3 p.conj.length c3)
  clear hv hp hw
  go_enter Try.func53, Try.ntmps53
  go_wp2_with fail
  go_loopw [5] (fun i wr => ∃ k : Nat, k ≤ xs.length ∧ i = .int .i64 k ∧ (∀ i, i < k → redB p.orders xs i = false) ∧ Below w.heap.size w wr ∧ Bx wr w.heap.size (Value.slice a1 p.orders.length c1) (Value.slice a2 p.powers.length c2) (Value.slice a3 p.conj.length c3)) (fun i _ => xs.length - (intOf i).toNat)
  case atStart => exact ⟨0, Nat.zero_le _, rfl, fun i hi => by omega, g0, B0⟩
  case round =>
    clear B0 g0
    obtain ⟨k, hk, rfl, hall, hB, hX⟩ := hrel
    have HA := Lib.hid hall
    have m0 := hX.c0
    have m1 := hX.c1
    have m2 := hX.c2
    clear hall
    by_cases hlt : k < xs.length
    · by_cases hr : redB p.orders xs k = true
      · have HF := Lib.hid (firstR_some hlt hr HA.out)
        go_wp2_with fail
        refine (s_l09Reducible _ _ _ _ p xs k _ (HP.out.below hB) (Rd.below HV.out hB) hlt HW.out ho hx).mono ?_
        rw [hr]
        rintro e w2 ⟨rfl, hB2⟩
        go_wp2_with fail
        go_ret
        exact ⟨ret_int HF.out.symm, below_size hB hB2⟩
      · have hr' : redB p.orders xs k = false := by simpa using hr
        have HX : Hid (∀ i, i < k + 1 → redB p.orders xs i = false) := fun i hi => by
          by_cases h : i = k
          · subst h; exact hr'
          · exact HA.out i (by omega)
        clear hr
        go_wp2_with fail
        refine (s_l09Reducible _ _ _ _ p xs k _ (HP.out.below hB) (Rd.below HV.out hB) hlt HW.out ho hx).mono ?_
        rw [hr']
        rintro e w2 ⟨rfl, hB2⟩
        have hB3 := below_size hB hB2
        have hX2 := hX.below hB2 hX.lt
        clear hr' hB hX hB2 m0 m1 m2
        go_wp2_with fail
        go_roundw
        case rel => exact ⟨k + 1, by omega, by go_num, HX.out, hB3, hX2⟩
        case measure => simp [intOf]; omega
    · obtain rfl : k = xs.length := by omega
      have HF := Lib.hid (firstR_none HA.out)
      go_wp2_with fail
      go_ret
      exact ⟨ret_int HF.out.symm, hB⟩
end Go.Proofs.Ytiikoappknejgaa
namespace Go.Proofs.Ytiikoappknejgaa
set_option linter.unusedVariables false
set_option linter.unusedSimpArgs false
set_option maxRecDepth 100000
open Go.RowKit

--== impl.positiveWord
set_option maxHeartbeats 800000 in
theorem i_positiveWord (vp v : Value) (p : Pres) (xs : List Int) (w : World) (hp : PtrP w vp p) (hv : Rd w v xs) (hn : p.n ≤ 1000) :
    Calls Try.prog 22 #[vp, v] w fun e w' => e = .returned (.bool (posB p.n xs)) ∧ w = w' := by
  obtain ⟨pb, v1, v2, v3, rfl, hp1, hp2, hp3, hR, _, _⟩ := hp
  clear hp2 hp3
  obtain ⟨aq, capq, rfl, _, _⟩ := hR.form
  have HV := Lib.hid hv
  obtain ⟨ao, cap, rfl, hc1, hc2⟩ := hv.form
  have hn' : p.orders.length ≤ 1000 := hn
  have HN : Hid (p.orders.length = p.n) := rfl
  clear hv hR
  go_enter Try.func22, Try.ntmps22
  go_wp2
  go_loop [9] (fun i => ∃ j : Nat, j ≤ xs.length ∧ i = .int .i64 j ∧ posB p.n (xs.take j) = true) (fun i => xs.length - (intOf i).toNat)
  case atStart => exact ⟨0, Nat.zero_le _, rfl, rfl⟩
  case round =>
    obtain ⟨j, hj, rfl, hall⟩ := hrel
    have HA := Lib.hid hall
    clear hall
    by_cases hlt : j < xs.length
    · obtain ⟨b, off, rfl, hcell⟩ := Rd.at HV.out hlt
      have HS : Hid (posB p.n (xs.take (j + 1)) = (posB p.n (xs.take j) && inB (xs.getD j 0) 1 p.n)) := all_take_succ _ xs j hlt
      have HF := Lib.hid (fun h => posB_false (n := p.n) hlt h)
      generalize xs.getD j 0 = x at *
      by_cases hin : inB x 1 p.n = true
      · go_wp2_with (go_at_call 28; refine (i_inside _ _ _ _).mono ?_; rintro e w' ⟨rfl, rfl⟩; rw [show inB x 1 (p.orders.length : Int) = true from hin])
        go_round
        case rel => exact ⟨j + 1, by omega, by go_num, by rw [HS.out, HA.out, hin]; rfl⟩
        case measure => simp [intOf]; omega
      · have hin' : inB x 1 p.n = false := by simpa using hin
        clear hin
        go_wp2_with (go_at_call 28; refine (i_inside _ _ _ _).mono ?_; rintro e w' ⟨rfl, rfl⟩; rw [show inB x 1 (p.orders.length : Int) = false from hin'])
        go_ret
        exact ⟨ret_bool (HF.out hin').symm, rfl⟩
    · obtain rfl : j = xs.length := by omega
      have HX : Hid (posB p.n xs = true) := by have := HA.out; rwa [List.take_length] at this
      go_wp2
      go_ret
      exact ⟨ret_bool HX.out.symm, rfl⟩
--== plain (posM)
def posM (n : Nat) (xs : List Int) (m : Nat) : Bool := posB n xs && decide (xs.length ≤ m)
theorem posM_len {n : Nat} {xs : List Int} {m : Nat} (h : ¬ xs.length ≤ m) : posM n xs m = false := by simp [posM, h]
theorem posM_in {n : Nat} {xs : List Int} {m : Nat} (h : xs.length ≤ m) : posM n xs m = posB n xs := by simp [posM, h]
--== spec.l09Positive
set_option maxHeartbeats 800000 in
theorem s_l09Positive (n : Nat) (v : Value) (xs : List Int) (m : Nat) (w : World) (hv : Rd w v xs) (hn : n ≤ 1000) (hm : m ≤ 100000) :
    Calls Try.prog 30 #[.int .i64 n, v, .int .i64 m] w fun e w' => e = .returned (.bool (posM n xs m)) ∧ w = w' := by
  have HV := Lib.hid hv
  obtain ⟨ao, cap, rfl, hc1, hc2⟩ := hv.form
  clear hv
  by_cases hl : xs.length ≤ m
  case neg =>
    have HX := Lib.hid (posM_len (n := n) hl)
    go_enter Try.func30, Try.ntmps30
    go_wp2
    go_ret
    exact ⟨ret_bool HX.out.symm, rfl⟩
  have HX := Lib.hid (posM_in (n := n) hl)
  have D0 : decide (m < xs.length) = false := by simp; omega
  go_enter Try.func30, Try.ntmps30
  go_wp2
  go_loop [7] (fun i => ∃ j : Nat, j ≤ xs.length ∧ i = .int .i64 j ∧ posB n (xs.take j) = true) (fun i => xs.length - (intOf i).toNat)
  case atStart => exact ⟨0, Nat.zero_le _, rfl, rfl⟩
  case round =>
    obtain ⟨j, hj, rfl, hall⟩ := hrel
    have HA := Lib.hid hall
    clear hall
    by_cases hlt : j < xs.length
    · obtain ⟨b, off, rfl, hcell⟩ := Rd.at HV.out hlt
      have HS : Hid (posB n (xs.take (j + 1)) = (posB n (xs.take j) && inB (xs.getD j 0) 1 n)) := all_take_succ _ xs j hlt
      have HF := Lib.hid (fun h => posB_false (n := n) hlt h)
      generalize xs.getD j 0 = x at *
      by_cases hin : inB x 1 n = true
      · go_wp2_with (go_at_call 31; refine (s_l01In _ _ _ _).mono ?_; rintro e w' ⟨rfl, rfl⟩; rw [hin])
        go_round
        case rel => exact ⟨j + 1, by omega, by go_num, by rw [HS.out, HA.out, hin]; rfl⟩
        case measure => simp [intOf]; omega
      · have hin' : inB x 1 n = false := by simpa using hin
        clear hin
        go_wp2_with (go_at_call 31; refine (s_l01In _ _ _ _).mono ?_; rintro e w' ⟨rfl, rfl⟩; rw [hin'])
        go_ret
        exact ⟨ret_bool (by rw [HX.out, HF.out hin']), rfl⟩
    · obtain rfl : j = xs.length := by omega
      have HX2 : Hid (posB n xs = true) := by have := HA.out; rwa [List.take_length] at this
      go_wp2
      go_ret
      exact ⟨ret_bool (by rw [HX.out, HX2.out]), rfl⟩
--== normal
def posV (p : Pres) (xs : List Int) : Bool := validB p && posM p.n xs 64
def norB (p : Pres) (xs : List Int) : Bool := posV p xs && decide (firstR p.orders xs < 0)
--== impl.IsNormalWord
set_option maxHeartbeats 4000000 in
theorem i_IsNormalWord (v1 v2 v3 : Value) (p : Pres) (v : Value) (xs : List Int) (w : World) (hp : RdP w v1 v2 v3 p) (hv : Rd w v xs) :
    Calls Try.prog 14 #[.agg #[v1, v2, v3], v] w (RetV w (.bool (norB p xs))) := by
  have HP := Lib.hid hp
  have HV := Lib.hid hv
  obtain ⟨ao1, cap1, rfl, _, _⟩ := hp.1.form
  obtain ⟨ao2, cap2, rfl, _, _⟩ := hp.2.1.form
  obtain ⟨ao3, cap3, rfl, _, _⟩ := hp.2.2.form
  obtain ⟨ao, cap, rfl, hc1, hc2⟩ := hv.form
  have g0 := below_alloc w (Obj.cells #[Value.slice ao1 p.orders.length cap1, Value.slice ao2 p.powers.length cap2, Value.slice ao3 p.conj.length cap3] 28)
  have B0 := Bx.new w (Value.slice ao1 p.orders.length cap1) (Value.slice ao2 p.powers.length cap2) (Value.slice ao3 p.conj.length cap3)
  clear hp hv
  by_cases hV : validB p = true
  case neg =>
    have hV' : validB p = false := by simpa using hV
    have HX : Hid (norB p xs = false) := by show _ = _; simp [norB, posV, hV']
    clear hV
    go_enter Try.func14, Try.ntmps14
    go_wp2_with fail
    refine (i_IsPresentation _ _ _ p _ (HP.out.below g0)).mono ?_
    rintro e w1 ⟨rfl, hb⟩
    have g1 := below_size g0 hb
    have B1 := B0.below hb (by simp)
    rw [hV']
    clear hb hV'
    go_wp2_with fail
    go_ret
    exact ⟨ret_bool HX.out.symm, g1⟩
  have HVd := Lib.hid (validB_true.1 hV)
  have hn6 : p.orders.length ≤ 6 := HVd.out.n6
  have HVt := Lib.hid hV
  by_cases hP : posB p.n xs = true
  case neg =>
    have hP' : posB p.n xs = false := by simpa using hP
    have HX : Hid (norB p xs = false) := by show _ = _; simp [norB, posV, posM, hP']
    clear hP
    go_enter Try.func14, Try.ntmps14
    go_wp2_with fail
    refine (i_IsPresentation _ _ _ p _ (HP.out.below g0)).mono ?_
    rintro e w1 ⟨rfl, hb⟩
    have g1 := below_size g0 hb
    have B1 := B0.below hb (by simp)
    rw [hV]
    have PT := B1.ptr (HP.out.below g1)
    clear hb hV
    go_wp2_with fail
    refine (i_positiveWord _ _ p xs _ PT (Rd.below HV.out g1) (by unfold Pres.n; omega)).mono ?_
    rintro e w' ⟨rfl, rfl⟩
    rw [hP']
    go_wp2_with fail
    go_ret
    exact ⟨ret_bool HX.out.symm, g1⟩
  have HPw := Lib.hid hP
  by_cases hl : xs.length ≤ 64
  case neg =>
    have HX : Hid (norB p xs = false) := by show _ = _; simp [norB, posV, posM, hl]
    go_enter Try.func14, Try.ntmps14
    go_wp2_with fail
    refine (i_IsPresentation _ _ _ p _ (HP.out.below g0)).mono ?_
    rintro e w1 ⟨rfl, hb⟩
    have g1 := below_size g0 hb
    have B1 := B0.below hb (by simp)
    rw [hV]
    have PT := B1.ptr (HP.out.below g1)
    clear hb hV
    go_wp2_with fail
    refine (i_positiveWord _ _ p xs _ PT (Rd.below HV.out g1) (by unfold Pres.n; omega)).mono ?_
    rintro e w' ⟨rfl, rfl⟩
    rw [hP]
    clear hP
    go_wp2_with fail
    go_ret
    exact ⟨ret_bool HX.out.symm, g1⟩
  have HX : Hid (norB p xs = decide (firstR p.orders xs < 0)) := by show _ = _; simp [norB, posV, posM, hl, HVt.out, HPw.out]
  go_enter Try.func14, Try.ntmps14
  go_wp2_with fail
  refine (i_IsPresentation _ _ _ p _ (HP.out.below g0)).mono ?_
  rintro e w1 ⟨rfl, hb⟩
  have g1 := below_size g0 hb
  have B1 := B0.below hb (by simp)
  rw [hV]
  have PT := B1.ptr (HP.out.below g1)
  clear hb hV
  go_wp2_with fail
  refine (i_positiveWord _ _ p xs _ PT (Rd.below HV.out g1) (by unfold Pres.n; omega)).mono ?_
  rintro e w' ⟨rfl, rfl⟩
  rw [hP]
  clear hP
  go_wp2_with fail
  refine (i_reducibleAt _ _ p xs _ PT (Rd.below HV.out g1) (posB_true HPw.out) (ordB_true HVd.out.ord).1 (by omega)).mono ?_
  rintro e w2 ⟨rfl, n, rfl⟩
  generalize firstR p.orders xs = f at *
  go_wp2_with fail
  go_ret
  exact ⟨ret_bool HX.out.symm, below_drewN g1 _⟩
end Go.Proofs.Ytiikoappknejgaa
