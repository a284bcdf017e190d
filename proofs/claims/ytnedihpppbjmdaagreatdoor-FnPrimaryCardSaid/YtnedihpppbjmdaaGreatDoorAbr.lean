/-
  Drawn abelian groups, some of them none.
-/
import Derived.Test.YtnedihpppbjmdaaGreatDoorAbq
namespace Go.Proofs.YtnedihpppbjmdaaGreatDoor
set_option linter.unusedVariables false
set_option linter.unusedSimpArgs false
set_option maxRecDepth 100000
open Go.RowKit

--== spec.l05Draw
set_option maxHeartbeats 16000000 in
theorem s_l05Draw {w0 : World} {vc : Value} {nc b : Nat} (w : World) (h : Src w0 vc nc b w) : Calls Tryz.prog 29 #[.pointer (some ⟨b, 0, none⟩)] w (GrpP w0 vc nc b 10 2000000 w) := by
  obtain ⟨i0, hi, hz0, hz1, hz2⟩ := info_parts Tryz.info2
  have hb := h.lt
  have HS0 : Hid (Src w0 vc nc b (w.alloc (.cells #[.slice none 0 0, .int .i64 0] 26))) := h.below (below_alloc w _)
  have HNX : Hid (∀ (m : Int) (wx : World), Src w0 vc nc b wx → -1000 ≤ m → m ≤ 1000 → Calls Tryz.prog 28 #[.pointer (some ⟨b, 0, none⟩), .int .i64 m] wx (Nxt w0 vc nc b wx m)) := fun m wx hs h1 h2 => s_l01Next wx hs m (by omega) (by omega)
  clear h
  go_enter Tryz.func29, Tryz.ntmps29
  go_wp2_with fail
  refine (s_l05Good _ HS0.out).mono ?_
  rintro e w1 ⟨v, fs, r, rfl, hfl, hfs, hr1, hr2, hI1, hS1, hC1⟩
  rw [show (w.alloc (.cells #[.slice none 0 0, .int .i64 0] 26)).heap.size = w.heap.size + 1 by simp] at hI1
  have hA : AB w0 vc nc b w w1.heap.size fs r v (w1.alloc (.cells #[v, .int .i64 r] 26)) := by
    have hr0 : B2 w1 w.heap.size (.slice none 0 0) (.int .i64 0) := (hC1.block _ (by simp) (by omega)).trans (B2.new w _ _)
    have hs : w.heap.size + 1 ≤ w1.heap.size := by have := hr0.lt; omega
    exact ⟨hS1.below (below_alloc _ _), B2.new w1 _ _, hI1.below (below_alloc _ _), fun e => by have := (hI1.lt _ e).2; omega, hr0.alloc _, ((Chg.of_below (below_alloc w _) b (b + 1)).tr hC1).bel (below_alloc _ _), hb, hs⟩
  obtain ⟨av, cv, hv⟩ := hA.len
  obtain ⟨nv, hnv⟩ : ∃ n, fs.length = n := ⟨_, rfl⟩
  rw [hnv] at hv hfl
  have HNV := Lib.hid hnv
  subst hv
  have HA := Lib.hid hA
  have HFS := Lib.hid hfs
  obtain ⟨ba, hba⟩ : ∃ x, x = w1.heap.size := ⟨_, rfl⟩
  rw [← hba] at HA
  clear hnv hfs hI1 hS1 hC1 hA HS0
  go_wp2_with fail
  rw [← hba]
  generalize w1.alloc (.cells #[.slice av nv cv, .int .i64 r] 26) = wa at *
  clear hba
  refine (HNX.out 30 _ HA.out.src (by omega) (by omega)).mono ?_
  rintro e w2 ⟨r2, rfl, r20, r21, hS2, hC2⟩
  have HA2 := Lib.hid (HA.out.next hS2 hC2)
  have hsz := HA2.out.sz
  have hbl := HA2.out.bx.lt
  clear hS2 hC2 HA
  by_cases h0 : r2 = 0
  · subst h0
    have hI := HA2.out.own
    have c0 := HA2.out.bx.c0
    go_wp2_with (at_builtin; refine wp_app1 _ rfl _ _ rfl (w.heap.size + 1) i0 Tryz.underlying24 hi hz0 hz1 hz2 _ _ rfl hI (1 : Int) rfl (by rw [nI_length, HNV.out]; omega) hsz ?_)
    intro v9 w9 hI9 hG9 hB9
    have hI10 : Ints w9 (w.heap.size + 1) v9 (nI (fs ++ [1])) := by rw [nI_snoc]; exact hI9
    obtain ⟨a9, p9, rfl, _, _⟩ := rd_formN hI10.rd (n := nv + 1) (by rw [nI_length, List.length_append, HNV.out]; rfl)
    obtain ⟨hA9, c9, f9⟩ := HA2.out.grow hI10 hG9
    have HAF := Lib.hid hA9
    have c9x := hA9.bx.c1
    clear hI9 hG9 hB9 hI10 hA9 hI c0
    obtain ⟨q0, q1, q2, q3⟩ := HAF.out.done
    have HQ := Lib.hid (And.intro q1 (And.intro q2 q3))
    have c0 := HAF.out.bx.c0
    have c1 := HAF.out.bx.c1
    have z0 := HAF.out.res.c0
    have z1 := HAF.out.res.c1
    have f0 := HAF.out.res.f 0
    have f1 := HAF.out.res.f 1
    have p0 := q0.c0
    have p1 := q0.c1
    clear q0 q1 q2 q3
    go_wp2_with fail
    refine bodyPost_ret (v := .agg #[.slice a9 (nv + 1) p9, .int .i64 r]) (by simp [results, Tryz.results29, go_sem, p0, p1]) rfl ?_
    exact ⟨_, fs ++ [1], _, rfl, by rw [List.length_append, HNV.out]; simp; omega, fun f hf => by
            rcases List.mem_append.1 hf with h1 | h1
            · have := HFS.out f h1; omega
            · rw [List.mem_singleton.1 h1]; omega, hr1, hr2, HQ.out⟩
  by_cases h1 : r2 = 1
  · subst h1
    have hI := HA2.out.own
    have c0 := HA2.out.bx.c0
    go_wp2_with (at_builtin; refine wp_app1 _ rfl _ _ rfl (w.heap.size + 1) i0 Tryz.underlying24 hi hz0 hz1 hz2 _ _ rfl hI (7 : Int) rfl (by rw [nI_length, HNV.out]; omega) hsz ?_)
    intro v9 w9 hI9 hG9 hB9
    have hI10 : Ints w9 (w.heap.size + 1) v9 (nI (fs ++ [7])) := by rw [nI_snoc]; exact hI9
    obtain ⟨a9, p9, rfl, _, _⟩ := rd_formN hI10.rd (n := nv + 1) (by rw [nI_length, List.length_append, HNV.out]; rfl)
    obtain ⟨hA9, c9, f9⟩ := HA2.out.grow hI10 hG9
    have HAF := Lib.hid hA9
    have c9x := hA9.bx.c1
    clear hI9 hG9 hB9 hI10 hA9 hI c0
    obtain ⟨q0, q1, q2, q3⟩ := HAF.out.done
    have HQ := Lib.hid (And.intro q1 (And.intro q2 q3))
    have c0 := HAF.out.bx.c0
    have c1 := HAF.out.bx.c1
    have z0 := HAF.out.res.c0
    have z1 := HAF.out.res.c1
    have f0 := HAF.out.res.f 0
    have f1 := HAF.out.res.f 1
    have p0 := q0.c0
    have p1 := q0.c1
    clear q0 q1 q2 q3
    go_wp2_with fail
    refine bodyPost_ret (v := .agg #[.slice a9 (nv + 1) p9, .int .i64 r]) (by simp [results, Tryz.results29, go_sem, p0, p1]) rfl ?_
    exact ⟨_, fs ++ [7], _, rfl, by rw [List.length_append, HNV.out]; simp; omega, fun f hf => by
            rcases List.mem_append.1 hf with h1 | h1
            · have := HFS.out f h1; omega
            · rw [List.mem_singleton.1 h1]; omega, hr1, hr2, HQ.out⟩
  by_cases h2 : r2 = 2
  · subst h2
    have c0 := HA2.out.bx.c0
    have W1 : IntKind.i64.wrap (10 - (nv : Int)) = 10 - (nv : Int) := IntWalk.i64_in _ (by omega)
    have HNX1 : Hid (∀ wx, Below w2.heap.size w2 wx → Calls Tryz.prog 28 #[.pointer (some ⟨b, 0, none⟩), .int .i64 4] wx fun e w' => ∃ q : Nat, q < 4 ∧ e = .returned (.int .i64 (q : Int)) ∧ AB w0 vc nc b w ba fs r (.slice av nv cv) w' ∧ Chg b (b + 1) wx w') := fun wx hx => (HNX.out 4 wx (HA2.out.bel hx).src (by omega) (by omega)).mono fun e w' ⟨r, he, h0, h1, hS, hC⟩ => ⟨r.toNat, by omega, by rw [he, Int.toNat_of_nonneg h0], (HA2.out.bel hx).next hS hC, hC⟩
    have HLC : Hid (∀ w6 q, q < 4 → Chg b (b + 1) (w2.alloc (.cells #[.int .i64 (-1), .int .i64 10, .int .i64 11, .int .i64 (10 - (nv : Int))] 2)).drew w6 → ∃ x : Int, w6.cell? ⟨w2.heap.size, q, none⟩ = some (.int .i64 x) ∧ -1 ≤ x ∧ x ≤ 11) := fun w6 q hq hC => by
      have h1 := hC.block w2.heap.size (by show w2.heap.size < (w2.alloc (.cells #[.int .i64 (-1), .int .i64 10, .int .i64 11, .int .i64 (10 - (nv : Int))] 2)).heap.size; simp) (by have := HA2.out.hb; omega)
      have h2 : ∃ x : Int, (w2.alloc (.cells #[.int .i64 (-1), .int .i64 10, .int .i64 11, .int .i64 (10 - (nv : Int))] 2)).cell? ⟨w2.heap.size, q, none⟩ = some (.int .i64 x) ∧ -1 ≤ x ∧ x ≤ 11 := by
        rcases (show q = 0 ∨ q = 1 ∨ q = 2 ∨ q = 3 by omega) with rfl | rfl | rfl | rfl
        · exact ⟨-1, by simp, by omega, by omega⟩
        · exact ⟨10, by simp, by omega, by omega⟩
        · exact ⟨11, by simp, by omega, by omega⟩
        · exact ⟨10 - (nv : Int), by simp, by omega, by omega⟩
      obtain ⟨x, h3, h4⟩ := h2
      exact ⟨x, (World.cell?_of_block h1).trans h3, h4⟩
    have HLD : Hid (∀ (w6 : World) (q : Nat), q < 4 → ∃ x : Int, (w6.alloc (.cells #[.int .i64 (-1), .int .i64 10, .int .i64 11, .int .i64 (10 - (nv : Int))] 2)).cell? ⟨w6.heap.size, q, none⟩ = some (.int .i64 x) ∧ -1 ≤ x ∧ x ≤ 11) := fun w6 q hq => by
      rcases (show q = 0 ∨ q = 1 ∨ q = 2 ∨ q = 3 by omega) with rfl | rfl | rfl | rfl
      · exact ⟨-1, by simp, by omega, by omega⟩
      · exact ⟨10, by simp, by omega, by omega⟩
      · exact ⟨11, by simp, by omega, by omega⟩
      · exact ⟨10 - (nv : Int), by simp, by omega, by omega⟩
    have HNVL : Hid (nv ≤ 9) := hfl
    clear hfl
    go_upto_region 8 with (fail)
    go_region_law (first
      | (go_simp; go_at_call 28; (with_reducible refine (HNX1.out _ (below_alloc _ _).drew).mono ?_); (rintro e w6 ⟨q, hq, rfl, hA6, hC6⟩); (obtain ⟨x, q6, hx1, hx2⟩ := HLC.out w6 q hq hC6); (have hq1 : (q : Int) < 4 := by omega); (have hq2 : (0 : Int) ≤ (q : Int) := by omega); (obtain ⟨W, hW⟩ : ∃ W, W = w6.setCell ⟨ba, 1, none⟩ (.int .i64 x) := ⟨_, rfl⟩); (have HA6 := Lib.hid (hA6.setR x)); (rw [← hW] at HA6); (have c6 := hA6.bx.c0); (have c7 := hA6.bx.c1); (have g7 := hA6.bx.f 1); (have s6 := hA6.bx.lt))
      | (go_simp; go_at_call 28; (with_reducible refine (HNX1.out _ (Below.refl _ _).drew).mono ?_); (rintro e w6 ⟨q, hq, rfl, hA6, hC6⟩); (obtain ⟨x, q6, hx1, hx2⟩ := HLD.out w6 q hq); (have hq1 : (q : Int) < 4 := by omega); (have hq2 : (0 : Int) ≤ (q : Int) := by omega); (have hA7 := hA6.bel (below_alloc w6 (.cells #[.int .i64 (-1), .int .i64 10, .int .i64 11, .int .i64 (10 - (nv : Int))] 2))); (obtain ⟨W, hW⟩ : ∃ W, W = (w6.setCell ⟨ba, 1, none⟩ (.int .i64 x)).alloc (.cells #[.int .i64 (-1), .int .i64 10, .int .i64 11, .int .i64 (10 - (nv : Int))] 2) := ⟨_, rfl⟩); (have HA6 := Lib.hid (hA7.setR x)); (rw [World.setCell_alloc_past _ _ _ _ hA6.bx.lt, ← hW] at HA6); (have c6 := hA6.bx.c0); (have c7 := hA6.bx.c1); (have g7 := hA6.bx.f 1); (have s6 := hA6.bx.lt)))
    all_goals
      have HAF := HA6
      clear HA6 hA6 c6 c7 g7 q6 HNX1 HLC HLD c0
      go_upto_region 13 with (fail)
      rw [← hW]
      clear hW
      obtain ⟨q0, q1, q2, q3⟩ := HAF.out.done
      have HQ := Lib.hid (And.intro q1 (And.intro q2 q3))
      have c0 := HAF.out.bx.c0
      have c1 := HAF.out.bx.c1
      have z0 := HAF.out.res.c0
      have z1 := HAF.out.res.c1
      have f0 := HAF.out.res.f 0
      have f1 := HAF.out.res.f 1
      have p0 := q0.c0
      have p1 := q0.c1
      clear q0 q1 q2 q3
      go_wp2_with fail
      refine bodyPost_ret (v := .agg #[.slice av nv cv, .int .i64 x]) (by simp [results, Tryz.results29, go_sem, p0, p1]) rfl ?_
      exact ⟨_, fs, _, rfl, by rw [HNV.out]; have := HNVL.out; omega, fun f hf => by have := HFS.out f hf; omega, hx1, hx2, HQ.out⟩
  by_cases h3 : r2 = 3
  · subst h3
    have c0 := HA2.out.bx.c0
    have g0 := HA2.out.bx.f 0
    have hE : AB w0 vc nc b w ba fs r (.slice av nv cv) ((w2.alloc (.cells #[] 2)).alloc (.cells #[.int .i64 1000000, .int .i64 2000000] 2)) := (HA2.out.bel (below_alloc _ _)).bel (below_alloc _ _)
    have hIe : Ints ((w2.alloc (.cells #[] 2)).alloc (.cells #[.int .i64 1000000, .int .i64 2000000] 2)) (w.heap.size + 1) (.slice (some ⟨w2.heap.size, 0, none⟩) 0 0) [] := ((Ints.empty w2).mono hsz).below (below_alloc _ _)
    have hrd2 := Rd.litI (w2.alloc (.cells #[] 2)) [1000000, 2000000] (by simp)
    rw [show (w2.alloc (.cells #[] 2)).heap.size = w2.heap.size + 1 by simp] at hrd2
    obtain ⟨v8, w8, hr8, hI8, hG8⟩ := run_appG _ 24 _ _ _ hIe _ _ hrd2 (by simp) (by simp) hE.sz
    have hI9 : Ints w8 (w.heap.size + 1) v8 (nI [1000000, 2000000]) := hI8
    obtain ⟨a9, p9, rfl, _, _⟩ := rd_formN hI9.rd (n := 2) rfl
    have hb8 : Below (w.heap.size + 1) ((w2.alloc (.cells #[] 2)).alloc (.cells #[.int .i64 1000000, .int .i64 2000000] 2)) w8 := hG8.below hE.sz fun g hg => (hIe.lt g hg).1
    have hx8 : B2 w8 ba (.slice av nv cv) (.int .i64 r) := (hG8.grown.block ba hE.bx.lt (fun e => by simp [Value.ownBlock] at e; omega)).trans hE.bx
    have hne8 : ¬ (Value.slice a9 2 p9).ownBlock = some ba := fun e => by
      rcases hG8.moved ba e with h1 | h1
      · simp [Value.ownBlock] at h1; omega
      · have := hE.bx.lt; omega
    have hA8 : AB w0 vc nc b w ba [1000000, 2000000] r (.slice a9 2 p9) (w8.setCell ⟨ba, 0, none⟩ (.slice a9 2 p9)) := hE.re (hb8.trans (below_setCell w8 hE.hba 0 _)) (hx8.set0 _) (own_of_block hI9 fun g hg => heap_setCell_other w8 ⟨ba, 0, none⟩ g _ (fun e => hne8 (by rw [show ba = g from e.symm]; exact hg))) hne8
    have HAF := Lib.hid hA8
    have k0 := hx8.c0
    have k1 := hx8.f 0
    clear hE hIe hrd2 hI8 hG8 hI9 hb8 hx8 hA8 hne8
    go_upto_region 13 with (at_builtin; refine wp_of_run _ rfl _ _ _ rfl _ _ rfl rfl _ _ hr8 ?_)
    clear hr8 c0 g0 k0 k1
    generalize w8.setCell ⟨ba, 0, none⟩ (.slice a9 2 p9) = w12 at *
    obtain ⟨q0, q1, q2, q3⟩ := HAF.out.done
    have HQ := Lib.hid (And.intro q1 (And.intro q2 q3))
    have c0 := HAF.out.bx.c0
    have c1 := HAF.out.bx.c1
    have z0 := HAF.out.res.c0
    have z1 := HAF.out.res.c1
    have f0 := HAF.out.res.f 0
    have f1 := HAF.out.res.f 1
    have p0 := q0.c0
    have p1 := q0.c1
    clear q0 q1 q2 q3
    go_wp2_with fail
    refine bodyPost_ret (v := .agg #[.slice a9 2 p9, .int .i64 r]) (by simp [results, Tryz.results29, go_sem, p0, p1]) rfl ?_
    exact ⟨_, [1000000, 2000000], _, rfl, by simp, fun f hf => by simp at hf; omega, hr1, hr2, HQ.out⟩
  by_cases h4 : r2 = 4
  · subst h4
    have hL : Ints (w2.alloc (.cells #[.int .i64 0] 2)) (w.heap.size + 1) (.slice (some ⟨w2.heap.size, 0, none⟩) 1 1) (nI [0]) := (Ints.litA w2 0).mono hsz
    have hA4 := HA2.out.bel (below_alloc w2 (.cells #[.int .i64 0] 2))
    have c0 := HA2.out.bx.c0
    have g0 := HA2.out.bx.f 0
    have hne : ¬ (Value.slice (some ⟨w2.heap.size, 0, none⟩) 1 1).ownBlock = some ba := by simp [Value.ownBlock]; omega
    have HAF := Lib.hid (hA4.set0 (fs9 := [0]) hL hne)
    have E : (w2.alloc (.cells #[.int .i64 0] 2)).setCell ⟨ba, 0, none⟩ (.slice (some ⟨w2.heap.size, 0, none⟩) 1 1) = (w2.setCell ⟨ba, 0, none⟩ (.slice (some ⟨w2.heap.size, 0, none⟩) 1 1)).alloc (.cells #[.int .i64 0] 2) := World.setCell_alloc_past _ _ _ _ hbl
    rw [E] at HAF
    clear hL hA4 E
    go_upto_region 13 with (fail)
    clear c0 g0
    generalize (w2.setCell ⟨ba, 0, none⟩ (.slice (some ⟨w2.heap.size, 0, none⟩) 1 1)).alloc (.cells #[.int .i64 0] 2) = w12 at *
    obtain ⟨q0, q1, q2, q3⟩ := HAF.out.done
    have HQ := Lib.hid (And.intro q1 (And.intro q2 q3))
    have c0 := HAF.out.bx.c0
    have c1 := HAF.out.bx.c1
    have z0 := HAF.out.res.c0
    have z1 := HAF.out.res.c1
    have f0 := HAF.out.res.f 0
    have f1 := HAF.out.res.f 1
    have p0 := q0.c0
    have p1 := q0.c1
    clear q0 q1 q2 q3
    go_wp2_with fail
    refine bodyPost_ret (v := .agg #[.slice (some ⟨w2.heap.size, 0, none⟩) 1 1, .int .i64 r]) (by simp [results, Tryz.results29, go_sem, p0, p1]) rfl ?_
    exact ⟨_, [0], _, rfl, by simp, fun f hf => by simp at hf; omega, hr1, hr2, HQ.out⟩
  have HAF := HA2
  obtain ⟨q0, q1, q2, q3⟩ := HAF.out.done
  have HQ := Lib.hid (And.intro q1 (And.intro q2 q3))
  have c0 := HAF.out.bx.c0
  have c1 := HAF.out.bx.c1
  have z0 := HAF.out.res.c0
  have z1 := HAF.out.res.c1
  have f0 := HAF.out.res.f 0
  have f1 := HAF.out.res.f 1
  have p0 := q0.c0
  have p1 := q0.c1
  clear q0 q1 q2 q3
  go_wp2_with fail
  refine bodyPost_ret (v := .agg #[.slice av nv cv, .int .i64 r]) (by simp [results, Tryz.results29, go_sem, p0, p1]) rfl ?_
  exact ⟨_, fs, _, rfl, by rw [HNV.out]; omega, fun f hf => by have := HFS.out f hf; omega, hr1, hr2, HQ.out⟩
end Go.Proofs.YtnedihpppbjmdaaGreatDoor
