/-
  Drawn words (III): the arguments of a substitution.
-/
import Derived.Test.YthnpndheaailjaaDrx
namespace Go.Proofs.Ythnpndheaailjaa
set_option linter.unusedVariables false
set_option linter.unusedSimpArgs false
set_option maxRecDepth 100000
open Go.RowKit

--== spec.DrawSubstituteWord
theorem results_tmp4 {fn : Func} {t u v x : Tmp} (h : fn.results = #[.tmp t, .tmp u, .tmp v, .tmp x]) (tmps : Array Value) (P : Program) (w : World) :
    (results fn tmps).run P w = .ok (.tuple #[tmps.getD t undef, tmps.getD u undef, tmps.getD v undef, tmps.getD x undef]) w := by
  simp [results, h]
theorem lit1_own (w : World) (a : Int) : Ints (w.alloc (.cells #[.int .i64 a] 2)) w.heap.size (.slice (some ⟨w.heap.size, 0, none⟩) 1 1) [a] :=
  ⟨rfl, .inr ⟨w.heap.size, 1, #[.int .i64 a], rfl, Nat.le_refl _, heap_alloc_new w _, by simp, by simp [maxLen], by simp, by simp⟩⟩
theorem empty_own2 (w : World) (T : TypeId) (hT : T = 22) : O2 (w.alloc (.cells #[] T)) (win w.heap.size (w.heap.size + 1)) (.slice (some ⟨w.heap.size, 0, none⟩) 0 0) [] := by
  subst hT
  exact ⟨[], fun _ _ => False, ⟨rfl, .inr ⟨w.heap.size, 0, #[], rfl, Nat.zero_le _, heap_alloc_new w _, Nat.le_refl _, by simp [maxLen], rfl, rfl⟩⟩, fun g hg => by
    obtain rfl : w.heap.size = g := by simpa [Value.ownBlock] using hg
    exact ⟨Nat.le_refl _, by omega⟩, fun i hi => by simp at hi, fun i hi => by simp at hi, fun i j hi => by simp at hi⟩
/-- a row appended to rows, where another block has changed between -/
theorem draw_rows {B b : Nat} {wr w5 : World} {u u5 : Value} {L : List (List Int)} {xs : List Int} (hO : O2 wr (win B wr.heap.size) u L) (hBw : B ≤ wr.heap.size) (hb : b < B) (hI5 : Ints w5 wr.heap.size u5 xs) (hone : u5.oneCell' = true) (hC5 : Chg b (b + 1) wr w5) (hn : L.length ≤ 1000000000) :
    ∃ v6 w6, (Builtin.append_ #[29, 29] 29 #[u, .slice (some ⟨w5.heap.size, 0, none⟩) 1 1]).run Try.prog (w5.alloc (.cells #[u5] 22)) = .ok v6 w6 ∧ O2 w6 (win B w6.heap.size) v6 (L ++ [xs]) ∧ Below B w5 w6 := by
  obtain ⟨i0, hi, hz0, hz1, hz2⟩ := info_parts Try.infoRow
  have hO5 := local_O2.chg hO (ChgS.of_chg hC5) (fun k hk e => by have := hk.1; omega)
  have hy5 := hI5.o1
  have sz5 := hC5.size
  obtain ⟨v6, w6, hr6, hO6, hC6⟩ := run_appO local_O1 w5 29 29 i0 Try.underlying29 hi hz0 hz1 hz2 _ _ _ _ hO5 _ _ hy5 hone (fun k hk h => by have := hk.1; have := h.2; omega) hn
  have sz6 := hC6.size
  refine ⟨v6, w6, hr6, local_O2.mono hO6 (fun k hk h => ⟨?_, hk⟩), hC6.below (fun k hk => hk.1.1) (by omega)⟩
  rcases h with ⟨h | h, _⟩ | h
  · exact h.1
  · have := h.1; omega
  · omega
def DrawPS (w : World) (e : Ending) (w' : World) : Prop := ∃ (k : Int) (v : Value) (xs : List Int) (m : Int) (u : Value) (L : List (List Int)), e = .returned (.tuple #[.int .i64 k, v, .int .i64 m, u]) ∧ Rd w' v xs ∧ Rd2 w' u L ∧ Below w.heap.size w w'
set_option maxHeartbeats 4000000 in
theorem s_DrawSubstituteWord (v : Value) (n : Nat) (w : World) (h : RdU w v n) (hn : n ≤ 1000000) : Calls Try.prog 56 #[v] w (DrawPS w) := by
  have HR := Lib.hid h
  clear h
  go_enter Try.func56, Try.ntmps56
  go_wp2_with fail
  refine (s_l01From v n w HR.out hn).mono ?_
  rintro e w1 ⟨b, rfl, hS1⟩
  have HS1 := Lib.hid hS1
  clear hS1
  go_wp2_with fail
  refine (s_l06Count w1 HS1.out).mono ?_
  rintro e w2 ⟨k, rfl, hk1, hk2, hS2, hC2⟩
  have HS2 := Lib.hid hS2
  clear hS2 hC2
  go_wp2_with fail
  refine (s_l06Count w2 HS2.out).mono ?_
  rintro e w3 ⟨m, rfl, hm1, hm2, hS3, hC3⟩
  have HS3 := Lib.hid hS3
  clear hS3 hC3
  go_wp2_with fail
  refine (s_l06Draw w3 HS3.out k (by omega) (by omega)).mono ?_
  rintro e w4 ⟨u, xs, rfl, hT, hl, hI, hS4, hC4⟩
  have HI := Lib.hid hI
  have HS4 := Lib.hid hS4
  have hb3 := HS3.out.lt
  have hb4 := HS4.out.lt
  have h04 := HS4.out.be.size
  have h34 := hC4.size
  clear hI hS4 hC4 hT hl
  have hO0 := Lib.hid (empty_own2 w4 22 rfl)
  have hbA := Lib.hid (below_alloc w4 (Obj.cells #[] 22))
  go_wp2_with fail
  go_loopw [10, 11] (fun q i wr => ∃ (j : Nat) (L : List (List Int)), j ≤ 10 ∧ (j = 0 ∨ (j : Int) ≤ k) ∧ i = .int .i64 j ∧ L.length = j ∧ O2 wr (win w4.heap.size wr.heap.size) q L ∧ Src w v n b wr ∧ Chg b (b + 1) w4 wr) (fun _ i _ => 20 - (intOf i).toNat)
  case atStart => exact ⟨0, [], by omega, .inl rfl, rfl, rfl, by simpa using hO0.out, HS4.out.below hbA.out, Chg.of_below hbA.out _ _⟩
  case round =>
    clear hO0 hbA
    obtain ⟨j, L, hj, hjk, rfl, hL, hO, hS, hC⟩ := hrel
    have HL := Lib.hid hL
    have HO := Lib.hid hO
    have HSS := Lib.hid hS
    have HC := Lib.hid hC
    have hsz := hC.size
    clear hL hO hS hC
    by_cases hlt : (j : Int) < k
    · go_wp2_with fail
      refine (s_l06Draw wr HSS.out m (by omega) (by omega)).mono ?_
      rintro e w5 ⟨u5, ys, rfl, hT, hl, hI5, hS5, hC5⟩
      obtain ⟨a5, c5, rfl, _, _⟩ := hI5.form
      obtain ⟨v6, w6, hr6, hO6, hB6⟩ := draw_rows HO.out hsz hb4 hI5 rfl hC5 (by rw [HL.out]; omega)
      have HS6 := Lib.hid (hS5.belowB hB6 hb4 h04)
      have HC6 := Lib.hid ((HC.out.tr hC5).belB hB6)
      clear hS5 hC5 hI5 hT hB6
      go_wp2_with (at_builtin; refine wp_of_run _ rfl _ _ _ rfl _ _ rfl rfl _ _ hr6 ?_)
      go_roundw
      case rel => exact ⟨j + 1, _, by omega, .inr (by omega), by go_num, by rw [List.length_append, HL.out]; rfl, hO6, HS6.out, HC6.out⟩
      case measure => simp [intOf]; omega
    · go_wp2_with fail
      refine (s_l01Next wr HSS.out 25 (by omega) (by omega)).mono ?_
      rintro e w5 ⟨r, rfl, r0, r1, hS5, hC5⟩
      have HS5 := Lib.hid hS5
      have HC5 := Lib.hid (HC.out.tr hC5)
      have hO5 := local_O2.chg HO.out (ChgS.of_chg hC5) (fun k hk e => by have := hk.1; omega)
      have HO5 := Lib.hid hO5
      have h5 := hC5.size
      clear hS5 hC5 hO5 r1
      by_cases hr : r = 0
      · subst hr
        have hl1 := lit1_own w5 1
        have hO6 := HO5.out
        have hy := hl1.o1
        obtain ⟨i0, hi, hz0, hz1, hz2⟩ := info_parts Try.infoRow
        obtain ⟨v6, w6, hr6, hO7, hC7⟩ := run_appO local_O1 (w5.alloc (.cells #[.int .i64 1] 2)) 29 29 i0 Try.underlying29 hi hz0 hz1 hz2 _ _ _ _ (local_O2.below hO6 (below_alloc w5 _)) _ _ hy rfl (fun k hk h => by have := hk.1; have := h.2; omega) (by rw [HL.out]; omega)
        rw [show (w5.alloc (Obj.cells #[.int .i64 1] 2)).heap.size = w5.heap.size + 1 by simp] at hr6
        have hB7 : Below w4.heap.size w5 w6 := ((below_alloc w5 (Obj.cells #[.int .i64 1] 2)).mono (by omega)).trans (hC7.below (fun k hk => hk.1.1) (by simp; omega))
        have HO7 := Lib.hid (O2.rd hO7)
        have HS7 := Lib.hid (HS5.out.belowB hB7 hb4 h04)
        have HC7 := Lib.hid (HC5.out.belB hB7)
        have HI7 := Lib.hid (HI.out.chg ((HC7.out)) (fun g hg => .inr (by have := (HI.out.lt g hg).1; omega)))
        clear hO6 hO7 hy hl1 hC7 hB7
        go_wp2_with (at_builtin; refine wp_of_run _ rfl _ _ _ rfl _ _ rfl rfl _ _ hr6 ?_)
        refine bodyPost_ret (results_tmp4 rfl _ _ _) rfl ?_
        exact ⟨k, u, xs, m, v6, _, rfl, HI7.out.rd, HO7.out, HS7.out.be⟩
      · have hr1 : (r == 0) = false := by simpa using hr
        have HI7 := Lib.hid (HI.out.chg ((HC5.out)) (fun g hg => .inr (by have := (HI.out.lt g hg).1; omega)))
        clear hr
        go_wp2_with fail
        refine bodyPost_ret (results_tmp4 rfl _ _ _) rfl ?_
        exact ⟨k, u, xs, m, _, _, rfl, HI7.out.rd, HO5.out.rd, HS5.out.be⟩
end Go.Proofs.Ythnpndheaailjaa
