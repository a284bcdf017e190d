/-
  Drawn words (II): a word, the arguments of three laws.
-/
import Derived.Test.YthnpndheaailjaaDrw
namespace Go.Proofs.Ythnpndheaailjaa
set_option linter.unusedVariables false
set_option linter.unusedSimpArgs false
set_option maxRecDepth 100000
open Go.RowKit

theorem nat_of {r m : Int} (h0 : 0 ≤ r) (h1 : r = 0 ∨ r < m) (hm : 0 < m) : ∃ q : Nat, r = (q : Int) ∧ (q : Int) < m := ⟨r.toNat, by omega, by rcases h1 with h1 | h1 <;> omega⟩
--== spec.l06Draw
set_option maxHeartbeats 4000000 in
theorem s_l06Draw {w0 : World} {vc : Value} {n b : Nat} (w : World) (h : Src w0 vc n b w) (k : Int) (hk1 : -100 ≤ k) (hk2 : k ≤ 100) :
    Calls Try.prog 108 #[.pointer (some ⟨b, 0, none⟩), .int .i64 k] w (LetP w0 vc n b w 200) := by
  obtain ⟨i0, hi, hz0, hz1, hz2⟩ := info_parts Try.info2
  have HS := Lib.hid h
  have hbl := h.lt
  clear h
  go_enter Try.func108, Try.ntmps108
  go_wp2_with fail
  refine (s_l01Next w HS.out 25 (by omega) (by omega)).mono ?_
  rintro e w1 ⟨r, rfl, r0, r1, hS1, hC1⟩
  have HS1 := Lib.hid hS1
  have HC1 := Lib.hid hC1
  clear hS1 hC1
  by_cases e0 : r = 0
  · subst e0
    clear r0 r1
    go_wp2_with fail
    refine (s_l01Next w1 HS1.out 5 (by omega) (by omega)).mono ?_
    rintro e w2 ⟨r, rfl, q0, q1, hS2, hC2⟩
    have HS2 := Lib.hid hS2
    have HC2 := Lib.hid (HC1.out.tr hC2)
    obtain ⟨L, rfl, hL⟩ := nat_of q0 q1 (by omega)
    clear hS2 hC2 q0 q1
    go_wp2_with fail
    refine (s_l06Letters w2 HS2.out k L hk2 (by omega)).mono ?_
    rintro e w3 ⟨v, xs, rfl, hT, hl, hI, hS3, hC3⟩
    have HT := Lib.hid hT
    have HI3 := Lib.hid (hI.mono HC2.out.size)
    have HS3 := Lib.hid hS3
    have HC3 := Lib.hid (HC2.out.tr hC3)
    clear hT hI hS3 hC3
    have hlit := Rd.litI w3 [0, k + 1, -k - 1] (by simp)
    have HA := Lib.hid hlit
    have HK := Lib.hid (lit_keep HS3.out.lt hlit)
    have HB := Lib.hid (below_alloc w3 (Obj.cells ([0, k + 1, -k - 1].map (Value.int .i64)).toArray 2))
    clear hlit
    go_wp2_with fail
    refine (s_l01Pick _ (HS3.out.below HB.out) _ [0, k + 1, -k - 1] HA.out HK.out (by simp) (by simp)).mono ?_
    rintro e w4 ⟨q, hq, rfl, hS4, hC4⟩
    have HS4 := Lib.hid hS4
    have HC4 := Lib.hid ((HC3.out.bel HB.out).tr hC4)
    have hI4 : Ints w4 w.heap.size v xs := (HI3.out.below HB.out).chgb hC4 hbl
    have hx : -1000 ≤ ([0, k + 1, -k - 1] : List Int).getD q 0 ∧ ([0, k + 1, -k - 1] : List Int).getD q 0 ≤ 1000 := by
      have : q < 3 := hq
      match q, this with
      | 0, _ => simp
      | 1, _ => simp; omega
      | 2, _ => simp; omega
    generalize ([0, k + 1, -k - 1] : List Int).getD q 0 = x at *
    have hsz := HC4.out.size
    have hlen : xs.length ≤ 1000000000 := by omega
    have hw0 := HS.out.be.size
    have HIx := Lib.hid hI4
    clear hS4 hC4 hq hI4
    go_wp2_with (at_builtin; refine wp_app1 _ rfl _ _ rfl w.heap.size i0 Try.underlying22 hi hz0 hz1 hz2 _ _ rfl HIx.out x rfl hlen hsz ?_)
    intro v' w5 hI5 hG5 hB5
    go_wp2_with fail
    go_ret
    exact ⟨_, _, rfl, HT.out.snoc hx, by simp; omega, hI5, HS4.out.belowB hB5 hbl hw0, HC4.out.belB hB5⟩
  have n0 : (r == 0) = false := by simpa using e0
  by_cases e1 : r = 1
  · subst e1
    clear e0 r0 r1
    have hlit := Rd.litI w1 [63, 64, 65] (by simp)
    have HA := Lib.hid hlit
    have HK := Lib.hid (lit_keep HS1.out.lt hlit)
    have HB := Lib.hid (below_alloc w1 (Obj.cells ([63, 64, 65].map (Value.int .i64)).toArray 2))
    clear hlit
    go_wp2_with fail
    refine (s_l01Pick _ (HS1.out.below HB.out) _ [63, 64, 65] HA.out HK.out (by simp) (by simp)).mono ?_
    rintro e w4 ⟨q, hq, rfl, hS4, hC4⟩
    have HS4 := Lib.hid hS4
    have HC4 := Lib.hid ((HC1.out.bel HB.out).tr hC4)
    obtain ⟨L, hLe, hL⟩ : ∃ L : Nat, ([63, 64, 65] : List Int).getD q 0 = (L : Int) ∧ L ≤ 65 := by
      have : q < 3 := hq
      match q, this with
      | 0, _ => exact ⟨63, rfl, by omega⟩
      | 1, _ => exact ⟨64, rfl, by omega⟩
      | 2, _ => exact ⟨65, rfl, by omega⟩
    rw [hLe]
    clear hS4 hC4 hq hLe
    go_wp2_with fail
    refine (s_l06Letters w4 HS4.out k L hk2 (by omega)).mono ?_
    rintro e w5 ⟨v, xs, rfl, hT, hl, hI, hS5, hC5⟩
    have HC5 := Lib.hid (HC4.out.tr hC5)
    have HI5 := Lib.hid (hI.mono HC4.out.size)
    have HS5 := Lib.hid hS5
    have HT := Lib.hid hT
    clear hI hS5 hC5 hT
    go_wp2_with fail
    go_ret
    exact ⟨_, xs, rfl, HT.out, by omega, HI5.out, HS5.out, HC5.out⟩
  have n1 : (r == 1) = false := by simpa using e1
  by_cases e2 : r = 2 ∨ r = 3
  · clear r0 r1
    rcases e2 with rfl | rfl
    all_goals
      clear e0 e1
      go_wp2_with fail
      refine (s_l01Next w1 HS1.out 9 (by omega) (by omega)).mono ?_
      rintro e w2 ⟨r, rfl, q0, q1, hS2, hC2⟩
      have HS2 := Lib.hid hS2
      have HC2 := Lib.hid (HC1.out.tr hC2)
      obtain ⟨L, rfl, hL⟩ := nat_of q0 q1 (by omega)
      clear hS2 hC2 q0 q1
      go_wp2_with fail
      refine (s_l06Letters w2 HS2.out k L hk2 (by omega)).mono ?_
      rintro e w3 ⟨v, xs, rfl, hT, hl, hI, hS3, hC3⟩
      have HT := Lib.hid hT
      have HI3 := Lib.hid (hI.mono HC2.out.size)
      have HS3 := Lib.hid hS3
      have HC3 := Lib.hid (HC2.out.tr hC3)
      clear hT hI hS3 hC3
      go_wp2_with fail
      refine (s_l06Invert v xs w3 HI3.out.rd (by omega) HT.out.small).mono ?_
      rintro e w4 ⟨v4, rfl, hI4, hB4⟩
      have HI4 := Lib.hid (HI3.out.below hB4)
      have HS4 := Lib.hid (HS3.out.below hB4)
      have HC4 := Lib.hid (HC3.out.bel hB4)
      have HR4 := Lib.hid hI4.rd
      have hlen : xs.length ≤ 1000000000 := by omega
      have hln2 : (invW xs).length ≤ 1000000000 := by rw [invW_length]; exact hlen
      have hsz := HC4.out.size
      have hw0 := HS.out.be.size
      have HLN := Lib.hid (invW_length xs)
      clear hI4 hB4
      go_wp2_with (at_builtin; refine wp_appN _ rfl _ _ rfl w.heap.size i0 Try.underlying22 hi hz0 hz1 hz2 _ _ rfl HI4.out _ _ rfl HR4.out hlen hln2 hsz ?_)
      intro v' w5 hI5 hG5 hB5
      go_wp2_with fail
      go_ret
      exact ⟨_, _, rfl, HT.out.app HT.out.inv, by rw [List.length_append, HLN.out]; omega, hI5, HS4.out.belowB hB5 hbl hw0, HC4.out.belB hB5⟩
  · have n2 : (r == 2) = false := by simp; omega
    have n3 : (r == 3) = false := by simp; omega
    clear r0 r1 e0 e1 e2
    go_wp2_with fail
    refine (s_l01Next w1 HS1.out 9 (by omega) (by omega)).mono ?_
    rintro e w2 ⟨r, rfl, q0, q1, hS2, hC2⟩
    have HS2 := Lib.hid hS2
    have HC2 := Lib.hid (HC1.out.tr hC2)
    obtain ⟨L, rfl, hL⟩ := nat_of q0 q1 (by omega)
    clear hS2 hC2 q0 q1
    go_wp2_with fail
    refine (s_l06Letters w2 HS2.out k L hk2 (by omega)).mono ?_
    rintro e w3 ⟨v, xs, rfl, hT, hl, hI, hS3, hC3⟩
    have HT := Lib.hid hT
    have HI3 := Lib.hid (hI.mono HC2.out.size)
    have HS3 := Lib.hid hS3
    have HC3 := Lib.hid (HC2.out.tr hC3)
    clear hT hI hS3 hC3
    go_wp2_with fail
    go_ret
    exact ⟨_, xs, rfl, HT.out, by omega, HI3.out, HS3.out, HC3.out⟩
--== spec.DrawWordText
def DrawP (w : World) (e : Ending) (w' : World) : Prop := ∃ (k : Int) (v : Value) (xs : List Int), e = .returned (.tuple #[.int .i64 k, v]) ∧ -1 ≤ k ∧ k ≤ 7 ∧ Ints w' w.heap.size v xs ∧ Below w.heap.size w w'
set_option maxHeartbeats 1000000 in
theorem s_DrawWordText (v : Value) (n : Nat) (w : World) (h : RdU w v n) (hn : n ≤ 1000000) : Calls Try.prog 44 #[v] w (DrawP w) := by
  have HR := Lib.hid h
  clear h
  go_enter Try.func44, Try.ntmps44
  go_wp2_with fail
  refine (s_l01From v n w HR.out hn).mono ?_
  rintro e w1 ⟨b, rfl, hS1⟩
  have HS1 := Lib.hid hS1
  clear hS1
  go_wp2_with fail
  refine (s_l06Count w1 HS1.out).mono ?_
  rintro e w2 ⟨k, rfl, hk1, hk2, hS2, hC2⟩
  have HS2 := Lib.hid hS2
  clear hS2 hC2
  go_wp2_with fail
  refine (s_l06Draw w2 HS2.out k (by omega) (by omega)).mono ?_
  rintro e w3 ⟨u, xs, rfl, hT, hl, hI, hS3, hC3⟩
  have HI := Lib.hid (hI.mono HS2.out.be.size)
  have HS3 := Lib.hid hS3
  clear hI hS3 hC3 hT
  go_wp2_with fail
  go_ret2
  exact ⟨k, u, xs, rfl, hk1, hk2, HI.out, HS3.out.be⟩
--== spec.DrawWordCommutator
def DrawP2 (w : World) (e : Ending) (w' : World) : Prop := ∃ (k : Int) (v : Value) (xs : List Int) (u : Value) (ys : List Int), e = .returned (.tuple #[.int .i64 k, v, u]) ∧ Rd w' v xs ∧ Rd w' u ys ∧ Below w.heap.size w w'
set_option maxHeartbeats 1000000 in
theorem s_DrawWordCommutator (v : Value) (n : Nat) (w : World) (h : RdU w v n) (hn : n ≤ 1000000) : Calls Try.prog 50 #[v] w (DrawP2 w) := by
  have HR := Lib.hid h
  clear h
  go_enter Try.func50, Try.ntmps50
  go_wp2_with fail
  refine (s_l01From v n w HR.out hn).mono ?_
  rintro e w1 ⟨b, rfl, hS1⟩
  have HS1 := Lib.hid hS1
  clear hS1
  go_wp2_with fail
  refine (s_l06Count w1 HS1.out).mono ?_
  rintro e w2 ⟨k, rfl, hk1, hk2, hS2, hC2⟩
  have HS2 := Lib.hid hS2
  clear hS2 hC2
  go_wp2_with fail
  refine (s_l06Draw w2 HS2.out k (by omega) (by omega)).mono ?_
  rintro e w3 ⟨u, xs, rfl, hT, hl, hI, hS3, hC3⟩
  have HI := Lib.hid hI
  have HS3 := Lib.hid hS3
  clear hI hS3 hC3 hT
  go_wp2_with fail
  refine (s_l06Draw w3 HS3.out k (by omega) (by omega)).mono ?_
  rintro e w4 ⟨u2, ys, rfl, hT, hl2, hI2, hS4, hC4⟩
  have HI1 := Lib.hid (HI.out.chgb hC4 HS2.out.lt)
  have HI2 := Lib.hid hI2
  have HS4 := Lib.hid hS4
  clear hI2 hS4 hC4 hT
  go_wp2_with fail
  go_ret3
  exact ⟨k, u, xs, u2, ys, rfl, HI1.out.rd, HI2.out.rd, HS4.out.be⟩
end Go.Proofs.Ythnpndheaailjaa
