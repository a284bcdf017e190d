/-
  Products and commutators of words.
-/
import Derived.Test.YthnpndheaailjaaHelpB
namespace Go.Proofs.Ythnpndheaailjaa
set_option linter.unusedVariables false
set_option linter.unusedSimpArgs false
set_option maxRecDepth 100000
open Go.RowKit

def okC (c0 c1 : Int) : Int := if c0 = 0 then c1 else c0
theorem okC_zero {c0 c1 : Int} (h : c0 = 0) : okC c0 c1 = c1 := if_pos h
theorem okC_ne {c0 c1 : Int} (h : ¬ c0 = 0) : okC c0 c1 = c0 := if_neg h
theorem small_append {xs ys : List Int} (h : Small xs) (h' : Small ys) : Small (xs ++ ys) := fun x hx => (List.mem_append.1 hx).elim (h x) (h' x)
theorem shortW_len (xs : List Int) : (shortW xs).length ≤ 64 := by unfold shortW; split <;> simp_all
theorem okW_short_len (c : Int) (xs : List Int) : (okW c (shortW xs)).length ≤ 1000000000 := by
  have := shortW_len xs
  unfold okW; split
  · omega
  · simp
/-- the outcome of a product: the short reduced form of the letters, and the code -/
def prodL (c0 : Int) (xs : List Int) : List Int := okW c0 (shortW (redW xs))
def prodC (c0 : Int) (xs : List Int) : Int := okC c0 (codeS (redW xs))
theorem prodL_len (c : Int) (xs : List Int) : (prodL c xs).length ≤ 1000000000 := okW_short_len _ _
theorem prodL_zero {c0 : Int} (xs : List Int) (h : c0 = 0) : prodL c0 xs = shortW (redW xs) ∧ prodC c0 xs = codeS (redW xs) := ⟨okW_zero h, okC_zero h⟩
theorem prodL_ne {c0 : Int} (xs : List Int) (h : ¬ c0 = 0) : prodL c0 xs = [] ∧ prodC c0 xs = c0 := ⟨okW_ne h, okC_ne h⟩
def commL (a b : List Int) : List Int := invW a ++ (invW b ++ (a ++ b))
theorem cat2 (a b : List Int) : cat [a, b] = a ++ b := by simp [cat]
theorem cat4 (a b c d : List Int) : cat [a, b, c, d] = a ++ (b ++ (c ++ d)) := by simp [cat]
--== impl.MultiplyWords
set_option maxHeartbeats 2000000 in
theorem i_MultiplyWords (k : Int) (va vb : Value) (xs ys : List Int) (w : World) (ha : Rd w va xs) (hb : Rd w vb ys) :
    Calls Try.prog 53 #[.int .i64 k, va, vb] w (RetInts2 w (prodL (codeOf k [xs, ys]) (xs ++ ys)) (prodC (codeOf k [xs, ys]) (xs ++ ys))) := by
  obtain ⟨ao, cap, rfl, _, _⟩ := ha.form
  obtain ⟨bo, cap', rfl, _, _⟩ := hb.form
  have hl := Rd2.lit2 22 _ _ xs ys ha hb
  by_cases hc : codeOf k [xs, ys] = 0
  · obtain ⟨⟨h0, h6⟩, hw⟩ := codeOf_zero hc
    obtain ⟨hsx, hx64⟩ := wordB_small h6 (hw xs (by simp))
    obtain ⟨hsy, hy64⟩ := wordB_small h6 (hw ys (by simp))
    have HC := Lib.hid (prodL_zero (xs ++ ys) hc)
    have HC0 := Lib.hid hc
    clear hc hw
    go_enter Try.func53, Try.ntmps53
    go_wp2_with fail
    refine (i_wordCode _ _ _ _ hl).mono ?_
    rintro e w' ⟨rfl, rfl⟩
    rw [HC0.out]
    have hl2 := Rd2.lit2 22 _ _ xs ys (ha.below (below_alloc w (.cells #[.slice ao xs.length cap, .slice bo ys.length cap'] 22))) (hb.below (below_alloc w (.cells #[.slice ao xs.length cap, .slice bo ys.length cap'] 22)))
    rw [World.size_alloc] at hl2
    clear hl
    go_wp2_with fail
    refine (f_Concat _ _ _ hl2 (by rw [cat2, List.length_append]; omega)).mono ?_
    rintro e w2 ⟨v2, rfl, hI, hB⟩
    rw [cat2] at hI
    have hB0 := below_allocd (below_allocd hB)
    go_wp2_with fail
    refine (i_reduceWord _ _ _ hI.rd (by rw [List.length_append]; omega) (small_append hsx hsy)).mono ?_
    rintro e w3 ⟨v3, rfl, hI3, hB3⟩
    have hB1 := below_size hB0 hB3
    have hI := hI3.mono hB0.size
    clear hI3
    go_wp2_with fail
    refine (i_shortWord _ _ _ _ hI).mono ?_
    rintro e w' ⟨⟨v', rfl, hI'⟩, rfl⟩
    go_wp2_with fail
    go_ret2
    exact ⟨_, ret_tup HC.out.2.symm, by rw [HC.out.1]; exact hI', hB1⟩
  · have hc1 : (codeOf k [xs, ys] != 0) = true := by simpa using hc
    have HC := Lib.hid (prodL_ne (xs ++ ys) hc)
    clear hc
    go_enter Try.func53, Try.ntmps53
    go_wp2_with fail
    refine (i_wordCode _ _ _ _ hl).mono ?_
    rintro e w' ⟨rfl, rfl⟩
    go_wp2_with fail
    go_ret2
    exact ⟨_, ret_tup HC.out.2.symm, by rw [HC.out.1]; exact Ints.nil _ _, below_alloc _ _⟩
--== impl.WordCommutator
set_option maxHeartbeats 2000000 in
theorem i_WordCommutator (k : Int) (va vb : Value) (xs ys : List Int) (w : World) (ha : Rd w va xs) (hb : Rd w vb ys) :
    Calls Try.prog 51 #[.int .i64 k, va, vb] w (RetInts2 w (prodL (codeOf k [xs, ys]) (commL xs ys)) (prodC (codeOf k [xs, ys]) (commL xs ys))) := by
  obtain ⟨ao, cap, rfl, _, _⟩ := ha.form
  obtain ⟨bo, cap', rfl, _, _⟩ := hb.form
  have hl := Rd2.lit2 22 _ _ xs ys ha hb
  by_cases hc : codeOf k [xs, ys] = 0
  · obtain ⟨⟨h0, h6⟩, hw⟩ := codeOf_zero hc
    obtain ⟨hsx, hx64⟩ := wordB_small h6 (hw xs (by simp))
    obtain ⟨hsy, hy64⟩ := wordB_small h6 (hw ys (by simp))
    have HC := Lib.hid (prodL_zero (commL xs ys) hc)
    have HC0 := Lib.hid hc
    clear hc hw
    go_enter Try.func51, Try.ntmps51
    go_wp2_with fail
    refine (i_wordCode _ _ _ _ hl).mono ?_
    rintro e w' ⟨rfl, rfl⟩
    rw [HC0.out]
    have ha1 := ha.below (below_alloc w (.cells #[.slice ao xs.length cap, .slice bo ys.length cap'] 22))
    have hb1 := hb.below (below_alloc w (.cells #[.slice ao xs.length cap, .slice bo ys.length cap'] 22))
    clear hl
    go_wp2_with fail
    refine (i_invertWord _ xs _ ha1 (by omega) hsx).mono ?_
    rintro e w2 ⟨v2, rfl, hI2, hB2⟩
    have ha2 := ha1.below hB2
    have hb2 := hb1.below hB2
    clear ha1 hb1
    have hB0 := below_allocd hB2
    go_wp2_with fail
    refine (i_invertWord _ ys _ hb2 (by omega) hsy).mono ?_
    rintro e w3 ⟨v3, rfl, hI3, hB3⟩
    have ha3 := ha2.below hB3
    have hb3 := hb2.below hB3
    have hr2 := hI2.rd.below hB3
    have hr3 := hI3.rd
    have hB1 := below_size hB0 hB3
    clear ha2 hb2 hB0 hB2 hB3 hI2 hI3
    obtain ⟨ao2, cap2, rfl, _, _⟩ := hr2.form
    obtain ⟨ao3, cap3, rfl, _, _⟩ := hr3.form
    have hl2 := Rd2.lit4 22 _ _ _ _ _ _ _ _ hr2 hr3 ha3 hb3
    go_wp2_with fail
    refine (f_Concat _ _ _ hl2 (by rw [cat4]; simp only [List.length_append, invW_length]; omega)).mono ?_
    rintro e w4 ⟨v4, rfl, hI4, hB4⟩
    rw [cat4] at hI4
    have hB5 := below_size hB1 (below_allocd hB4)
    go_wp2_with fail
    refine (i_reduceWord _ _ _ hI4.rd (by simp only [List.length_append, invW_length]; omega) (small_append (invW_small hsx) (small_append (invW_small hsy) (small_append hsx hsy)))).mono ?_
    rintro e w5 ⟨v5, rfl, hI5, hB6⟩
    have hI := hI5.mono hB5.size
    clear hI5
    go_wp2_with fail
    refine (i_shortWord _ _ _ _ hI).mono ?_
    rintro e w' ⟨⟨v', rfl, hI'⟩, rfl⟩
    go_wp2_with fail
    go_ret2
    exact ⟨_, ret_tup HC.out.2.symm, by rw [HC.out.1]; exact hI', below_size hB5 hB6⟩
  · have hc1 : (codeOf k [xs, ys] != 0) = true := by simpa using hc
    have HC := Lib.hid (prodL_ne (commL xs ys) hc)
    clear hc
    go_enter Try.func51, Try.ntmps51
    go_wp2_with fail
    refine (i_wordCode _ _ _ _ hl).mono ?_
    rintro e w' ⟨rfl, rfl⟩
    go_wp2_with fail
    go_ret2
    exact ⟨_, ret_tup HC.out.2.symm, by rw [HC.out.1]; exact Ints.nil _ _, below_alloc _ _⟩
--== spec.l06Commute
set_option maxHeartbeats 2000000 in
theorem s_l06Commute (va vb : Value) (xs ys : List Int) (w : World) (ha : Rd w va xs) (hb : Rd w vb ys) (hx64 : xs.length ≤ 64) (hy64 : ys.length ≤ 64) (hsx : Small xs) (hsy : Small ys) :
    Calls Try.prog 115 #[va, vb] w (RetInts w (commL xs ys)) := by
  obtain ⟨i0, hi, hz0, hz1, hz2⟩ := info_parts Try.info2
  go_enter Try.func115, Try.ntmps115
  go_wp2_with fail
  refine (s_l06Invert _ xs _ ha (by omega) hsx).mono ?_
  rintro e w2 ⟨v2, rfl, hI2, hB2⟩
  have hb2 := hb.below hB2
  go_wp2_with fail
  refine (s_l06Invert _ ys _ hb2 (by omega) hsy).mono ?_
  rintro e w3 ⟨v3, rfl, hI3, hB3⟩
  have hr3 := hI3.rd
  have hI := hI2.below hB3
  have hB := below_size hB2 hB3
  have hS := hB.size
  clear hI2 hb2 hB2 hB3 hI3
  go_wp2_with (at_builtin; refine wp_appN _ rfl _ _ rfl w.heap.size i0 Try.underlying22 hi hz0 hz1 hz2 _ _ rfl hI _ (invW ys) rfl hr3 (by rw [invW_length]; omega) (by rw [invW_length]; omega) (by omega) ?_)
  intro v4 w4 hI4 hG hB4
  have hB := hB.trans hB4
  have hS := hB.size
  have ha4 := ha.below hB
  clear hI hr3 hB4 hG
  have hl4 : (invW xs ++ invW ys).length ≤ 1000000000 := by simp only [List.length_append, invW_length]; omega
  generalize hR : invW xs ++ invW ys = R at hI4 hl4
  have HR := Lib.hid hR
  clear hR
  go_wp2_with (at_builtin; refine wp_appN _ rfl _ _ rfl w.heap.size i0 Try.underlying22 hi hz0 hz1 hz2 _ _ rfl hI4 _ xs rfl ha4 hl4 (by omega) (by omega) ?_)
  intro v5 w5 hI5 hG hB5
  have hB := hB.trans hB5
  have hS := hB.size
  have hb5 := hb.below hB
  have hl5 : (R ++ xs).length ≤ 1000000000 := by have := HR.out; subst this; simp only [List.length_append, invW_length]; omega
  clear hI4 hB5 hG ha4 hl4
  generalize hR2 : R ++ xs = R2 at hI5 hl5
  have HR2 := Lib.hid hR2
  clear hR2
  go_wp2_with (at_builtin; refine wp_appN _ rfl _ _ rfl w.heap.size i0 Try.underlying22 hi hz0 hz1 hz2 _ _ rfl hI5 _ ys rfl hb5 hl5 (by omega) (by omega) ?_)
  intro v6 w6 hI6 hG hB6
  go_wp2
  go_ret
  refine ⟨_, rfl, ?_, hB.trans hB6⟩
  have h1 := HR.out
  have h2 := HR2.out
  subst h1 h2
  simpa [commL] using hI6
--== spec.WordCommutator
set_option maxHeartbeats 2000000 in
theorem s_WordCommutator (k : Int) (va vb : Value) (xs ys : List Int) (w : World) (ha : Rd w va xs) (hb : Rd w vb ys) :
    Calls Try.prog 52 #[.int .i64 k, va, vb] w (RetInts2 w (prodL (codeOf k [xs, ys]) (commL xs ys)) (prodC (codeOf k [xs, ys]) (commL xs ys))) := by
  obtain ⟨ao, cap, rfl, _, _⟩ := ha.form
  obtain ⟨bo, cap', rfl, _, _⟩ := hb.form
  by_cases hc : codeOf k [xs, ys] = 0
  · obtain ⟨⟨h0, h6⟩, hw⟩ := codeOf_zero hc
    obtain ⟨hsx, hx64⟩ := wordB_small h6 (hw xs (by simp))
    obtain ⟨hsy, hy64⟩ := wordB_small h6 (hw ys (by simp))
    have HC := Lib.hid (prodL_zero (commL xs ys) hc)
    have HC0 := Lib.hid hc
    clear hc hw
    go_enter Try.func52, Try.ntmps52
    go_wp2_with fail
    refine (s_l06Code _ _ _ xs ys _ ha hb).mono ?_
    rintro e w' ⟨rfl, rfl⟩
    rw [HC0.out]
    go_wp2_with fail
    refine (s_l06Commute _ _ xs ys _ ha hb hx64 hy64 hsx hsy).mono ?_
    rintro e w2 ⟨v2, rfl, hI, hB⟩
    go_wp2_with fail
    refine (s_l06Result _ _ _ hI.rd (by simp only [commL, List.length_append, invW_length]; omega) (small_append (invW_small hsx) (small_append (invW_small hsy) (small_append hsx hsy)))).mono ?_
    rintro e w4 ⟨v4, rfl, hI4, hB4⟩
    go_wp2_with fail
    go_ret2
    exact ⟨_, ret_tup HC.out.2.symm, by rw [HC.out.1]; exact hI4.mono hB.size, below_size hB hB4⟩
  · have hc1 : (codeOf k [xs, ys] != 0) = true := by simpa using hc
    have HC := Lib.hid (prodL_ne (commL xs ys) hc)
    clear hc
    go_enter Try.func52, Try.ntmps52
    go_wp2_with fail
    refine (s_l06Code _ _ _ xs ys _ ha hb).mono ?_
    rintro e w' ⟨rfl, rfl⟩
    go_wp2_with fail
    go_ret2
    exact ⟨_, ret_tup HC.out.2.symm, by rw [HC.out.1]; exact Ints.nil _ _, Below.refl _ _⟩
end Go.Proofs.Ythnpndheaailjaa
