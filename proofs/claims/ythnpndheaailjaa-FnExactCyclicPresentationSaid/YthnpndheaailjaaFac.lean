/-
  The prime factors of a small number.
-/
import Derived.Test.YthnpndheaailjaaAbel
import Derived.Test.YthnpndheaailjaaPow
namespace Go.Proofs.Ythnpndheaailjaa
set_option linter.unusedVariables false
set_option linter.unusedSimpArgs false
set_option maxRecDepth 100000
open Go.RowKit

--== factors
def dv : Nat → Nat → Nat → Nat → Nat × Nat
  | 0, n, _, c => (n, c)
  | f + 1, n, d, c => if n % d = 0 then dv f (n / d) d (c + 1) else (n, c)
def dnext (n d : Nat) : Nat := if n < d * d then n else d
def facI : Nat → Nat → Nat → List Int → List Int → List Int × List Int
  | 0, _, _, ps, cs => (ps, cs)
  | f + 1, n, d, ps, cs => if 1 < n then
      (if 0 < (dv 10 n (dnext n d) 0).2 then facI f (dv 10 n (dnext n d) 0).1 (dnext n d + 1) (ps ++ [((dnext n d : Nat) : Int)]) (cs ++ [(((dv 10 n (dnext n d) 0).2 : Nat) : Int)])
       else facI f (dv 10 n (dnext n d) 0).1 (dnext n d + 1) ps cs)
    else (ps, cs)
theorem facI_one (f d : Nat) (ps cs : List Int) : facI f 1 d ps cs = (ps, cs) := by cases f <;> simp [facI]
theorem div_pos' {n d : Nat} (hn : 1 ≤ n) (h : n % d = 0) : 1 ≤ n / d := by
  rcases Nat.eq_zero_or_pos (n / d) with h0 | h0
  · have := Nat.div_add_mod n d; rw [h0, h, Nat.mul_zero] at this; omega
  · exact h0
theorem div_half {n d : Nat} (hd : 2 ≤ d) : n / d ≤ n / 2 := Nat.div_le_div_left hd (by omega)
theorem dv_ge (f : Nat) : ∀ n d c, 1 ≤ n → 2 ≤ d → 1 ≤ (dv f n d c).1 ∧ (dv f n d c).1 ≤ n := by
  induction f with
  | zero => intro n d c h _; exact ⟨h, Nat.le_refl _⟩
  | succ f ih =>
    intro n d c h hd
    unfold dv
    split
    · next h1 => have := ih (n / d) d (c + 1) (div_pos' h h1) hd; exact ⟨this.1, Nat.le_trans this.2 (Nat.div_le_self _ _)⟩
    · exact ⟨h, Nat.le_refl _⟩
theorem dv_self (n : Nat) (h : 2 ≤ n) : dv 10 n n 0 = (1, 1) := by
  rw [dv, if_pos (Nat.mod_self n), Nat.div_self (by omega), dv, if_neg (by rw [Nat.mod_eq_of_lt (by omega)]; omega)]
def dvS : Nat → Nat → Nat → List Int → Nat × List Int
  | 0, n, _, o => (n, o)
  | f + 1, n, d, o => if n % d = 0 then dvS f (n / d) d (o ++ [(d : Int)]) else (n, o)
def facS : Nat → Nat → Nat → List Int → Nat × List Int
  | 0, n, _, o => (n, o)
  | f + 1, n, d, o => if primeB (d : Int) = true then facS f (dvS 10 n d o).1 (d + 1) (dvS 10 n d o).2 else facS f n (d + 1) o
def flatTo (ps cs : List Int) (j : Nat) : List Int := (List.range j).flatMap fun i => rep [ps.getD i 0] (cs.getD i 0).toNat
theorem flatTo_succ (ps cs : List Int) (j : Nat) : flatTo ps cs (j + 1) = flatTo ps cs j ++ rep [ps.getD j 0] (cs.getD j 0).toNat := by simp [flatTo, List.range_succ]
def facs (n : Nat) : List Int × List Int := facI 40 n 2 [] []
def facT (n : Nat) : Nat × List Int := facS 6 n 2 []
def facOK (n : Nat) : Bool := (decide ((facT n).1 = 1) == primesB (facs n).1) && ((primesB (facs n).1 == false || decide (flatTo (facs n).1 (facs n).2 (facs n).1.length = (facT n).2)) && (decide ((facs n).1.length = (facs n).2.length) && (decide ((facs n).1.length ≤ 10) && (decide ((facT n).2.length ≤ 9) && (facs n).2.all fun c => decide (0 ≤ c ∧ c ≤ 9)))))
theorem facOK_all : ∀ n, n < 730 → 1 ≤ n → facOK n = true := by decide +kernel
def mFac (n d : Int) : Nat := if n ≤ 1 then 0 else 1001 - d.toNat
theorem mFac_lt {n d m e : Int} (h : 1 < n) (h2 : m ≤ 1 ∨ (d < e ∧ 0 ≤ d)) (h3 : d ≤ 1000) : mFac m e < mFac n d := by
  unfold mFac
  rw [if_neg (show ¬ n ≤ 1 by omega)]
  split <;> omega
def pow2 (g : Nat) : Nat := 2 ^ g
theorem Grew.ints' {w w' : World} {v v' u : Value} {B : Nat} {xs : List Int} (h : Grew w w' v v') (hu : Ints w B u xs) (hd : ∀ g, u.ownBlock = some g → ¬ v.ownBlock = some g) : Ints w' B u xs := Grew.own h hu hd
theorem Grew.apart {w w' : World} {v v' u : Value} {B : Nat} {xs : List Int} (h : Grew w w' v v') (hu : Ints w B u xs) (hd : ∀ g, u.ownBlock = some g → ¬ v.ownBlock = some g) : ∀ g, u.ownBlock = some g → ¬ v'.ownBlock = some g := by
  intro g hg hg'
  rcases h.moved g hg' with hm | hm
  · exact hd g hg hm
  · have := (hu.lt g hg).2; omega
theorem sq_lt {n d : Nat} (h : n < d * d) (hd : d ≤ 28) : (n : Int) < (d : Int) * (d : Int) := by exact_mod_cast h
theorem sq_ge {n d : Nat} (h : ¬ n < d * d) : (d : Int) * (d : Int) ≤ (n : Int) := by exact_mod_cast Nat.le_of_not_lt h
theorem sq_bd {d : Nat} (hd : d ≤ 28) : 0 ≤ (d : Int) * (d : Int) ∧ (d : Int) * (d : Int) ≤ 784 := by
  have : d * d ≤ 28 * 28 := Nat.mul_le_mul hd hd
  exact ⟨by exact_mod_cast Nat.zero_le _, by exact_mod_cast this⟩
theorem sq_small {n d : Nat} (h : ¬ n < d * d) (hn : n ≤ 729) : d ≤ 27 := by
  apply Classical.byContradiction
  intro hd
  have : 28 * 28 ≤ d * d := Nat.mul_le_mul (by omega) (by omega)
  omega
def Ret2Ints (w : World) (xs ys : List Int) (e : Ending) (w' : World) : Prop := ∃ v1 v2, e = .returned (.tuple #[v1, v2]) ∧ Ints w' w.heap.size v1 xs ∧ Ints w' w.heap.size v2 ys ∧ Below w.heap.size w w'
--== impl.factors
set_option maxHeartbeats 2000000 in
theorem i_factors (n0 : Nat) (w : World) (h0 : 1 ≤ n0) (h1 : n0 ≤ 729) :
    Calls Try.prog 81 #[.int .i64 n0] w (Ret2Ints w (facs n0).1 (facs n0).2) := by
  obtain ⟨i0, hi, hz0, hz1, hz2⟩ := info_parts Try.info2
  go_enter Try.func81, Try.ntmps81
  go_wp2_with fail
  go_loopw [0, 4, 5, 6] (fun nv u1 u2 dv wr => ∃ n d : Nat, nv = .int .i64 n ∧ dv = .int .i64 d ∧ 1 ≤ n ∧ n ≤ n0 ∧ 2 ≤ d ∧ d ≤ 730 ∧ ∃ f ps cs, (n = 1 ∨ d ≤ 28 ∧ 40 ≤ f + d) ∧ facI f n d ps cs = facs n0 ∧ ps.length ≤ 1000 - f ∧ cs.length ≤ 1000 - f ∧ f ≤ 100 ∧ Ints wr w.heap.size u1 ps ∧ Ints wr w.heap.size u2 cs ∧ (∀ g, u1.ownBlock = some g → ¬ u2.ownBlock = some g) ∧ Below w.heap.size w wr) (fun nv _ _ dv _ => mFac (intOf nv) (intOf dv))
  case atStart => exact ⟨n0, 2, rfl, rfl, h0, Nat.le_refl _, Nat.le_refl _, by omega, 40, [], [], .inr ⟨by omega, by omega⟩, rfl, by simp, by simp, by omega, Ints.nil _ _, Ints.nil _ _, fun g hg => by simp [Value.ownBlock] at hg, Below.refl _ _⟩
  case round =>
    obtain ⟨n, d, rfl, rfl, hn1, hn2, hd1, hd2, f, ps, cs, hfd, hF', hps, hcs, hf, hI1, hI2, hA, hB⟩ := hrel
    have hF := Lib.hid hF'
    have hS := hB.size
    clear hF'
    by_cases hlt : 1 < n
    · obtain ⟨hd28, hfd'⟩ : d ≤ 28 ∧ 40 ≤ f + d := by omega
      obtain ⟨f, rfl⟩ : ∃ k, f = k + 1 := ⟨f - 1, by omega⟩
      clear hfd
      obtain ⟨hq1, hq2⟩ := sq_bd hd28
      by_cases h2 : n < d * d
      · have hq3 := sq_lt h2 hd28
        have hq4 := Lib.hid (dv_self n (by omega))
        have hdn : Hid (dnext n d = n) := if_pos h2
        have hDb : 2 ≤ n ∧ n ≤ 729 := by omega
        have hD1 : (1 : Int) ≤ (n : Int) := by omega
        clear h2
        go_wp2_with fail
        clear hq1 hq2 hq3
        go_loop [0, 7] (fun nv cv => ∃ m c g : Nat, nv = .int .i64 m ∧ cv = .int .i64 c ∧ 1 ≤ m ∧ m ≤ n ∧ c + g = 10 ∧ m < pow2 g ∧ dv g m n c = dv 10 n n 0) (fun nv _ => (intOf nv).toNat)
        case atStart => exact ⟨n, 0, 10, rfl, rfl, hn1, Nat.le_refl _, rfl, by rw [pow2]; omega, rfl⟩
        case round =>
          obtain ⟨m, c, g, rfl, rfl, hm1, hmn, hcg, hmg, hdv⟩ := hrel
          by_cases hz : m % n = 0
          · have hz' : ((m : Int) % (n : Int)) = 0 := by rw [← Int.natCast_emod, hz]; rfl
            have hq0 : (m : Int) / (n : Int) = ((m / n : Nat) : Int) := (Int.natCast_ediv m n).symm
            have hq1 := div_pos' hm1 hz
            have hq2 := div_half (n := m) (d := n) (by omega)
            have HG : Hid (∃ g', g = g' + 1 ∧ m / n < pow2 g' ∧ dv g' (m / n) n (c + 1) = dv 10 n n 0) := by
              cases g with
              | zero => simp [pow2] at hmg; omega
              | succ g' => exact ⟨g', rfl, by rw [pow2, Nat.pow_succ] at hmg; rw [pow2]; omega, by rw [← hdv]; conv => rhs; rw [dv, if_pos hz]⟩
            clear hmg hdv
            generalize m / n = q at *
            go_wp2_with fail
            obtain ⟨g', rfl, hg1, hg2⟩ := HG.out
            go_round
            case rel => exact ⟨q, c + 1, g', by go_num, by go_num, hq1, by omega, by omega, hg1, hg2⟩
            case measure => simp [intOf]; omega
          · have hz' : ¬ ((m : Int) % (n : Int)) = 0 := by rw [← Int.natCast_emod]; exact fun h => hz (by exact_mod_cast h)
            have HV : Hid (dv 10 n (dnext n d) 0 = (m, c)) := by
              show _ = _
              rw [hdn.out, ← hdv]
              cases g with
              | zero => rfl
              | succ g' => rw [dv, if_neg hz]
            clear hdv hmg hz
            by_cases hc : 0 < c
            · go_wp2_with (at_builtin; refine wp_app1 _ rfl _ _ rfl w.heap.size i0 Try.underlying22 hi hz0 hz1 hz2 _ _ rfl hI1 (n : Int) rfl (by omega) (by omega) ?_)
              intro v1' w1 hI1' hG1 hB1
              have hI2' := hG1.ints' hI2 (fun g hg hg' => hA g hg' hg)
              have hA' := hG1.apart hI2 (fun g hg hg' => hA g hg' hg)
              have s1 := hG1.grown.size
              clear hI1 hI2
              go_wp2_with (at_builtin; refine wp_app1 _ rfl _ _ rfl w.heap.size i0 Try.underlying22 hi hz0 hz1 hz2 _ _ rfl hI2' (c : Int) rfl (by omega) (by omega) ?_)
              intro v2' w2 hI2'' hG2 hB2
              have hI1'' := hG2.ints' hI1' (fun g hg hg' => hA' g hg' hg)
              have hA'' := hG2.apart hI1' (fun g hg hg' => hA' g hg' hg)
              clear hI1' hI2'
              go_wp2_with fail
              go_roundw
              case rel =>
                refine ⟨m, n + 1, by go_num, by go_num, hm1, by omega, by omega, by omega, f, _, _, ?_, ?_, by simp; omega, by simp; omega, by omega, hI1'', hI2'', hA'', (hB.trans hB1).trans hB2⟩
                · refine .inl ?_; have h := dv_self n (by omega); rw [hdn.out, h] at HV; have := congrArg Prod.fst HV.out; simp at this; omega
                · have h := hF.out
                  rw [facI, if_pos hlt, HV.out, hdn.out] at h
                  simpa [hc] using h
              case measure => exact mFac_lt (by simp [intOf]; omega) (.inl (by have h := dv_self n (by omega); rw [hdn.out, h] at HV; have := congrArg Prod.fst HV.out; simp at this; simp [intOf]; omega)) (by simp [intOf]; omega)
            · obtain rfl : c = 0 := by omega
              go_wp2_with fail
              go_roundw
              case rel =>
                refine ⟨m, n + 1, by go_num, by go_num, hm1, by omega, by omega, by omega, f, _, _, ?_, ?_, by omega, by omega, by omega, hI1, hI2, hA, hB⟩
                · refine .inl ?_; have h := dv_self n (by omega); rw [hdn.out, h] at HV; have := congrArg Prod.fst HV.out; simp at this; omega
                · have h := hF.out
                  rw [facI, if_pos hlt, HV.out, hdn.out] at h
                  simpa using h
              case measure => exact mFac_lt (by simp [intOf]; omega) (.inl (by have h := dv_self n (by omega); rw [hdn.out, h] at HV; have := congrArg Prod.fst HV.out; simp at this; simp [intOf]; omega)) (by simp [intOf]; omega)
      · have hq3 := sq_ge h2
        have hq4 := sq_small h2 (by omega)
        have hdn : Hid (dnext n d = d) := if_neg h2
        have hDb : 2 ≤ d ∧ d ≤ 729 := by omega
        have hD1 : (1 : Int) ≤ (d : Int) := by omega
        clear h2
        go_wp2_with fail
        clear hq1 hq2 hq3
        go_loop [0, 7] (fun nv cv => ∃ m c g : Nat, nv = .int .i64 m ∧ cv = .int .i64 c ∧ 1 ≤ m ∧ m ≤ n ∧ c + g = 10 ∧ m < pow2 g ∧ dv g m d c = dv 10 n d 0) (fun nv _ => (intOf nv).toNat)
        case atStart => exact ⟨n, 0, 10, rfl, rfl, hn1, Nat.le_refl _, rfl, by rw [pow2]; omega, rfl⟩
        case round =>
          obtain ⟨m, c, g, rfl, rfl, hm1, hmn, hcg, hmg, hdv⟩ := hrel
          by_cases hz : m % d = 0
          · have hz' : ((m : Int) % (d : Int)) = 0 := by rw [← Int.natCast_emod, hz]; rfl
            have hq0 : (m : Int) / (d : Int) = ((m / d : Nat) : Int) := (Int.natCast_ediv m d).symm
            have hq1 := div_pos' hm1 hz
            have hq2 := div_half (n := m) (d := d) (by omega)
            have HG : Hid (∃ g', g = g' + 1 ∧ m / d < pow2 g' ∧ dv g' (m / d) d (c + 1) = dv 10 n d 0) := by
              cases g with
              | zero => simp [pow2] at hmg; omega
              | succ g' => exact ⟨g', rfl, by rw [pow2, Nat.pow_succ] at hmg; rw [pow2]; omega, by rw [← hdv]; conv => rhs; rw [dv, if_pos hz]⟩
            clear hmg hdv
            generalize m / d = q at *
            go_wp2_with fail
            obtain ⟨g', rfl, hg1, hg2⟩ := HG.out
            go_round
            case rel => exact ⟨q, c + 1, g', by go_num, by go_num, hq1, by omega, by omega, hg1, hg2⟩
            case measure => simp [intOf]; omega
          · have hz' : ¬ ((m : Int) % (d : Int)) = 0 := by rw [← Int.natCast_emod]; exact fun h => hz (by exact_mod_cast h)
            have HV : Hid (dv 10 n (dnext n d) 0 = (m, c)) := by
              show _ = _
              rw [hdn.out, ← hdv]
              cases g with
              | zero => rfl
              | succ g' => rw [dv, if_neg hz]
            clear hdv hmg hz
            by_cases hc : 0 < c
            · go_wp2_with (at_builtin; refine wp_app1 _ rfl _ _ rfl w.heap.size i0 Try.underlying22 hi hz0 hz1 hz2 _ _ rfl hI1 (d : Int) rfl (by omega) (by omega) ?_)
              intro v1' w1 hI1' hG1 hB1
              have hI2' := hG1.ints' hI2 (fun g hg hg' => hA g hg' hg)
              have hA' := hG1.apart hI2 (fun g hg hg' => hA g hg' hg)
              have s1 := hG1.grown.size
              clear hI1 hI2
              go_wp2_with (at_builtin; refine wp_app1 _ rfl _ _ rfl w.heap.size i0 Try.underlying22 hi hz0 hz1 hz2 _ _ rfl hI2' (c : Int) rfl (by omega) (by omega) ?_)
              intro v2' w2 hI2'' hG2 hB2
              have hI1'' := hG2.ints' hI1' (fun g hg hg' => hA' g hg' hg)
              have hA'' := hG2.apart hI1' (fun g hg hg' => hA' g hg' hg)
              clear hI1' hI2'
              go_wp2_with fail
              go_roundw
              case rel =>
                refine ⟨m, d + 1, by go_num, by go_num, hm1, by omega, by omega, by omega, f, _, _, ?_, ?_, by simp; omega, by simp; omega, by omega, hI1'', hI2'', hA'', (hB.trans hB1).trans hB2⟩
                · exact .inr ⟨by omega, by omega⟩
                · have h := hF.out
                  rw [facI, if_pos hlt, HV.out, hdn.out] at h
                  simpa [hc] using h
              case measure => exact mFac_lt (by simp [intOf]; omega) (.inr ⟨by simp [intOf]; omega, by simp [intOf]⟩) (by simp [intOf]; omega)
            · obtain rfl : c = 0 := by omega
              go_wp2_with fail
              go_roundw
              case rel =>
                refine ⟨m, d + 1, by go_num, by go_num, hm1, by omega, by omega, by omega, f, _, _, ?_, ?_, by omega, by omega, by omega, hI1, hI2, hA, hB⟩
                · exact .inr ⟨by omega, by omega⟩
                · have h := hF.out
                  rw [facI, if_pos hlt, HV.out, hdn.out] at h
                  simpa using h
              case measure => exact mFac_lt (by simp [intOf]; omega) (.inr ⟨by simp [intOf]; omega, by simp [intOf]⟩) (by simp [intOf]; omega)
    · obtain rfl : n = 1 := by omega
      rw [facI_one] at hF
      go_wp2_with fail
      refine bodyPost_ret (v := .tuple #[_, _]) (by simp [results, Try.results81, go_sem]; exact ⟨rfl, rfl⟩) rfl ?_
      rw [← hF.out]
      exact ⟨_, _, rfl, hI1, hI2, hB⟩
--== spec.l07Factors
def RetIB (w : World) (xs : List Int) (b : Bool) (e : Ending) (w' : World) : Prop := ∃ v, e = .returned (.tuple #[v, .bool b]) ∧ Ints w' w.heap.size v xs ∧ Below w.heap.size w w'
set_option maxHeartbeats 2000000 in
theorem s_l07Factors (n0 : Nat) (w : World) (h0 : 1 ≤ n0) (h1 : n0 ≤ 729) :
    Calls Try.prog 78 #[.int .i64 n0] w (RetIB w (facT n0).2 (decide ((facT n0).1 = 1))) := by
  obtain ⟨i0, hi, hz0, hz1, hz2⟩ := info_parts Try.info2
  have E0 := Ints.empty w
  have g0 := below_alloc w (.cells #[] 2)
  go_enter Try.func78, Try.ntmps78
  go_wp2_with fail
  go_loopw [0, 4, 5] (fun nv u dv wr => ∃ n d : Nat, nv = .int .i64 n ∧ dv = .int .i64 d ∧ 1 ≤ n ∧ n ≤ n0 ∧ 2 ≤ d ∧ d ≤ 8 ∧ ∃ f os, f + d = 8 ∧ facS f n d os = facT n0 ∧ os.length ≤ 1000 + 10 * d ∧ Ints wr w.heap.size u os ∧ Below w.heap.size w wr) (fun _ _ dv _ => 8 - (intOf dv).toNat)
  case atStart => exact ⟨n0, 2, rfl, rfl, h0, Nat.le_refl _, Nat.le_refl _, by omega, 6, [], rfl, rfl, by simp, E0, g0⟩
  case round =>
    obtain ⟨n, d, rfl, rfl, hn1, hn2, hd1, hd2, f, os, hfd, hF', hos, hI, hB⟩ := hrel
    have hF := Lib.hid hF'
    have hS := hB.size
    clear hF' E0 g0
    by_cases hlt : d ≤ 7
    · obtain ⟨f, rfl⟩ : ∃ k, f = k + 1 := ⟨f - 1, by omega⟩
      have hd0 : (1 : Int) ≤ (d : Int) := by omega
      have hdt : decide ((d : Int) ≤ 7) = true := by simp; omega
      by_cases hp : primeB (d : Int) = true
      · go_wp2_with fail
        go_loopw [0, 4] (fun nv u wr2 => ∃ m g R, nv = .int .i64 ((m : Nat) : Int) ∧ 1 ≤ m ∧ m ≤ n ∧ m < pow2 g ∧ dvS g m d R = dvS 10 n d os ∧ R.length + g ≤ 1010 + 10 * d ∧ g ≤ 10 ∧ Ints wr2 w.heap.size u R ∧ Below w.heap.size w wr2) (fun nv _ _ => (intOf nv).toNat)
        case atStart => exact ⟨n, 10, os, rfl, hn1, Nat.le_refl _, by rw [pow2]; omega, rfl, by omega, by omega, hI, hB⟩
        case round =>
          clear hI hB hS
          obtain ⟨m, g, R, rfl, hm1, hmn, hmg, hdv, hR, hg, hI, hB⟩ := hrel
          have hS := hB.size
          by_cases hz : m % d = 0
          · have hz' : ((m : Int) % (d : Int)) = 0 := by rw [← Int.natCast_emod, hz]; rfl
            have hq0 : (m : Int) / (d : Int) = ((m / d : Nat) : Int) := (Int.natCast_ediv m d).symm
            have hq1 := div_pos' hm1 hz
            have hq2 := div_half (n := m) (d := d) (by omega)
            have HG : Hid (∃ g', g = g' + 1 ∧ m / d < pow2 g' ∧ dvS g' (m / d) d (R ++ [(d : Int)]) = dvS 10 n d os) := by
              cases g with
              | zero => simp [pow2] at hmg; omega
              | succ g' => exact ⟨g', rfl, by rw [pow2, Nat.pow_succ] at hmg; rw [pow2]; omega, by rw [← hdv]; conv => rhs; rw [dvS, if_pos hz]⟩
            clear hmg hdv
            generalize m / d = q at *
            go_wp2_with (first
              | (go_at_call 131; refine (s_l01Prime _ _).mono ?_; rintro e w' ⟨rfl, rfl⟩; rw [hp])
              | (at_builtin; refine wp_app1 _ rfl _ _ rfl w.heap.size i0 Try.underlying22 hi hz0 hz1 hz2 _ _ rfl hI (d : Int) rfl (by omega) (by omega) ?_))
            intro v' w1 hI1 hG1 hB1
            go_wp2_with fail
            obtain ⟨g', rfl, hg1, hg2⟩ := HG.out
            go_roundw
            case rel => exact ⟨q, g', _, by go_num, hq1, by omega, hg1, hg2, by simp; omega, by omega, hI1, hB.trans hB1⟩
            case measure => simp [intOf]; omega
          · have hz' : ¬ ((m : Int) % (d : Int)) = 0 := by rw [← Int.natCast_emod]; exact fun h => hz (by exact_mod_cast h)
            have HV : Hid (dvS 10 n d os = (m, R)) := by
              show _ = _
              rw [← hdv]
              cases g with
              | zero => rfl
              | succ g' => rw [dvS, if_neg hz]
            clear hdv hmg hz
            go_wp2_with (go_at_call 131; refine (s_l01Prime _ _).mono ?_; rintro e w' ⟨rfl, rfl⟩; rw [hp])
            go_roundw
            case rel => exact ⟨m, d + 1, by go_num, by go_num, hm1, by omega, by omega, by omega, f, R, by omega, by have h := hF.out; rw [facS, if_pos hp, HV.out] at h; exact h, by omega, hI, hB⟩
            case measure => simp [intOf]; omega
      · have hp' : primeB (d : Int) = false := by simpa using hp
        go_wp2_with fail
        try rw [hdt]
        go_loopw [0, 4] (fun nv u wr2 => nv = .int .i64 (n : Int) ∧ Ints wr2 w.heap.size u os ∧ Below w.heap.size w wr2) (fun nv _ _ => (intOf nv).toNat)
        case atStart => exact ⟨rfl, hI, hB⟩
        case round =>
          clear hI hB hS
          obtain ⟨rfl, hI, hB⟩ := hrel
          go_wp2_with (go_at_call 131; refine (s_l01Prime _ _).mono ?_; rintro e w' ⟨rfl, rfl⟩; rw [hp'])
          go_roundw
          case rel => exact ⟨n, d + 1, by go_num, by go_num, hn1, by omega, by omega, by omega, f, os, by omega, by have h := hF.out; rw [facS, if_neg hp] at h; exact h, by omega, hI, hB⟩
          case measure => simp [intOf]; omega
    · obtain rfl : d = 8 := by omega
      obtain rfl : f = 0 := by omega
      go_wp2_with fail
      refine bodyPost_ret (v := .tuple #[_, .bool (decide ((n : Int) = 1))]) (by simp [results, Try.results78, go_sem]; exact ⟨rfl, rfl⟩) rfl ?_
      rw [← hF.out]
      have e : (decide ((n : Int) = 1)) = decide (n = 1) := by simp only [decide_eq_decide]; omega
      exact ⟨_, by rw [e]; rfl, hI, hB⟩
end Go.Proofs.Ythnpndheaailjaa
