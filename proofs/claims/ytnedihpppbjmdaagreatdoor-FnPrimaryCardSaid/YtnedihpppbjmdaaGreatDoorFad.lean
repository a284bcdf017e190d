/-
  The prime factors of a number up to a million; no draw is given back.
-/
import Derived.Test.YtnedihpppbjmdaaGreatDoorLeaf
import Derived.Test.YtnedihpppbjmdaaGreatDoorDrn
import Derived.Test.YtnedihpppbjmdaaGreatDoorPra
namespace Go.Proofs.YtnedihpppbjmdaaGreatDoor
set_option linter.unusedVariables false
set_option linter.unusedSimpArgs false
set_option maxRecDepth 100000
open Go.RowKit

/-- all that lay there is as it was, and no draw is given back -/
def Bld (w w' : World) : Prop := Below w.heap.size w w' ∧ w.drawn ≤ w'.drawn
theorem Bld.refl (w : World) : Bld w w := ⟨Below.refl _ _, Nat.le_refl _⟩
theorem Bld.trans {w w1 w2 : World} (h : Bld w w1) (k : Below w.heap.size w1 w2 ∧ w1.drawn ≤ w2.drawn) : Bld w w2 := ⟨h.1.trans k.1, Nat.le_trans h.2 k.2⟩
theorem Bld.then {w w1 w2 : World} (h : Bld w w1) (k : Bld w1 w2) : Bld w w2 := ⟨h.1.trans (k.1.mono h.1.size), Nat.le_trans h.2 k.2⟩
def Ret2IntsD (w : World) (xs ys : List Int) (e : Ending) (w' : World) : Prop := ∃ v1 v2, e = .returned (.tuple #[v1, v2]) ∧ Ints w' w.heap.size v1 xs ∧ Ints w' w.heap.size v2 ys ∧ Bld w w'
--== factors2
def nI (xs : List Nat) : List Int := xs.map fun n : Nat => ((n : Nat) : Int)
theorem nI_length (xs : List Nat) : (nI xs).length = xs.length := by simp [nI]
theorem nI_snoc (xs : List Nat) (n : Nat) : nI (xs ++ [n]) = nI xs ++ [(n : Int)] := by simp [nI]
theorem dv_ge (f : Nat) : ∀ n d c, 1 ≤ n → 2 ≤ d → 1 ≤ (dv f n d c).1 ∧ (dv f n d c).1 ≤ n := by
  induction f with
  | zero => intro n d c h _; exact ⟨h, Nat.le_refl _⟩
  | succ f ih =>
    intro n d c h hd
    unfold dv
    split
    · next h1 => have := ih (n / d) d (c + 1) (div_pos' h h1) hd; exact ⟨this.1, Nat.le_trans this.2 (Nat.div_le_self _ _)⟩
    · exact ⟨h, Nat.le_refl _⟩
def pow2 (g : Nat) : Nat := 2 ^ g
theorem Grew.ints' {w w' : World} {v v' u : Value} {B : Nat} {xs : List Int} (h : Grew w w' v v') (hu : Ints w B u xs) (hd : ∀ g, u.ownBlock = some g → ¬ v.ownBlock = some g) : Ints w' B u xs := Grew.own h hu hd
theorem Grew.apart {w w' : World} {v v' u : Value} {B : Nat} {xs : List Int} (h : Grew w w' v v') (hu : Ints w B u xs) (hd : ∀ g, u.ownBlock = some g → ¬ v.ownBlock = some g) : ∀ g, u.ownBlock = some g → ¬ v'.ownBlock = some g := by
  intro g hg hg'
  rcases h.moved g hg' with hm | hm
  · exact hd g hg hm
  · have := (hu.lt g hg).2; omega
def mFad (n d : Int) : Nat := if n ≤ 1 then 0 else 1000003 - d.toNat
theorem mFad_lt {n d m e : Int} (h : 1 < n) (h2 : m ≤ 1 ∨ (d < e ∧ 0 ≤ d)) (h3 : d ≤ 1000002) : mFad m e < mFad n d := by
  unfold mFad
  rw [if_neg (show ¬ n ≤ 1 by omega)]
  split <;> omega
theorem sq_lt' {n d : Nat} (h : n < d * d) : (n : Int) < (d : Int) * (d : Int) := by exact_mod_cast h
theorem sq_bd' {d : Nat} (hd : d ≤ 1001) : 0 ≤ (d : Int) * (d : Int) ∧ (d : Int) * (d : Int) ≤ 1002001 := by
  have h := Int.ofNat_le.2 (Nat.mul_le_mul hd hd)
  have h2 := Int.ofNat_le.2 (Nat.zero_le (d * d))
  rw [Int.natCast_mul] at h h2
  exact ⟨h2, by simpa using h⟩
theorem sq_ge' {n d : Nat} (h : ¬ n < d * d) : (d : Int) * (d : Int) ≤ (n : Int) := by exact_mod_cast Nat.le_of_not_lt h
theorem sq_small' {n d : Nat} (h : ¬ n < d * d) (hn : n ≤ 1000000) : d ≤ 1000 := by
  apply Classical.byContradiction
  intro hd
  have : 1001 * 1001 ≤ d * d := Nat.mul_le_mul (by omega) (by omega)
  omega
--== impl.factors
set_option maxHeartbeats 2000000 in
theorem i_facW (n0 : Nat) (w : World) (h0 : 1 ≤ n0) (h1 : n0 ≤ 1000000) :
    Calls Tryz.prog 26 #[.int .i64 n0] w (Ret2IntsD w (nI ((facN n0).map (·.1))) (nI ((facN n0).map (·.2)))) := by
  obtain ⟨i0, hi, hz0, hz1, hz2⟩ := info_parts Tryz.info2
  go_enter Tryz.func26, Tryz.ntmps26
  go_wp2_with fail
  go_loopw [0, 4, 5, 6] (fun nv u1 u2 dv wr => ∃ n d : Nat, nv = .int .i64 n ∧ dv = .int .i64 d ∧ 1 ≤ n ∧ n ≤ n0 ∧ 2 ≤ d ∧ d ≤ 1000001 ∧ ∃ f L ps cs, ps = nI (L.map (·.1)) ∧ cs = nI (L.map (·.2)) ∧ (n = 1 ∨ d ≤ 1001 ∧ 1003 ≤ f + d) ∧ L ++ facJ f n d = facN n0 ∧ L.length ≤ 2000 - f ∧ f ≤ 1001 ∧ Ints wr w.heap.size u1 ps ∧ Ints wr w.heap.size u2 cs ∧ (∀ g, u1.ownBlock = some g → ¬ u2.ownBlock = some g) ∧ Bld w wr) (fun nv _ _ dv _ => mFad (intOf nv) (intOf dv))
  case atStart => exact ⟨n0, 2, rfl, rfl, h0, Nat.le_refl _, Nat.le_refl _, by omega, 1001, [], [], [], rfl, rfl, .inr ⟨by omega, by omega⟩, rfl, by simp, by omega, Ints.nil _ _, Ints.nil _ _, fun g hg => by simp [Value.ownBlock] at hg, Bld.refl _⟩
  case round =>
    obtain ⟨n, d, rfl, rfl, hn1, hn2, hd1, hd2, f, L, ps, cs, he1, he2, hfd, hF', hps, hf, hI1, hI2, hA, hB⟩ := hrel
    have hF := Lib.hid hF'
    have hl1 : ps.length ≤ 2000 := by rw [he1, nI_length, List.length_map]; omega
    have hl2 : cs.length ≤ 2000 := by rw [he2, nI_length, List.length_map]; omega
    have HE1 := Lib.hid he1
    have HE2 := Lib.hid he2
    have HPS := Lib.hid hps
    clear he1 he2 hps
    have hS := hB.1.size
    clear hF'
    by_cases hlt : 1 < n
    · obtain ⟨hd28, hfd'⟩ : d ≤ 1001 ∧ 1003 ≤ f + d := by omega
      obtain ⟨f, rfl⟩ : ∃ k, f = k + 1 := ⟨f - 1, by omega⟩
      clear hfd
      obtain ⟨hq1, hq2⟩ := sq_bd' hd28
      by_cases h2 : n < d * d
      · have hq3 := sq_lt' h2
        have hq4 := Lib.hid (dv_self' n (by omega))
        have hdn : Hid (dnext n d = n) := if_pos h2
        have hDb : 2 ≤ n ∧ n ≤ 1000000 := by omega
        have hD1 : (1 : Int) ≤ (n : Int) := by omega
        clear h2
        go_wp2_with fail
        clear hq1 hq2 hq3
        go_loop [0, 7] (fun nv cv => ∃ m c g : Nat, nv = .int .i64 m ∧ cv = .int .i64 c ∧ 1 ≤ m ∧ m ≤ n ∧ c + g = 20 ∧ m < pow2 g ∧ dv g m n c = dv 20 n n 0) (fun nv _ => (intOf nv).toNat)
        case atStart => exact ⟨n, 0, 20, rfl, rfl, hn1, Nat.le_refl _, rfl, by rw [pow2]; omega, rfl⟩
        case round =>
          obtain ⟨m, c, g, rfl, rfl, hm1, hmn, hcg, hmg, hdv⟩ := hrel
          by_cases hz : m % n = 0
          · have hz' : ((m : Int) % (n : Int)) = 0 := by rw [← Int.natCast_emod, hz]; rfl
            have hq0 : (m : Int) / (n : Int) = ((m / n : Nat) : Int) := (Int.natCast_ediv m n).symm
            have hq1 := div_pos' hm1 hz
            have hq2 := div_half (n := m) (d := n) (by omega)
            have HG : Hid (∃ g', g = g' + 1 ∧ m / n < pow2 g' ∧ dv g' (m / n) n (c + 1) = dv 20 n n 0) := by
              cases g with
              | zero => simp [pow2] at hmg; omega
              | succ g' => exact ⟨g', rfl, by rw [pow2, Nat.pow_succ] at hmg; rw [pow2]; omega, by rw [← hdv]; conv => rhs; rw [dv, if_pos hz]⟩
            clear hmg hdv
            generalize m / n = q at *
            go_wp2_with fail
            obtain ⟨g', rfl, hg1, hg2⟩ := HG.out
            go_round
            case rel => exact ⟨q, c + 1, g', by go_num, by go_num, hq1, by omega, by omega, hg1, hg2⟩
            case measure => simp [intOf]; omega
          · have hz' : ¬ ((m : Int) % (n : Int)) = 0 := by rw [← Int.natCast_emod]; exact fun h => hz (by exact_mod_cast h)
            have HV : Hid (dv 20 n (dnext n d) 0 = (m, c)) := by
              show _ = _
              rw [hdn.out, ← hdv]
              cases g with
              | zero => rfl
              | succ g' => rw [dv, if_neg hz]
            clear hdv hmg hz
            by_cases hc : 0 < c
            · go_wp2_with (at_builtin; refine wp_appD _ rfl _ _ rfl w.heap.size i0 Tryz.underlying24 hi hz0 hz1 hz2 _ _ rfl hI1 (n : Int) rfl (by omega) (by omega) ?_)
              intro v1' w1 hI1' hG1 hB1a hB1b
              have hB1 := And.intro hB1a hB1b
              clear hB1a hB1b
              have hI2' := hG1.ints' hI2 (fun g hg hg' => hA g hg' hg)
              have hA' := hG1.apart hI2 (fun g hg hg' => hA g hg' hg)
              have s1 := hG1.grown.size
              clear hI1 hI2
              go_wp2_with (at_builtin; refine wp_appD _ rfl _ _ rfl w.heap.size i0 Tryz.underlying24 hi hz0 hz1 hz2 _ _ rfl hI2' (c : Int) rfl (by omega) (by omega) ?_)
              intro v2' w2 hI2'' hG2 hB2a hB2b
              have hB2 := And.intro hB2a hB2b
              clear hB2a hB2b
              have hI1'' := hG2.ints' hI1' (fun g hg hg' => hA' g hg' hg)
              have hA'' := hG2.apart hI1' (fun g hg hg' => hA' g hg' hg)
              clear hI1' hI2'
              go_wp2_with fail
              go_roundw
              case rel =>
                refine ⟨m, n + 1, by go_num, by go_num, hm1, by omega, by omega, by omega, f, L ++ [(n, c)], _, _, by rw [HE1.out]; simp [nI], by rw [HE2.out]; simp [nI], ?_, ?_, by have := HPS.out; simp; omega, by omega, hI1'', hI2'', hA'', (hB.trans hB1).trans hB2⟩
                · refine .inl ?_; have h := dv_self' n (by omega); rw [hdn.out, h] at HV; have := congrArg Prod.fst HV.out; simp at this; omega
                · have h := hF.out
                  rw [facJ, if_pos hlt, HV.out, hdn.out] at h
                  simpa [hc] using h
              case measure => exact mFad_lt (by simp [intOf]; omega) (.inl (by have h := dv_self' n (by omega); rw [hdn.out, h] at HV; have := congrArg Prod.fst HV.out; simp at this; simp [intOf]; omega)) (by simp [intOf]; omega)
            · obtain rfl : c = 0 := by omega
              go_wp2_with fail
              go_roundw
              case rel =>
                refine ⟨m, n + 1, by go_num, by go_num, hm1, by omega, by omega, by omega, f, L, _, _, HE1.out, HE2.out, ?_, ?_, by have := HPS.out; omega, by omega, hI1, hI2, hA, hB⟩
                · refine .inl ?_; have h := dv_self' n (by omega); rw [hdn.out, h] at HV; have := congrArg Prod.fst HV.out; simp at this; omega
                · have h := hF.out
                  rw [facJ, if_pos hlt, HV.out, hdn.out] at h
                  simpa using h
              case measure => exact mFad_lt (by simp [intOf]; omega) (.inl (by have h := dv_self' n (by omega); rw [hdn.out, h] at HV; have := congrArg Prod.fst HV.out; simp at this; simp [intOf]; omega)) (by simp [intOf]; omega)
      · have hq3 := sq_ge' h2
        have hq4 := sq_small' h2 (by omega)
        have hdn : Hid (dnext n d = d) := if_neg h2
        have hDb : 2 ≤ d ∧ d ≤ 1000000 := by omega
        have hD1 : (1 : Int) ≤ (d : Int) := by omega
        clear h2
        go_wp2_with fail
        clear hq1 hq2 hq3
        go_loop [0, 7] (fun nv cv => ∃ m c g : Nat, nv = .int .i64 m ∧ cv = .int .i64 c ∧ 1 ≤ m ∧ m ≤ n ∧ c + g = 20 ∧ m < pow2 g ∧ dv g m d c = dv 20 n d 0) (fun nv _ => (intOf nv).toNat)
        case atStart => exact ⟨n, 0, 20, rfl, rfl, hn1, Nat.le_refl _, rfl, by rw [pow2]; omega, rfl⟩
        case round =>
          obtain ⟨m, c, g, rfl, rfl, hm1, hmn, hcg, hmg, hdv⟩ := hrel
          by_cases hz : m % d = 0
          · have hz' : ((m : Int) % (d : Int)) = 0 := by rw [← Int.natCast_emod, hz]; rfl
            have hq0 : (m : Int) / (d : Int) = ((m / d : Nat) : Int) := (Int.natCast_ediv m d).symm
            have hq1 := div_pos' hm1 hz
            have hq2 := div_half (n := m) (d := d) (by omega)
            have HG : Hid (∃ g', g = g' + 1 ∧ m / d < pow2 g' ∧ dv g' (m / d) d (c + 1) = dv 20 n d 0) := by
              cases g with
              | zero => simp [pow2] at hmg; omega
              | succ g' => exact ⟨g', rfl, by rw [pow2, Nat.pow_succ] at hmg; rw [pow2]; omega, by rw [← hdv]; conv => rhs; rw [dv, if_pos hz]⟩
            clear hmg hdv
            generalize m / d = q at *
            go_wp2_with fail
            obtain ⟨g', rfl, hg1, hg2⟩ := HG.out
            go_round
            case rel => exact ⟨q, c + 1, g', by go_num, by go_num, hq1, by omega, by omega, hg1, hg2⟩
            case measure => simp [intOf]; omega
          · have hz' : ¬ ((m : Int) % (d : Int)) = 0 := by rw [← Int.natCast_emod]; exact fun h => hz (by exact_mod_cast h)
            have HV : Hid (dv 20 n (dnext n d) 0 = (m, c)) := by
              show _ = _
              rw [hdn.out, ← hdv]
              cases g with
              | zero => rfl
              | succ g' => rw [dv, if_neg hz]
            clear hdv hmg hz
            by_cases hc : 0 < c
            · go_wp2_with (at_builtin; refine wp_appD _ rfl _ _ rfl w.heap.size i0 Tryz.underlying24 hi hz0 hz1 hz2 _ _ rfl hI1 (d : Int) rfl (by omega) (by omega) ?_)
              intro v1' w1 hI1' hG1 hB1a hB1b
              have hB1 := And.intro hB1a hB1b
              clear hB1a hB1b
              have hI2' := hG1.ints' hI2 (fun g hg hg' => hA g hg' hg)
              have hA' := hG1.apart hI2 (fun g hg hg' => hA g hg' hg)
              have s1 := hG1.grown.size
              clear hI1 hI2
              go_wp2_with (at_builtin; refine wp_appD _ rfl _ _ rfl w.heap.size i0 Tryz.underlying24 hi hz0 hz1 hz2 _ _ rfl hI2' (c : Int) rfl (by omega) (by omega) ?_)
              intro v2' w2 hI2'' hG2 hB2a hB2b
              have hB2 := And.intro hB2a hB2b
              clear hB2a hB2b
              have hI1'' := hG2.ints' hI1' (fun g hg hg' => hA' g hg' hg)
              have hA'' := hG2.apart hI1' (fun g hg hg' => hA' g hg' hg)
              clear hI1' hI2'
              go_wp2_with fail
              go_roundw
              case rel =>
                refine ⟨m, d + 1, by go_num, by go_num, hm1, by omega, by omega, by omega, f, L ++ [(d, c)], _, _, by rw [HE1.out]; simp [nI], by rw [HE2.out]; simp [nI], ?_, ?_, by have := HPS.out; simp; omega, by omega, hI1'', hI2'', hA'', (hB.trans hB1).trans hB2⟩
                · exact .inr ⟨by omega, by omega⟩
                · have h := hF.out
                  rw [facJ, if_pos hlt, HV.out, hdn.out] at h
                  simpa [hc] using h
              case measure => exact mFad_lt (by simp [intOf]; omega) (.inr ⟨by simp [intOf]; omega, by simp [intOf]⟩) (by simp [intOf]; omega)
            · obtain rfl : c = 0 := by omega
              go_wp2_with fail
              go_roundw
              case rel =>
                refine ⟨m, d + 1, by go_num, by go_num, hm1, by omega, by omega, by omega, f, L, _, _, HE1.out, HE2.out, ?_, ?_, by have := HPS.out; omega, by omega, hI1, hI2, hA, hB⟩
                · exact .inr ⟨by omega, by omega⟩
                · have h := hF.out
                  rw [facJ, if_pos hlt, HV.out, hdn.out] at h
                  simpa using h
              case measure => exact mFad_lt (by simp [intOf]; omega) (.inr ⟨by simp [intOf]; omega, by simp [intOf]⟩) (by simp [intOf]; omega)
    · obtain rfl : n = 1 := by omega
      rw [facJ_one] at hF
      go_wp2_with fail
      refine bodyPost_ret (v := .tuple #[_, _]) (by simp [results, Tryz.results26, go_sem]; exact ⟨rfl, rfl⟩) rfl ?_
      have hF2 := hF.out
      simp only [List.append_nil] at hF2
      rw [← hF2, ← HE1.out, ← HE2.out]
      exact ⟨_, _, rfl, hI1, hI2, hB⟩
end Go.Proofs.YtnedihpppbjmdaaGreatDoor
