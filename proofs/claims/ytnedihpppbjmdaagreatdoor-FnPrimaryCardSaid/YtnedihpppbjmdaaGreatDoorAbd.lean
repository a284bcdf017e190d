/-
  The reference's primary parts of factors.
-/
import Derived.Test.YtnedihpppbjmdaaGreatDoorAbb
namespace Go.Proofs.YtnedihpppbjmdaaGreatDoor
set_option linter.unusedVariables false
set_option linter.unusedSimpArgs false
set_option maxRecDepth 100000
open Go.RowKit

theorem facJ_len : ∀ f n d, (facJ f n d).length ≤ f := by
  intro f
  induction f with
  | zero => intro n d; simp [facJ]
  | succ f ih =>
    intro n d
    rw [facJ]
    split
    · split
      · rw [List.length_cons]; have := ih (dv 20 n (dnext n d) 0).1 (dnext n d + 1); omega
      · have := ih (dv 20 n (dnext n d) 0).1 (dnext n d + 1); omega
    · simp
theorem parts_len (fs : List Nat) : (parts fs).length ≤ 1001 * fs.length := by
  induction fs with
  | nil => simp [parts]
  | cons f fs ih =>
    have h := facJ_len 1001 f 2
    unfold parts at *
    rw [List.flatMap_cons, List.length_append, List.length_cons]
    have : (prt f).length = (facJ 1001 f 2).length := by simp [prt, facN]
    omega
def pw2 (L : List (Nat × Nat)) : List Nat := L.map fun x => x.1 ^ x.2
theorem parts_take {fs : List Nat} {i : Nat} (h : i < fs.length) : parts (fs.take (i + 1)) = parts (fs.take i) ++ prt (fs.getD i 0) := by
  have e : fs.take (i + 1) = fs.take i ++ [fs.getD i 0] := by
    rw [List.take_add_one, List.getD_eq_getElem?_getD, List.getElem?_eq_getElem h]; rfl
  rw [e]
  simp [parts]
--== spec.l05Parts
set_option maxHeartbeats 16000000 in
theorem s_l05Parts (v : Value) (fs : List Nat) (w : World) (hv : Rd w v (nI fs)) (hf : ∀ f ∈ fs, 2 ≤ f ∧ f ≤ 1000000) (hn : fs.length ≤ 100) : Calls Tryz.prog 19 #[v] w (RetInts w (nI (sortP (parts fs)))) := by
  obtain ⟨i0, hi, hz0, hz1, hz2⟩ := info_parts Tryz.info2
  have HV := Lib.hid hv
  have HF := Lib.hid hf
  obtain ⟨ao, cap, rfl, _, _⟩ := hv.form
  rw [nI_length] at *
  obtain ⟨nf, hnf⟩ : ∃ n, fs.length = n := ⟨_, rfl⟩
  have HNF := Lib.hid hnf
  rw [hnf] at hn HV ⊢
  clear hv hf hnf
  go_enter Tryz.func19, Tryz.ntmps19
  go_wp2_with fail
  go_loopw [3, 4] (fun u iv wr => ∃ (i : Nat) (ps : List Int), iv = .int .i64 i ∧ i ≤ nf ∧ ps = nI (parts (fs.take i)) ∧ Ints wr w.heap.size u ps ∧ Below w.heap.size w wr) (fun _ iv _ => nf - (intOf iv).toNat)
  case atStart => exact ⟨0, [], rfl, Nat.zero_le _, by simp [parts, nI], Ints.empty w, below_alloc w _⟩
  case round =>
    obtain ⟨i, ps0, rfl, hin, hps, hI, hB⟩ := hrel
    have HPS := Lib.hid hps
    by_cases hlt : i < nf
    · obtain ⟨bf, of, rfl, hcell⟩ := (HV.out.below hB).at (j := i) (by rw [nI_length, HNF.out]; exact hlt)
      rw [nI_getD] at hcell
      have hfi := HF.out (fs.getD i 0) (getD_mem_nat (by rw [HNF.out]; exact hlt))
      have HPT : Hid (parts (fs.take (i + 1)) = parts (fs.take i) ++ prt (fs.getD i 0)) := parts_take (by rw [HNF.out]; exact hlt)
      have hl0 : ps0.length ≤ 1001 * 100 := by
        rw [hps, nI_length]
        have h := parts_len (fs.take i)
        rw [List.length_take] at h; omega
      have HI := Lib.hid hI
      have HB := Lib.hid hB
      clear hps hI hB
      generalize fs.getD i 0 = n0 at *
      obtain ⟨h0, h1⟩ := hfi
      have s0 := HB.out.size
      go_wp2_with fail
      clear hcell
      obtain ⟨wo, hwo⟩ : ∃ x, x = wr := ⟨_, rfl⟩
      subst hwo
      go_loopw [3, 5, 6] (fun u nv dv wr => ∃ n d : Nat, nv = .int .i64 n ∧ dv = .int .i64 d ∧ 1 ≤ n ∧ n ≤ n0 ∧ 2 ≤ d ∧ d ≤ 1000001 ∧ ∃ f L ps, ps = ps0 ++ nI (pw2 L) ∧ (n = 1 ∨ d ≤ 1001 ∧ 1003 ≤ f + d) ∧ L ++ facJ f n d = facN n0 ∧ L.length + f ≤ 1001 ∧ Ints wr w.heap.size u ps ∧ Below w.heap.size w wr) (fun _ nv dv _ => mFad (intOf nv) (intOf dv))
      case atStart => exact ⟨n0, 2, rfl, rfl, by omega, Nat.le_refl _, Nat.le_refl _, by omega, 1001, [], ps0, by simp [pw2, nI], .inr ⟨by omega, by omega⟩, rfl, by simp, HI.out, HB.out⟩
      case round =>
        clear HI HB
        obtain ⟨n, d, rfl, rfl, hn1, hn2, hd1, hd2, f, L, ps, he1, hfd, hF', hpl, hI1, hB⟩ := hrel
        have hF := Lib.hid hF'
        have hl1 : ps.length ≤ 1001 * 100 + 1001 := by rw [he1, List.length_append, nI_length, pw2, List.length_map]; omega
        have HE1 := Lib.hid he1
        have HPL := Lib.hid hpl
        have hS := hB.size
        clear he1 hpl hF'
        by_cases hlt1 : 1 < n
        · obtain ⟨hd28, hfd'⟩ : d ≤ 1001 ∧ 1003 ≤ f + d := by omega
          obtain ⟨f, rfl⟩ : ∃ k, f = k + 1 := ⟨f - 1, by have := HPL.out; omega⟩
          clear hfd
          obtain ⟨hq1, hq2⟩ := sq_bd' hd28
          by_cases h2 : n < d * d
          · have hq3 := sq_lt' h2
            have hq4 := Lib.hid (dv_self' n (by omega))
            have hdn : Hid (dnext n d = n) := if_pos h2
            have hDb : 2 ≤ n ∧ n ≤ 1000000 := by omega
            have hD1 : (1 : Int) ≤ (n : Int) := by omega
            clear h2
            go_wp2_with fail
            clear hq1 hq2 hq3
            obtain ⟨wp, hwp⟩ : ∃ x, x = wr := ⟨_, rfl⟩
            subst hwp
            go_loopw [5, 7] (fun nv qv wr => ∃ m c g x : Nat, nv = .int .i64 m ∧ qv = .int .i64 x ∧ 1 ≤ m ∧ m ≤ n ∧ x * m = n ∧ x = n ^ c ∧ c + g = 20 ∧ m < pow2 g ∧ dv g m n c = dv 20 n n 0 ∧ wp = wr) (fun nv _ _ => (intOf nv).toNat)
            case atStart => exact ⟨n, 0, 20, 1, rfl, rfl, hn1, Nat.le_refl _, Nat.one_mul _, by simp, rfl, by rw [pow2]; omega, rfl, rfl⟩
            case round =>
              obtain ⟨m, c, g, x, rfl, rfl, hm1, hmn, hxm, hxc, hcg, hmg, hdv, rfl⟩ := hrel
              have hx1 : 1 ≤ x := Nat.pos_of_ne_zero fun e => by subst e; omega
              by_cases hz : m % n = 0
              · have hz' : ((m : Int) % (n : Int)) = 0 := by rw [← Int.natCast_emod, hz]; rfl
                have hq0 : (m : Int) / (n : Int) = ((m / n : Nat) : Int) := (Int.natCast_ediv m n).symm
                have hq1 := div_pos' hm1 hz
                have hq2 := div_half (n := m) (d := n) (by omega)
                have hm2 : n * (m / n) = m := by have := Nat.div_add_mod m n; omega
                have hx2 : (x : Int) * (n : Int) = ((x * n : Nat) : Int) := (Int.natCast_mul x n).symm
                have hx3 : x * n * (m / n) = n := by rw [Nat.mul_assoc, hm2]; exact hxm
                have hx4 : x * n ≤ 1000000 := by
                  have := Nat.le_mul_of_pos_right (x * n) hq1
                  omega
                have hx5 : (x : Int) * (n : Int) ≤ 1000000 := by rw [hx2]; exact Int.ofNat_le.2 hx4
                have hx6 : 0 ≤ (x : Int) * (n : Int) := by rw [hx2]; exact Int.natCast_nonneg _
                have HG : Hid (∃ g', g = g' + 1 ∧ m / n < pow2 g' ∧ dv g' (m / n) n (c + 1) = dv 20 n n 0) := by
                  cases g with
                  | zero => simp [pow2] at hmg; omega
                  | succ g' => exact ⟨g', rfl, by rw [pow2, Nat.pow_succ] at hmg; rw [pow2]; omega, by rw [← hdv]; conv => rhs; rw [dv, if_pos hz]⟩
                have HX : Hid (x * n * (m / n) = n ∧ x * n = n ^ (c + 1) ∧ (x : Int) * (n : Int) = ((x * n : Nat) : Int)) := ⟨hx3, by rw [hxc, Nat.pow_succ], hx2⟩
                clear hmg hdv hx2 hx3 hx4 hm2 hxm hxc
                generalize m / n = q at *
                go_wp2_with fail
                obtain ⟨g', rfl, hg1, hg2⟩ := HG.out
                go_roundw
                case rel => exact ⟨q, c + 1, g', x * n, by go_num, by rw [HX.out.2.2], hq1, by omega, HX.out.1, HX.out.2.1, by omega, hg1, hg2, by trivial⟩
                case measure => simp [intOf]; omega
              · have hz' : ¬ ((m : Int) % (n : Int)) = 0 := by rw [← Int.natCast_emod]; exact fun h => hz (by exact_mod_cast h)
                have HVV : Hid (dv 20 n (dnext n d) 0 = (m, c)) := by
                  show _ = _
                  rw [hdn.out, ← hdv]
                  cases g with
                  | zero => rfl
                  | succ g' => rw [dv, if_neg hz]
                have HXC := Lib.hid hxc
                by_cases hc : 0 < c
                · have hxx : 1 < x := by
                    obtain ⟨k, rfl⟩ : ∃ k, c = k + 1 := ⟨c - 1, by omega⟩
                    rw [hxc, Nat.pow_succ]
                    have h1 : 1 ≤ n ^ k := Nat.pow_pos (by omega)
                    have := Nat.mul_le_mul h1 hDb.1
                    omega
                  clear hdv hmg hz hxc hxm
                  go_wp2_with (at_builtin; refine wp_app1 _ rfl _ _ rfl w.heap.size i0 Tryz.underlying24 hi hz0 hz1 hz2 _ _ rfl hI1 (x : Int) rfl (by omega) (by omega) ?_)
                  intro v1' w1 hI1' hG1 hB1
                  have hB2 := hB.trans hB1
                  go_wp2_with fail
                  go_roundw
                  case rel =>
                    refine ⟨m, n + 1, by go_num, by go_num, hm1, by omega, by omega, by omega, f, L ++ [(n, c)], _, by rw [HE1.out, HXC.out]; simp [nI, pw2], ?_, ?_, by have := HPL.out; simp; omega, hI1', hB2⟩
                    · refine .inl ?_; have h := dv_self' n (by omega); rw [hdn.out, h] at HVV; have := congrArg Prod.fst HVV.out; simp at this; omega
                    · have h := hF.out
                      rw [facJ, if_pos hlt1, HVV.out, hdn.out] at h
                      simpa [hc] using h
                  case measure => exact mFad_lt (by simp [intOf]; omega) (.inl (by have h := dv_self' n (by omega); rw [hdn.out, h] at HVV; have := congrArg Prod.fst HVV.out; simp at this; simp [intOf]; omega)) (by simp [intOf]; omega)
                · obtain rfl : c = 0 := by omega
                  rw [Nat.pow_zero] at hxc
                  subst hxc
                  clear hdv hmg hz hxm
                  go_wp2_with fail
                  go_roundw
                  case rel =>
                    refine ⟨m, n + 1, by go_num, by go_num, hm1, by omega, by omega, by omega, f, L, ps, HE1.out, ?_, ?_, by have := HPL.out; omega, hI1, hB⟩
                    · refine .inl ?_; have h := dv_self' n (by omega); rw [hdn.out, h] at HVV; have := congrArg Prod.fst HVV.out; simp at this; omega
                    · have h := hF.out
                      rw [facJ, if_pos hlt1, HVV.out, hdn.out] at h
                      simpa using h
                  case measure => exact mFad_lt (by simp [intOf]; omega) (.inl (by have h := dv_self' n (by omega); rw [hdn.out, h] at HVV; have := congrArg Prod.fst HVV.out; simp at this; simp [intOf]; omega)) (by simp [intOf]; omega)
          · have hq3 := sq_ge' h2
            have hq4 := sq_small' h2 (by omega)
            have hdn : Hid (dnext n d = d) := if_neg h2
            have hDb : 2 ≤ d ∧ d ≤ 1000000 := by omega
            have hD1 : (1 : Int) ≤ (d : Int) := by omega
            clear h2
            go_wp2_with fail
            clear hq1 hq2 hq3
            obtain ⟨wp, hwp⟩ : ∃ x, x = wr := ⟨_, rfl⟩
            subst hwp
            go_loopw [5, 7] (fun nv qv wr => ∃ m c g x : Nat, nv = .int .i64 m ∧ qv = .int .i64 x ∧ 1 ≤ m ∧ m ≤ n ∧ x * m = n ∧ x = d ^ c ∧ c + g = 20 ∧ m < pow2 g ∧ dv g m d c = dv 20 n d 0 ∧ wp = wr) (fun nv _ _ => (intOf nv).toNat)
            case atStart => exact ⟨n, 0, 20, 1, rfl, rfl, hn1, Nat.le_refl _, Nat.one_mul _, by simp, rfl, by rw [pow2]; omega, rfl, rfl⟩
            case round =>
              obtain ⟨m, c, g, x, rfl, rfl, hm1, hmn, hxm, hxc, hcg, hmg, hdv, rfl⟩ := hrel
              have hx1 : 1 ≤ x := Nat.pos_of_ne_zero fun e => by subst e; omega
              by_cases hz : m % d = 0
              · have hz' : ((m : Int) % (d : Int)) = 0 := by rw [← Int.natCast_emod, hz]; rfl
                have hq0 : (m : Int) / (d : Int) = ((m / d : Nat) : Int) := (Int.natCast_ediv m d).symm
                have hq1 := div_pos' hm1 hz
                have hq2 := div_half (n := m) (d := d) (by omega)
                have hm2 : d * (m / d) = m := by have := Nat.div_add_mod m d; omega
                have hx2 : (x : Int) * (d : Int) = ((x * d : Nat) : Int) := (Int.natCast_mul x d).symm
                have hx3 : x * d * (m / d) = n := by rw [Nat.mul_assoc, hm2]; exact hxm
                have hx4 : x * d ≤ 1000000 := by
                  have := Nat.le_mul_of_pos_right (x * d) hq1
                  omega
                have hx5 : (x : Int) * (d : Int) ≤ 1000000 := by rw [hx2]; exact Int.ofNat_le.2 hx4
                have hx6 : 0 ≤ (x : Int) * (d : Int) := by rw [hx2]; exact Int.natCast_nonneg _
                have HG : Hid (∃ g', g = g' + 1 ∧ m / d < pow2 g' ∧ dv g' (m / d) d (c + 1) = dv 20 n d 0) := by
                  cases g with
                  | zero => simp [pow2] at hmg; omega
                  | succ g' => exact ⟨g', rfl, by rw [pow2, Nat.pow_succ] at hmg; rw [pow2]; omega, by rw [← hdv]; conv => rhs; rw [dv, if_pos hz]⟩
                have HX : Hid (x * d * (m / d) = n ∧ x * d = d ^ (c + 1) ∧ (x : Int) * (d : Int) = ((x * d : Nat) : Int)) := ⟨hx3, by rw [hxc, Nat.pow_succ], hx2⟩
                clear hmg hdv hx2 hx3 hx4 hm2 hxm hxc
                generalize m / d = q at *
                go_wp2_with fail
                obtain ⟨g', rfl, hg1, hg2⟩ := HG.out
                go_roundw
                case rel => exact ⟨q, c + 1, g', x * d, by go_num, by rw [HX.out.2.2], hq1, by omega, HX.out.1, HX.out.2.1, by omega, hg1, hg2, by trivial⟩
                case measure => simp [intOf]; omega
              · have hz' : ¬ ((m : Int) % (d : Int)) = 0 := by rw [← Int.natCast_emod]; exact fun h => hz (by exact_mod_cast h)
                have HVV : Hid (dv 20 n (dnext n d) 0 = (m, c)) := by
                  show _ = _
                  rw [hdn.out, ← hdv]
                  cases g with
                  | zero => rfl
                  | succ g' => rw [dv, if_neg hz]
                have HXC := Lib.hid hxc
                by_cases hc : 0 < c
                · have hxx : 1 < x := by
                    obtain ⟨k, rfl⟩ : ∃ k, c = k + 1 := ⟨c - 1, by omega⟩
                    rw [hxc, Nat.pow_succ]
                    have h1 : 1 ≤ d ^ k := Nat.pow_pos (by omega)
                    have := Nat.mul_le_mul h1 hDb.1
                    omega
                  clear hdv hmg hz hxc hxm
                  go_wp2_with (at_builtin; refine wp_app1 _ rfl _ _ rfl w.heap.size i0 Tryz.underlying24 hi hz0 hz1 hz2 _ _ rfl hI1 (x : Int) rfl (by omega) (by omega) ?_)
                  intro v1' w1 hI1' hG1 hB1
                  have hB2 := hB.trans hB1
                  go_wp2_with fail
                  go_roundw
                  case rel =>
                    refine ⟨m, d + 1, by go_num, by go_num, hm1, by omega, by omega, by omega, f, L ++ [(d, c)], _, by rw [HE1.out, HXC.out]; simp [nI, pw2], ?_, ?_, by have := HPL.out; simp; omega, hI1', hB2⟩
                    · exact .inr ⟨by omega, by omega⟩
                    · have h := hF.out
                      rw [facJ, if_pos hlt1, HVV.out, hdn.out] at h
                      simpa [hc] using h
                  case measure => exact mFad_lt (by simp [intOf]; omega) (.inr ⟨by simp [intOf]; omega, by simp [intOf]⟩) (by simp [intOf]; omega)
                · obtain rfl : c = 0 := by omega
                  rw [Nat.pow_zero] at hxc
                  subst hxc
                  clear hdv hmg hz hxm
                  go_wp2_with fail
                  go_roundw
                  case rel =>
                    refine ⟨m, d + 1, by go_num, by go_num, hm1, by omega, by omega, by omega, f, L, ps, HE1.out, ?_, ?_, by have := HPL.out; omega, hI1, hB⟩
                    · exact .inr ⟨by omega, by omega⟩
                    · have h := hF.out
                      rw [facJ, if_pos hlt1, HVV.out, hdn.out] at h
                      simpa using h
                  case measure => exact mFad_lt (by simp [intOf]; omega) (.inr ⟨by simp [intOf]; omega, by simp [intOf]⟩) (by simp [intOf]; omega)
        · obtain rfl : n = 1 := by omega
          rw [facJ_one] at hF
          have HP2 : Hid (ps = nI (parts (fs.take (i + 1)))) := by
            show _ = _
            rw [HPT.out, HE1.out, HPS.out]
            have h := hF.out
            rw [List.append_nil] at h
            rw [h]
            simp [nI, pw2, prt]
          go_wp2_with fail
          go_roundw
          case rel => exact ⟨i + 1, _, by go_num, by omega, HP2.out, hI1, hB⟩
          case measure => simp [intOf]; omega
    · obtain rfl : i = nf := by omega
      have HP2 : Hid (ps0 = nI (parts fs)) := by
        show _ = _
        rw [HPS.out, ← HNF.out, List.take_length]
      have HI := Lib.hid hI
      have HL : Hid ((parts fs).length ≤ 1000000) := by have h := parts_len fs; rw [HNF.out] at h; show _ ≤ _; omega
      obtain ⟨a1, n1, c1, rfl⟩ : ∃ a n c, u3 = .slice a n c := by obtain ⟨ao, c, e, _⟩ := hI.form; exact ⟨_, _, _, e⟩
      have HS : Hid (Calls Tryz.prog 36 #[.slice a1 n1 c1] wr (RetInts wr (nI (sortP (parts fs))))) := s_l05Sorted _ (parts fs) wr (by rw [← HP2.out]; exact HI.out.rd) (parts_ppw HF.out) HL.out
      clear hI hps
      go_wp2_with fail
      refine HS.out.mono ?_
      rintro e w9 ⟨u9, rfl, hI9, hB9⟩
      have HI9 := Lib.hid (hI9.mono hB.size)
      have HB9 := Lib.hid (below_size hB hB9)
      clear hI9 hB9
      go_wp2_with fail
      go_ret
      exact ⟨_, rfl, HI9.out, HB9.out⟩
end Go.Proofs.YtnedihpppbjmdaaGreatDoor
