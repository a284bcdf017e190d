/-
  Valid presentations: the walks of the tests.
-/
import Derived.Test.YthnpndheaailjaaPres
import Derived.Test.YthnpndheaailjaaValid
import Derived.IntWalk
namespace Go.Proofs.Ythnpndheaailjaa
set_option linter.unusedVariables false
set_option linter.unusedSimpArgs false
set_option maxRecDepth 100000
open Go.RowKit

--== impl.IsGroupPrime
theorem i_IsGroupPrime (n : Int) (w : World) : Calls Try.prog 82 #[.int .i64 n] w fun e w' => e = .returned (.bool (primeB n)) ∧ w = w' := by
  by_cases h : n = 2 ∨ n = 3 ∨ n = 5 ∨ n = 7
  · rcases h with rfl | rfl | rfl | rfl <;>
    · go_enter Try.func82, Try.ntmps82
      go_wp2
      go_ret
      exact ⟨rfl, rfl⟩
  · have h2 : (n == 2) = false := by simp; omega
    have h3 : (n == 3) = false := by simp; omega
    have h5 : (n == 5) = false := by simp; omega
    have h7 : (n == 7) = false := by simp; omega
    go_enter Try.func82, Try.ntmps82
    go_wp2
    go_ret
    exact ⟨ret_bool (by simp [primeB, h2, h3, h5, h7]), rfl⟩
--== spec.l01Prime
theorem s_l01Prime (n : Int) (w : World) : Calls Try.prog 131 #[.int .i64 n] w fun e w' => e = .returned (.bool (primeB n)) ∧ w = w' := by
  by_cases h : n = 2 ∨ n = 3 ∨ n = 5 ∨ n = 7
  · rcases h with rfl | rfl | rfl | rfl <;>
    · go_enter Try.func131, Try.ntmps131
      go_wp2
      go_ret
      exact ⟨rfl, rfl⟩
  · have h2 : (n == 2) = false := by simp; omega
    have h3 : (n == 3) = false := by simp; omega
    have h5 : (n == 5) = false := by simp; omega
    have h7 : (n == 7) = false := by simp; omega
    go_enter Try.func131, Try.ntmps131
    go_wp2
    go_ret
    exact ⟨ret_bool (by simp [primeB, h2, h3, h5, h7]), rfl⟩
--== impl.isZero
set_option maxHeartbeats 400000 in
theorem i_isZero (v : Value) (xs : List Int) (w : World) (hv : Rd w v xs) :
    Calls Try.prog 170 #[v] w fun e w' => e = .returned (.bool (zeroB xs)) ∧ w = w' := by
  obtain ⟨ao, cap, rfl, hc1, hc2, _, hA⟩ := hv
  go_enter Try.func170, Try.ntmps170
  go_wp2
  go_loop [7] (fun i => ∃ j : Nat, j ≤ xs.length ∧ i = .int .i64 j ∧ ∀ t, t < j → xs.getD t 0 = 0) (fun i => xs.length - (intOf i).toNat)
  case atStart => exact ⟨0, Nat.zero_le _, rfl, fun t ht => by omega⟩
  case round =>
    obtain ⟨j, hj, rfl, hall⟩ := hrel
    have HA := Lib.hid hall
    clear hall
    by_cases hlt : j < xs.length
    · rcases hA with hA | ⟨b, off, rfl, hA⟩
      · omega
      have hcell := hA j hlt
      clear hA
      generalize hx : xs.getD j 0 = x at hcell
      have HX := Lib.hid hx
      clear hx
      by_cases h0 : x = 0
      · subst h0
        go_wp2
        go_round
        case rel => exact ⟨j + 1, by omega, by go_num, fun t ht => by
          by_cases h : t = j
          · subst h; exact HX.out
          · exact HA.out t (by omega)⟩
        case measure => simp [intOf]; omega
      · have h1 : (x == 0) = false := by simpa using h0
        have HN := Lib.hid h0
        clear h0
        go_wp2
        go_ret
        exact ⟨ret_bool (zeroB_false hlt (by rw [HX.out]; exact HN.out)).symm, rfl⟩
    · obtain rfl : j = xs.length := by omega
      go_wp2
      go_ret
      exact ⟨ret_bool (zeroB_true.2 HA.out).symm, rfl⟩
--== pointers to presentations
/-- v points to a presentation's three cells -/
def PtrP (w : World) (v : Value) (p : Pres) : Prop := ∃ b v1 v2 v3, v = .pointer (some ⟨b, 0, none⟩) ∧ w.cell? ⟨b, 0, none⟩ = some v1 ∧ w.cell? ⟨b, 1, none⟩ = some v2 ∧ w.cell? ⟨b, 2, none⟩ = some v3 ∧ RdP w v1 v2 v3 p
theorem PtrP.of_cells {w w' : World} {v : Value} {p : Pres} (h : PtrP w v p) (hc : ∀ a u, w.cell? a = some u → w'.cell? a = some u) : PtrP w' v p := by
  obtain ⟨b, v1, v2, v3, rfl, h1, h2, h3, h4⟩ := h
  exact ⟨b, v1, v2, v3, rfl, hc _ _ h1, hc _ _ h2, hc _ _ h3, h4.1.of_cells hc, h4.2.1.of_cells hc, h4.2.2.of_cells hc⟩
theorem PtrP.below {w w' : World} {v : Value} {p : Pres} (h : PtrP w v p) (hb : Below w.heap.size w w') : PtrP w' v p := h.of_cells (below_cells hb)
--== impl.isExponents
set_option maxHeartbeats 800000 in
theorem i_isExponents (vp v : Value) (p : Pres) (xs : List Int) (w : World) (hp : PtrP w vp p) (hv : Rd w v xs) (ho : primesB p.orders = true) :
    Calls Try.prog 169 #[vp, v] w fun e w' => e = .returned (.bool (tailB p.orders xs 0)) ∧ w = w' := by
  obtain ⟨pb, v1, v2, v3, rfl, hp1, hp2, hp3, hR, _, _⟩ := hp
  clear hp2 hp3
  obtain ⟨os, pw, cj⟩ := p
  simp only at hR ho ⊢
  obtain ⟨ao, cap, rfl, hc1, hc2, _, hA⟩ := hv
  obtain ⟨aq, capq, rfl, hq1, hq2, _, hB⟩ := hR
  by_cases hl : xs.length = os.length
  · have HL := Lib.hid hl
    have hl1 : ((xs.length : Int) == (os.length : Int)) = true := by simp [hl]
    have hl2 : ((xs.length : Int) != (os.length : Int)) = false := by simp [hl]
    clear hl
    go_enter Try.func169, Try.ntmps169
    go_wp2
    go_loop [17] (fun i => ∃ j : Nat, j ≤ xs.length ∧ i = .int .i64 j ∧ ∀ t, t < j → expAt os xs 0 t = true) (fun i => xs.length - (intOf i).toNat)
    case atStart => exact ⟨0, Nat.zero_le _, rfl, fun t ht => by omega⟩
    case round =>
      clear hl1 hl2
      obtain ⟨j, hj, rfl, hall⟩ := hrel
      have HA := Lib.hid hall
      clear hall
      by_cases hlt : j < xs.length
      · have hlt' : j < os.length := by have := HL.out; omega
        rcases hA with hA | ⟨b, off, rfl, hA⟩
        · omega
        rcases hB with hB | ⟨b', off', rfl, hB⟩
        · omega
        have hcell := hA j hlt
        have hcell' := hB j hlt'
        have hbd := primesB_at ho (getD_mem hlt')
        clear hA hB
        have HE : Hid (expAt os xs 0 j = inB (xs.getD j 0) 0 (os.getD j 0 - 1)) := by show _ = _; simp [expAt]
        generalize xs.getD j 0 = x at *
        generalize os.getD j 0 = o at *
        by_cases hin : inB x 0 (o - 1) = true
        · go_wp2_with (go_at_call 73; refine (i_inside _ _ _ _).mono ?_; rintro e w' ⟨rfl, rfl⟩)
          go_round
          case rel => exact ⟨j + 1, by omega, by go_num, fun t ht => by
            by_cases h : t = j
            · subst h; rw [HE.out]; exact hin
            · exact HA.out t (by omega)⟩
          case measure => simp [intOf]; omega
        · have hin' : inB x 0 (o - 1) = false := by simpa using hin
          clear hin
          go_wp2_with (go_at_call 73; refine (i_inside _ _ _ _).mono ?_; rintro e w' ⟨rfl, rfl⟩)
          go_ret
          exact ⟨ret_bool (tailB_no2 hlt (by rw [HE.out]; exact hin')).symm, rfl⟩
      · obtain rfl : j = xs.length := by omega
        go_wp2
        go_ret
        exact ⟨ret_bool (tailB_of HL.out HA.out).symm, rfl⟩
  · have HL := Lib.hid hl
    have hl1 : ((xs.length : Int) == (os.length : Int)) = false := by simp; omega
    have hl2 : ((xs.length : Int) != (os.length : Int)) = true := by simp; omega
    clear hl
    go_enter Try.func169, Try.ntmps169
    go_wp2
    go_ret
    exact ⟨ret_bool (tailB_no HL.out).symm, rfl⟩
--== quiet
theorem rq {P : Program} {f : FuncId} {args : Array Value} {w : World} {v : Value} (h : Calls P f args w fun e w' => e = .returned v ∧ w = w') : Calls P f args w (RetQuiet w v) :=
  h.mono fun _ _ ⟨h1, h2⟩ => ⟨h1, 0, h2.symm⟩
--== spec.l07Exponents
set_option maxHeartbeats 800000 in
theorem s_l07Exponents (vo v : Value) (os xs : List Int) (z : Nat) (zi : Int) (w : World) (hz : zi = (z : Int) - 1) (hz1 : z ≤ 1000) (hp : Rd w vo os) (hv : Rd w v xs) (ho : primesB os = true) :
    Calls Try.prog 135 #[vo, v, .int .i64 zi] w (RetQuiet w (.bool (tailB os xs z))) := by
  obtain ⟨ao, cap, rfl, hc1, hc2, _, hA⟩ := hv
  obtain ⟨aq, capq, rfl, hq1, hq2, _, hB⟩ := hp
  have HZ := Lib.hid hz
  have hz0 : -1 ≤ zi := by omega
  have hz2 : zi ≤ 1000 := by omega
  clear hz
  by_cases hl : xs.length = os.length
  · have HL := Lib.hid hl
    have hl1 : ((xs.length : Int) == (os.length : Int)) = true := by simp [hl]
    have hl2 : ((xs.length : Int) != (os.length : Int)) = false := by simp [hl]
    clear hl
    go_enter Try.func135, Try.ntmps135
    go_wp2
    go_loopw [7] (fun i wr => ∃ j : Nat, j ≤ xs.length ∧ i = .int .i64 j ∧ (∀ t, t < j → expAt os xs z t = true) ∧ ∃ n, wr = w.drewN n) (fun i _ => xs.length - (intOf i).toNat)
    case atStart => exact ⟨0, Nat.zero_le _, rfl, fun t ht => by omega, 0, rfl⟩
    case round =>
      clear hl1 hl2
      obtain ⟨j, hj, rfl, hall, n, hn⟩ := hrel
      have HA := Lib.hid hall
      have HN := Lib.hid hn
      clear hall hn
      by_cases hlt : j < xs.length
      · have hlt' : j < os.length := by have := HL.out; omega
        rcases hA with hA | ⟨b, off, rfl, hA⟩
        · omega
        rcases hB with hB | ⟨b', off', rfl, hB⟩
        · omega
        have hcell0 := hA j hlt
        have hcell0' := hB j hlt'
        have hcell : wr.cell? ⟨b, off + j, none⟩ = some (.int .i64 (xs.getD j 0)) := by rw [HN.out]; exact hcell0
        have hcell' : wr.cell? ⟨b', off' + j, none⟩ = some (.int .i64 (os.getD j 0)) := by rw [HN.out]; exact hcell0'
        have hbd := primesB_at ho (getD_mem hlt')
        clear hA hB hcell0 hcell0'
        have HE : Hid (expAt os xs z j = (inB (xs.getD j 0) 0 (os.getD j 0 - 1) && (decide (z ≤ j) || xs.getD j 0 == 0))) := rfl
        generalize xs.getD j 0 = x at *
        generalize os.getD j 0 = o at *
        have W1 : IntKind.i64.wrap (o - 1) = o - 1 := IntWalk.i64_in _ (by omega)
        by_cases hin : inB x 0 (o - 1) = true
        · by_cases hzj : (j : Int) ≤ zi
          · have W2 : decide ((j : Int) ≤ zi) = true := by simpa using hzj
            have hzj' : Hid (decide (z ≤ j) = false) := by show _ = _; have := HZ.out; simp; omega
            by_cases h0 : x = 0
            · subst h0
              go_wp2_with fail
              go_quiet ((go_at_call 68; exact Calls.quiet_of (rq (s_l01In _ _ _ _))))
              clear W1 W2
              go_wp2_with fail
              go_roundw
              case rel => exact ⟨j + 1, by omega, by go_num, fun t ht => by
                by_cases h : t = j
                · subst h; rw [HE.out, hin]; simp
                · exact HA.out t (by omega), by rw [HN.out]; exact drewN_drewN _ _ _⟩
              case measure => simp [intOf]; omega
            · have h1 : (x == 0) = false := by simpa using h0
              have h2 : (x != 0) = true := by simpa using h0
              have HX : Hid ((x == 0) = false) := Lib.hid h1
              clear h0
              go_wp2_with fail
              go_quiet ((go_at_call 68; exact Calls.quiet_of (rq (s_l01In _ _ _ _))))
              clear W1 W2
              go_wp2_with fail
              go_ret
              exact ⟨ret_bool (tailB_no2 hlt (by rw [HE.out, hzj'.out, HX.out]; simp)).symm, by rw [HN.out]; exact drewN_drewN _ _ _⟩
          · have W2 : decide ((j : Int) ≤ zi) = false := by simpa using hzj
            have hzj' : Hid (decide (z ≤ j) = true) := by show _ = _; have := HZ.out; simp; omega
            go_wp2_with fail
            go_quiet ((go_at_call 68; exact Calls.quiet_of (rq (s_l01In _ _ _ _))))
            clear W1 W2
            go_wp2_with fail
            go_roundw
            case rel => exact ⟨j + 1, by omega, by go_num, fun t ht => by
              by_cases h : t = j
              · subst h; rw [HE.out, hin, hzj'.out]; rfl
              · exact HA.out t (by omega), by rw [HN.out]; exact drewN_drewN _ _ _⟩
            case measure => simp [intOf]; omega
        · have hin' : inB x 0 (o - 1) = false := by simpa using hin
          clear hin
          go_wp2_with fail
          go_quiet ((go_at_call 68; exact Calls.quiet_of (rq (s_l01In _ _ _ _))))
          clear W1
          go_wp2_with fail
          go_ret
          exact ⟨ret_bool (tailB_no2 hlt (by rw [HE.out, hin']; rfl)).symm, by rw [HN.out]; exact drewN_drewN _ _ _⟩
      · obtain rfl : j = xs.length := by omega
        go_wp2_with fail
        go_ret
        exact ⟨ret_bool (tailB_of HL.out HA.out).symm, n, HN.out⟩
  · have HL := Lib.hid hl
    have hl1 : ((xs.length : Int) == (os.length : Int)) = false := by simp; omega
    have hl2 : ((xs.length : Int) != (os.length : Int)) = true := by simp; omega
    clear hl
    go_enter Try.func135, Try.ntmps135
    go_wp2
    go_ret
    exact ⟨ret_bool (tailB_no HL.out).symm, 0, rfl⟩
--== parts of slices
theorem Rd.pre {w : World} {b off n cap m : Nat} {xs : List Int} (h : Rd w (.slice (some ⟨b, off, none⟩) n cap) xs) (hm : m ≤ n) : Rd w (.slice (some ⟨b, off, none⟩) m cap) (xs.take m) := by
  obtain ⟨ao, cap', he, h1, h2, h3, h4⟩ := h
  simp only [Value.slice.injEq] at he
  obtain ⟨rfl, rfl, rfl⟩ := he
  have hl : (xs.take m).length = m := by simp; omega
  refine ⟨_, _, by rw [hl], by omega, h2, h3, ?_⟩
  rcases h4 with h4 | ⟨b', off', he, h4⟩
  · exact .inl (by omega)
  · cases he
    refine .inr ⟨_, _, rfl, fun j hj => ?_⟩
    rw [hl] at hj
    rw [h4 j (by omega), take_getD _ _ _ hj]
theorem Rd2.at {w : World} {ao : Option Addr} {n cap : Nat} {xss : List (List Int)} (h : Rd2 w (.slice ao n cap) xss) {j : Nat} (hj : j < xss.length) :
    ∃ b off r, ao = some ⟨b, off, none⟩ ∧ w.cell? ⟨b, off + j, none⟩ = some r ∧ Rd w r (xss.getD j []) := by
  obtain ⟨ao', cap', he, h1, h2, h3⟩ := h.open
  simp only [Value.slice.injEq] at he
  obtain ⟨rfl, rfl, rfl⟩ := he
  rcases h3 with h3 | ⟨b, off, rfl, h3⟩
  · omega
  · obtain ⟨r, hr, hx⟩ := h3 j hj
    exact ⟨b, off, r, rfl, hr, hx⟩
theorem Rd3.at {w : World} {ao : Option Addr} {n cap : Nat} {xss : List (List (List Int))} (h : Rd3 w (.slice ao n cap) xss) {j : Nat} (hj : j < xss.length) :
    ∃ b off r, ao = some ⟨b, off, none⟩ ∧ w.cell? ⟨b, off + j, none⟩ = some r ∧ Rd2 w r (xss.getD j []) := by
  obtain ⟨ao', cap', he, h1, h2, h3⟩ := h.open
  simp only [Value.slice.injEq] at he
  obtain ⟨rfl, rfl, rfl⟩ := he
  rcases h3 with h3 | ⟨b, off, rfl, h3⟩
  · omega
  · obtain ⟨r, hr, hx⟩ := h3 j hj
    exact ⟨b, off, r, rfl, hr, hx⟩
--== impl.tailVector
set_option maxHeartbeats 800000 in
theorem i_tailVector (vp v : Value) (p : Pres) (xs : List Int) (i : Nat) (w : World) (hp : PtrP w vp p) (hv : Rd w v xs) (ho : primesB p.orders = true) (hi : i < p.n) (hn : p.n ≤ 1000) :
    Calls Try.prog 137 #[vp, .int .i64 i, v] w fun e w' => e = .returned (.bool (tailB p.orders xs (i + 1))) ∧ w = w' := by
  have hR := hv
  obtain ⟨ao, cap, rfl, hc1, hc2, _, hA⟩ := hv
  have HT := Lib.hid (tailB_split (os := p.orders) (v := xs) (z := i + 1))
  by_cases ht : tailB p.orders xs 0 = true
  · obtain ⟨hl, _⟩ := tailB_true ht
    have hlt : i + 1 ≤ xs.length := by unfold Pres.n at hi; omega
    clear hl
    rcases hA with hA | ⟨b, off, rfl, hA⟩
    · omega
    have hS := hR.pre hlt
    go_enter Try.func137, Try.ntmps137
    go_wp2_with (first | (go_at_call 169; refine (i_isExponents _ _ p xs _ hp hR ho).mono ?_; rintro e w' ⟨rfl, rfl⟩) | (go_at_call 170; refine (i_isZero _ _ _ hS).mono ?_; rintro e w' ⟨rfl, rfl⟩))
    go_ret
    exact ⟨ret_bool (by rw [HT.out]; first | (rw [ht]; rfl) | simp [ht]), rfl⟩
  · have ht' : tailB p.orders xs 0 = false := by simpa using ht
    clear ht
    have HT' : Hid (tailB p.orders xs (i + 1) = false) := by show _ = _; rw [HT.out, ht']; rfl
    go_enter Try.func137, Try.ntmps137
    go_wp2_with (go_at_call 169; refine (i_isExponents _ _ p xs _ hp hR ho).mono ?_; rintro e w' ⟨rfl, rfl⟩)
    go_ret
    exact ⟨ret_bool HT'.out.symm, rfl⟩
--== spec.l07Product
theorem prod_take_bd {os : List Int} (h : primesB os = true) (j : Nat) : 1 ≤ prodS (os.take j) ∧ prodS (os.take j) ≤ 5103 := by
  have : primesB (os.take j) = true := List.all_eq_true.2 fun x hx => List.all_eq_true.1 h x (List.mem_of_mem_take hx)
  have := prod_both _ this
  omega
set_option maxHeartbeats 800000 in
theorem s_l07Product (v : Value) (os : List Int) (w : World) (hv : Rd w v os) (ho : primesB os = true) :
    Calls Try.prog 134 #[v] w fun e w' => e = .returned (.int .i64 (prodS os)) ∧ w = w' := by
  obtain ⟨ao, cap, rfl, hc1, hc2, _, hA⟩ := hv
  go_enter Try.func134, Try.ntmps134
  go_wp2
  go_loop [3, 4] (fun u i => ∃ j : Nat, j ≤ os.length ∧ i = .int .i64 j ∧ u = .int .i64 (prodS (os.take j))) (fun _ i => os.length - (intOf i).toNat)
  case atStart => exact ⟨0, Nat.zero_le _, rfl, rfl⟩
  case round =>
    obtain ⟨j, hj, rfl, rfl⟩ := hrel
    have hbd := prod_take_bd ho j
    by_cases hlt : j < os.length
    · rcases hA with hA | ⟨b, off, rfl, hA⟩
      · omega
      have hcell := hA j hlt
      have hob := primesB_at ho (getD_mem hlt)
      have HS : Hid (prodS (os.take (j + 1)) = if prodS (os.take j) ≤ 729 then prodS (os.take j) * os.getD j 0 else prodS (os.take j)) := by
        show _ = _; rw [take_snoc os j 0 hlt, prodS_snoc]
      clear hA
      generalize os.getD j 0 = o at *
      generalize prodS (os.take j) = u at *
      by_cases h729 : u ≤ 729
      · have hm : -9223372036854775808 ≤ u * o ∧ u * o ≤ 9223372036854775807 := by
          have h1 : u * o ≤ 729 * 7 := Int.mul_le_mul h729 hob.2 (by omega) (by omega)
          have h2 : 0 ≤ u * o := Int.mul_nonneg (by omega) (by omega)
          omega
        go_wp2
        go_round
        case rel => exact ⟨j + 1, by omega, by go_num, by rw [HS.out, if_pos h729]⟩
        case measure => simp [intOf]; omega
      · go_wp2
        go_round
        case rel => exact ⟨j + 1, by omega, by go_num, by rw [HS.out, if_neg h729]⟩
        case measure => simp [intOf]; omega
    · obtain rfl : j = os.length := by omega
      go_wp2
      go_ret
      exact ⟨ret_int (by simp), rfl⟩
end Go.Proofs.Ythnpndheaailjaa
