/-
  Normal tails: both sides.
-/
import Derived.Test.YtjefjhbnkcokhaaConI
namespace Go.Proofs.Ytjefjhbnkcokhaa
set_option linter.unusedVariables false
set_option linter.unusedSimpArgs false
set_option maxRecDepth 100000
open Go.RowKit

/-- the entries ahead of i of the conjugates of j by h are zero -/
def ntC (p : Pres) (i h j : Nat) : Bool := zeroB ((p.C h j).take i)
def ntB (p : Pres) (i : Nat) : Bool := (List.range i).all fun h => (List.range' i (p.n - i)).all fun j => ntC p i h j
theorem ntB_no {p : Pres} {i h j : Nat} (hh : h < i) (h1 : i ≤ j) (h2 : j < p.n) (hc : ntC p i h j = false) : ntB p i = false := by
  unfold ntB
  refine List.all_eq_false.2 ⟨h, List.mem_range.2 hh, ?_⟩
  rw [Bool.not_eq_true]
  refine List.all_eq_false.2 ⟨j, List.mem_range'.2 ⟨j - i, by omega, by omega⟩, by rw [hc]; exact Bool.false_ne_true⟩
theorem ntB_yes {p : Pres} {i : Nat} (H : ∀ h, h < i → ∀ j, i ≤ j → j < p.n → ntC p i h j = true) : ntB p i = true := by
  unfold ntB
  refine List.all_eq_true.2 fun h hh => List.all_eq_true.2 fun j hj => ?_
  obtain ⟨k, hk, rfl⟩ := List.mem_range'.1 hj
  exact H h (List.mem_range.1 hh) _ (by omega) (by omega)
--== spec.l01Zero
set_option maxHeartbeats 400000 in
theorem s_l01Zero (v : Value) (xs : List Int) (w : World) (hv : Rd w v xs) :
    Calls Try.prog 86 #[v] w fun e w' => e = .returned (.bool (zeroB xs)) ∧ w = w' := by
  obtain ⟨ao, cap, rfl, hc1, hc2, _, hA⟩ := hv
  go_enter Try.func86, Try.ntmps86
  go_wp2
  go_loop [3] (fun i => ∃ j : Nat, j ≤ xs.length ∧ i = .int .i64 j ∧ ∀ t, t < j → xs.getD t 0 = 0) (fun i => xs.length - (intOf i).toNat)
  case atStart => exact ⟨0, Nat.zero_le _, rfl, fun t ht => by omega⟩
  case round =>
    obtain ⟨j, hj, rfl, hall⟩ := hrel
    have HA := Lib.hid hall
    clear hall
    by_cases hlt : j < xs.length
    · rcases hA with hA | ⟨b, off, rfl, hA⟩
      · omega
      have hcell := hA j hlt
      clear hA
      generalize hx : xs.getD j 0 = x at hcell
      have HX := Lib.hid hx
      clear hx
      by_cases h0 : x = 0
      · subst h0
        go_wp2
        go_round
        case rel => exact ⟨j + 1, by omega, by go_num, fun t ht => by
          by_cases h : t = j
          · subst h; exact HX.out
          · exact HA.out t (by omega)⟩
        case measure => simp [intOf]; omega
      · have h1 : (x == 0) = false := by simpa using h0
        have h2 : (x != 0) = true := by simpa using h0
        have HN := Lib.hid h0
        clear h0
        go_wp2
        go_ret
        exact ⟨ret_bool (zeroB_false hlt (by rw [HX.out]; exact HN.out)).symm, rfl⟩
    · obtain rfl : j = xs.length := by omega
      go_wp2
      go_ret
      exact ⟨ret_bool (zeroB_true.2 HA.out).symm, rfl⟩
--== impl.normalTail
set_option maxHeartbeats 2000000 in
theorem i_normalTail {p : Pres} (hV : ValidP p) (vp : Value) (i : Nat) (w : World) (hp : PtrP w vp p) (hi : i ≤ p.n) :
    Calls Try.prog 90 #[vp, .int .i64 i] w fun e w' => e = .returned (.bool (ntB p i)) ∧ w = w' := by
  have hn6 := hV.n6
  obtain ⟨pb, v1, v2, v3, rfl, c1, c2, c3, R1, R2, R3⟩ := hp
  obtain ⟨a1, q1, rfl, _, _⟩ := R1.formN (n := p.n) rfl
  obtain ⟨a3, q3, rfl, _, _⟩ := R3.formN hV.cl
  have KC := Lib.hid R3
  clear R1 R2 R3 c2
  go_enter Try.func90, Try.ntmps90
  go_wp2_with fail
  go_loop [8] (fun t => ∃ h : Nat, h ≤ i ∧ t = .int .i64 h ∧ ∀ g, g < h → ∀ j, i ≤ j → j < p.n → ntC p i g j = true) (fun t => i - (intOf t).toNat)
  case atStart => exact ⟨0, Nat.zero_le _, rfl, fun g hg => by omega⟩
  case round =>
    obtain ⟨h, hh, rfl, hall⟩ := hrel
    have HA := Lib.hid hall
    clear hall
    by_cases hhi : h < i
    · have hD : decide ((h : Int) < (i : Int)) = true := by simp; omega
      go_wp2_with fail
      clear hD
      go_loop [6] (fun t => ∃ j : Nat, i ≤ j ∧ j ≤ p.n ∧ t = .int .i64 j ∧ ∀ g, i ≤ g → g < j → ntC p i h g = true) (fun t => p.n - (intOf t).toNat)
      case atStart => exact ⟨i, Nat.le_refl _, hi, rfl, fun g h1 h2 => by omega⟩
      case round =>
        obtain ⟨j, hij, hjn, rfl, hall⟩ := hrel
        have HA2 := Lib.hid hall
        clear hall
        by_cases hlt : j < p.n
        · obtain ⟨k, hk⟩ : ∃ k, j = h + 1 + k := ⟨j - h - 1, by omega⟩
          obtain ⟨b3, o3, q3', he3, a4, z4, k4, kc4⟩ := conj_at hV KC.out (i := h) (by omega)
          cases he3
          obtain ⟨b4, o4, rfl, a5, z5, c5, R5⟩ := kc4 k (by omega)
          rw [← hk] at R5
          have VC := hV.valid.cj h j (by omega) hlt
          obtain ⟨b5, o5, rfl, _⟩ := R5.at (j := 0) (by rw [VC.len]; omega)
          have HP := Lib.hid (R5.pre hi)
          have hzn : i ≤ z5 := by
            obtain ⟨_, _, e, h1, _⟩ := R5.form
            simp only [Value.slice.injEq] at e
            obtain ⟨_, e2, rfl⟩ := e
            omega
          have c5' : w.cell? ⟨b4, o4 + (j - h - 1), none⟩ = some (.slice (some ⟨b5, o5, none⟩) p.n z5) := by rw [show j - h - 1 = k by omega]; exact c5
          have hkn : j - h - 1 < p.n - (h + 1) := by omega
          obtain ⟨b, hb⟩ : ∃ b, ntC p i h j = b := ⟨_, rfl⟩
          have hb' : zeroB ((p.C h j).take i) = b := hb
          have HBt := Lib.hid hb
          clear hk kc4 R5 hb c5
          cases b with
          | true =>
            have HN : Hid (∀ g, i ≤ g → g < j + 1 → ntC p i h g = true) := fun g h1 h2 => by
              by_cases hg : g = j
              · subst hg; exact HBt.out
              · exact HA2.out g h1 (by omega)
            have HZ := Lib.hid hb'
            clear hb'
            go_wp2_with fail
            refine (i_isZero _ _ _ HP.out).mono ?_
            rintro e w' ⟨rfl, rfl⟩
            rw [HZ.out]
            go_wp2_with fail
            go_round
            case rel => exact ⟨j + 1, by omega, by omega, by go_num, HN.out⟩
            case measure => simp [intOf]; omega
          | false =>
            have HN := Lib.hid (ntB_no hhi hij hlt HBt.out)
            have HZ := Lib.hid hb'
            clear hb'
            go_wp2_with fail
            refine (i_isZero _ _ _ HP.out).mono ?_
            rintro e w' ⟨rfl, rfl⟩
            rw [HZ.out]
            go_wp2_with fail
            go_ret
            exact ⟨ret_bool HN.out.symm, rfl⟩
        · obtain rfl : j = p.n := by omega
          go_wp2_with fail
          go_round
          case rel => exact ⟨h + 1, by omega, by go_num, fun g hg j h1 h2 => by
            by_cases hgh : g = h
            · subst hgh; exact HA2.out j h1 h2
            · exact HA.out g (by omega) j h1 h2⟩
          case measure => simp [intOf]; omega
    · obtain rfl : h = i := by omega
      have HN := Lib.hid (ntB_yes HA.out)
      go_wp2_with fail
      go_ret
      exact ⟨ret_bool HN.out.symm, rfl⟩
--== spec.l08Normal
set_option maxHeartbeats 2000000 in
theorem s_l08Normal {p : Pres} (hV : ValidP p) (v1 v2 v3 : Value) (i : Nat) (w : World) (hp : RdP w v1 v2 v3 p) (hi : i ≤ p.n) :
    Calls Try.prog 85 #[.agg #[v1, v2, v3], .int .i64 i] w (RetV w (.bool (ntB p i))) := by
  have hn6 := hV.n6
  obtain ⟨p1, q1, rfl, _, _⟩ := hp.1.formN (n := p.n) rfl
  obtain ⟨p2, q2, rfl, _, _⟩ := hp.2.1.formN hV.pl
  obtain ⟨a3, q3, rfl, _, _⟩ := hp.2.2.formN hV.cl
  have KC := Lib.hid hp.2.2
  have g0 := below_alloc w (Obj.cells #[Value.slice p1 p.n q1, Value.slice p2 p.n q2, Value.slice a3 p.n q3] 28)
  have x0 := Bx.new w (Value.slice p1 p.n q1) (Value.slice p2 p.n q2) (Value.slice a3 p.n q3)
  clear hp
  go_enter Try.func85, Try.ntmps85
  go_wp2_with fail
  generalize w.alloc (Obj.cells #[Value.slice p1 p.n q1, Value.slice p2 p.n q2, Value.slice a3 p.n q3] 28) = w1 at *
  have m0 := x0.c0
  have m2 := x0.c2
  go_loop [5] (fun t => ∃ h : Nat, h ≤ i ∧ t = .int .i64 h ∧ ∀ g, g < h → ∀ j, i ≤ j → j < p.n → ntC p i g j = true) (fun t => i - (intOf t).toNat)
  case atStart => exact ⟨0, Nat.zero_le _, rfl, fun g hg => by omega⟩
  case round =>
    obtain ⟨h, hh, rfl, hall⟩ := hrel
    have HA := Lib.hid hall
    clear hall
    by_cases hhi : h < i
    · have hD : decide ((h : Int) < (i : Int)) = true := by simp; omega
      go_wp2_with fail
      clear hD
      go_loop [6] (fun t => ∃ j : Nat, i ≤ j ∧ j ≤ p.n ∧ t = .int .i64 j ∧ ∀ g, i ≤ g → g < j → ntC p i h g = true) (fun t => p.n - (intOf t).toNat)
      case atStart => exact ⟨i, Nat.le_refl _, hi, rfl, fun g h1 h2 => by omega⟩
      case round =>
        obtain ⟨j, hij, hjn, rfl, hall⟩ := hrel
        have HA2 := Lib.hid hall
        clear hall
        by_cases hlt : j < p.n
        · obtain ⟨k, hk⟩ : ∃ k, j = h + 1 + k := ⟨j - h - 1, by omega⟩
          obtain ⟨b3, o3, q3', he3, a4, z4, k4, kc4⟩ := conj_at hV KC.out (i := h) (by omega)
          cases he3
          obtain ⟨b4, o4, rfl, a5, z5, c5, R5⟩ := kc4 k (by omega)
          rw [← hk] at R5
          have VC := hV.valid.cj h j (by omega) hlt
          obtain ⟨b5, o5, rfl, _⟩ := R5.at (j := 0) (by rw [VC.len]; omega)
          have HP := Lib.hid (R5.pre hi)
          have hzn : i ≤ z5 := by
            obtain ⟨_, _, e, h1, _⟩ := R5.form
            simp only [Value.slice.injEq] at e
            obtain ⟨_, e2, rfl⟩ := e
            omega
          have c5' : w.cell? ⟨b4, o4 + (j - h - 1), none⟩ = some (.slice (some ⟨b5, o5, none⟩) p.n z5) := by rw [show j - h - 1 = k by omega]; exact c5
          have e1 := below_cells g0 _ _ k4
          have e2 := below_cells g0 _ _ c5'
          have hkn : j - h - 1 < p.n - (h + 1) := by omega
          obtain ⟨b, hb⟩ : ∃ b, ntC p i h j = b := ⟨_, rfl⟩
          have hb' : zeroB ((p.C h j).take i) = b := hb
          have HBt := Lib.hid hb
          clear hk kc4 R5 hb c5
          cases b with
          | true =>
            have HN : Hid (∀ g, i ≤ g → g < j + 1 → ntC p i h g = true) := fun g h1 h2 => by
              by_cases hg : g = j
              · subst hg; exact HBt.out
              · exact HA2.out g h1 (by omega)
            have HZ := Lib.hid hb'
            clear hb'
            go_wp2_with fail
            refine (s_l01Zero _ _ _ (HP.out.below g0)).mono ?_
            rintro e w' ⟨rfl, rfl⟩
            rw [HZ.out]
            go_wp2_with fail
            go_round
            case rel => exact ⟨j + 1, by omega, by omega, by go_num, HN.out⟩
            case measure => simp [intOf]; omega
          | false =>
            have HN := Lib.hid (ntB_no hhi hij hlt HBt.out)
            have HZ := Lib.hid hb'
            clear hb'
            go_wp2_with fail
            refine (s_l01Zero _ _ _ (HP.out.below g0)).mono ?_
            rintro e w' ⟨rfl, rfl⟩
            rw [HZ.out]
            go_wp2_with fail
            go_ret
            exact ⟨ret_bool HN.out.symm, g0⟩
        · obtain rfl : j = p.n := by omega
          go_wp2_with fail
          go_round
          case rel => exact ⟨h + 1, by omega, by go_num, fun g hg j h1 h2 => by
            by_cases hgh : g = h
            · subst hgh; exact HA2.out j h1 h2
            · exact HA.out g (by omega) j h1 h2⟩
          case measure => simp [intOf]; omega
    · obtain rfl : h = i := by omega
      have HN := Lib.hid (ntB_yes HA.out)
      go_wp2_with fail
      go_ret
      exact ⟨ret_bool HN.out.symm, g0⟩
--== tops
theorem PtrP.boxedN {w : World} {v1 v2 v3 : Value} {p : Pres} (h : RdP w v1 v2 v3 p) : PtrP (w.alloc (.cells #[v1, v2, v3] 28)) (.pointer (some ⟨w.heap.size, 0, none⟩)) p :=
  ⟨_, _, _, _, rfl, by simp [go_sem], by simp [go_sem], by simp [go_sem], h.below (below_alloc _ _)⟩
def ntK (p : Pres) (i : Int) : Int := if conB p = true then (if inB i 0 p.n = true then 0 else 2) else 1
def ntR (p : Pres) (i : Int) : Bool := decide (ntK p i = 0) && ntB p i.toNat
theorem ntK_1 {p : Pres} {i : Int} (h : conB p = false) : ntK p i = 1 := by unfold ntK; rw [h]; rfl
theorem ntK_2 {p : Pres} {i : Int} (h : conB p = true) (h2 : inB i 0 p.n = false) : ntK p i = 2 := by unfold ntK; rw [h, h2]; rfl
theorem ntK_0 {p : Pres} {i : Int} (h : conB p = true) (h2 : inB i 0 p.n = true) : ntK p i = 0 := by unfold ntK; rw [h, h2]; rfl
theorem ntR_ne {p : Pres} {i : Int} (h : ¬ ntK p i = 0) : ntR p i = false := by unfold ntR; rw [decide_eq_false h]; rfl
theorem ntR_0 {p : Pres} {i : Int} (h : ntK p i = 0) : ntR p i = ntB p i.toNat := by unfold ntR; rw [decide_eq_true h]; rfl
theorem ret_bi {a b : Bool} {c d : Int} (h : a = b) (h' : c = d) : Ending.returned (.tuple #[.bool a, .int .i64 c]) = .returned (.tuple #[.bool b, .int .i64 d]) := by rw [h, h']
--== spec.l08Code
set_option maxHeartbeats 2000000 in
theorem s_l08Code (v1 v2 v3 : Value) (p : Pres) (i : Int) (w : World) (hp : RdP w v1 v2 v3 p) (bi : -9223372036854775808 ≤ i ∧ i ≤ 9223372036854775807) :
    Calls Try.prog 88 #[.agg #[v1, v2, v3], .int .i64 i] w (RetV w (.int .i64 (ntK p i))) := by
  have HP := Lib.hid hp
  obtain ⟨ao1, cap1, rfl, _, _⟩ := hp.1.form
  obtain ⟨ao2, cap2, rfl, _, _⟩ := hp.2.1.form
  obtain ⟨ao3, cap3, rfl, _, _⟩ := hp.2.2.form
  have g0 := below_alloc w (Obj.cells #[Value.slice ao1 p.orders.length cap1, Value.slice ao2 p.powers.length cap2, Value.slice ao3 p.conj.length cap3] 28)
  clear hp
  by_cases hc : conB p = true
  case neg =>
    have hc' : conB p = false := by simpa using hc
    have HX := Lib.hid (ntK_1 (i := i) hc')
    clear hc
    go_enter Try.func88, Try.ntmps88
    go_wp2_with fail
    refine (s_l08Group p _ _ _ _ (HP.out.below g0)).mono ?_
    rintro e w1 ⟨rfl, hb⟩
    have g1 := below_size g0 hb
    obtain ⟨c1, f1⟩ := bcell hb
    have z1 : w.heap.size < w1.heap.size := by have := hb.size; simp at this; omega
    rw [hc']
    go_wp2_with fail
    go_ret
    exact ⟨ret_int HX.out.symm, g1⟩
  by_cases hk : inB i 0 p.n = true
  case neg =>
    have hk' : inB i 0 p.n = false := by simpa using hk
    have HX := Lib.hid (ntK_2 hc hk')
    have HK := Lib.hid hk'
    clear hk hk'
    go_enter Try.func88, Try.ntmps88
    go_wp2_with fail
    refine (s_l08Group p _ _ _ _ (HP.out.below g0)).mono ?_
    rintro e w1 ⟨rfl, hb⟩
    have g1 := below_size g0 hb
    obtain ⟨c1, f1⟩ := bcell hb
    have z1 : w.heap.size < w1.heap.size := by have := hb.size; simp at this; omega
    rw [hc]
    go_wp2_with fail
    refine (s_l01In i 0 _ _).mono ?_
    rintro e w' ⟨rfl, rfl⟩
    rw [show inB i 0 (p.orders.length : Int) = false from HK.out]
    clear hb
    go_wp2_with fail
    go_ret
    exact ⟨ret_int HX.out.symm, g1⟩
  have HX := Lib.hid (ntK_0 hc hk)
  have HK := Lib.hid hk
  clear hk
  go_enter Try.func88, Try.ntmps88
  go_wp2_with fail
  refine (s_l08Group p _ _ _ _ (HP.out.below g0)).mono ?_
  rintro e w1 ⟨rfl, hb⟩
  have g1 := below_size g0 hb
  obtain ⟨c1, f1⟩ := bcell hb
  have z1 : w.heap.size < w1.heap.size := by have := hb.size; simp at this; omega
  rw [hc]
  go_wp2_with fail
  refine (s_l01In i 0 _ _).mono ?_
  rintro e w' ⟨rfl, rfl⟩
  rw [show inB i 0 (p.orders.length : Int) = true from HK.out]
  clear hb
  go_wp2_with fail
  go_ret
  exact ⟨ret_int HX.out.symm, g1⟩
