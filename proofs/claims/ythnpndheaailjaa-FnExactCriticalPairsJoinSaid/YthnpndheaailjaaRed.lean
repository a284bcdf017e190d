/-
  Reducible positive words.
-/
import Derived.Test.YthnpndheaailjaaOwn
import Derived.IntWalk
namespace Go.Proofs.Ythnpndheaailjaa
set_option linter.unusedVariables false
set_option linter.unusedSimpArgs false
set_option maxRecDepth 100000
open Go.RowKit

theorem named (x : Int) : ∃ y, Hid (x = y) := ⟨x, rfl⟩
theorem tw_ge {α : Type} (p : α → Bool) (l : List α) : ∀ n, n ≤ (l.takeWhile p).length ↔ n ≤ l.length ∧ ∀ i (h : i < l.length), i < n → p l[i] = true := by
  induction l with
  | nil => intro n; simp
  | cons a l ih =>
    intro n
    by_cases hp : p a = true
    · rw [List.takeWhile_cons_of_pos hp]
      cases n with
      | zero => simp
      | succ n =>
        simp only [List.length_cons, Nat.add_le_add_iff_right]
        rw [ih n]
        constructor
        · rintro ⟨h1, h2⟩
          refine ⟨h1, fun i hi hin => ?_⟩
          cases i with
          | zero => exact hp
          | succ i => exact h2 i (by simpa using hi) (by omega)
        · rintro ⟨h1, h2⟩
          exact ⟨h1, fun i hi hin => h2 (i + 1) (by simpa using hi) (by omega)⟩
    · rw [List.takeWhile_cons_of_neg (by simpa using hp)]
      constructor
      · intro h
        have : n = 0 := by simpa using h
        subst this
        exact ⟨Nat.zero_le _, fun i _ h => by omega⟩
      · rintro ⟨h1, h2⟩
        cases n with
        | zero => exact Nat.zero_le _
        | succ n => exact absurd (h2 0 (by simp) (by omega)) hp
def runL (w : List Int) (t : Nat) : Nat := ((w.drop t).takeWhile fun x => x == w.getD t 0).length
theorem runL_ge {w : List Int} {t m : Nat} (ht : t ≤ w.length) : m ≤ runL w t ↔ t + m ≤ w.length ∧ ∀ i, i < m → w.getD (t + i) 0 = w.getD t 0 := by
  unfold runL
  rw [tw_ge]
  have hdl : (List.drop t w).length = w.length - t := List.length_drop
  constructor
  · rintro ⟨h1, h2⟩
    refine ⟨by omega, fun i hi => ?_⟩
    have := h2 i (by omega) hi
    rw [List.getElem_drop] at this
    have hlt : t + i < w.length := by omega
    rw [show w.getD (t + i) 0 = w[t + i] by simp [List.getD, hlt]]
    simpa using this
  · rintro ⟨h1, h2⟩
    refine ⟨by omega, fun i hi hin => ?_⟩
    have hlt : t + i < w.length := by omega
    rw [List.getElem_drop]
    have := h2 i hin
    rw [show w.getD (t + i) 0 = w[t + i] by simp [List.getD, hlt]] at this
    simpa using this
theorem runL_eq {w : List Int} {t k : Nat} (ht : t ≤ k) (hk : k ≤ w.length) (h : ∀ i, t ≤ i → i < k → w.getD i 0 = w.getD t 0) (hend : k = w.length ∨ w.getD k 0 ≠ w.getD t 0) : runL w t = k - t := by
  have h1 : k - t ≤ runL w t := (runL_ge (by omega)).2 ⟨by omega, fun i hi => h (t + i) (by omega) (by omega)⟩
  have h2 : ¬ (k - t + 1 ≤ runL w t) := by
    intro hc
    obtain ⟨h3, h4⟩ := (runL_ge (by omega)).1 hc
    rcases hend with he | he
    · omega
    · have := h4 (k - t) (by omega)
      rw [show t + (k - t) = k by omega] at this
      exact he this
  omega
def redB (os w : List Int) (t : Nat) : Bool := (decide (t + 1 < w.length) && decide (w.getD (t + 1) 0 < w.getD t 0)) || decide (os.getD (w.getD t 0 - 1).toNat 0 ≤ (runL w t : Int))
def firstR (os w : List Int) : Int := match (List.range w.length).find? (redB os w) with | some t => (t : Int) | none => -1
theorem find_range (p : Nat → Bool) (n t : Nat) (ht : t < n) (h : p t = true) (hl : ∀ i, i < t → p i = false) : (List.range n).find? p = some t := by
  rw [range_split n t ht, List.find?_append, List.find?_cons_of_pos h]
  rw [List.find?_eq_none.2 (fun i hi => by rw [hl i (List.mem_range.1 hi)]; exact Bool.false_ne_true)]
  rfl
theorem firstR_some {os w : List Int} {t : Nat} (ht : t < w.length) (h : redB os w t = true) (hl : ∀ i, i < t → redB os w i = false) : firstR os w = (t : Int) := by
  unfold firstR; rw [find_range _ _ _ ht h hl]
theorem firstR_none {os w : List Int} (hl : ∀ i, i < w.length → redB os w i = false) : firstR os w = -1 := by
  unfold firstR
  rw [List.find?_eq_none.2 (fun i hi => by rw [hl i (List.mem_range.1 hi)]; exact Bool.false_ne_true)]
theorem firstR_bd (os w : List Int) : firstR os w = -1 ∨ ∃ t : Nat, firstR os w = (t : Int) ∧ t < w.length ∧ redB os w t = true := by
  unfold firstR
  cases h : (List.range w.length).find? (redB os w) with
  | none => exact .inl rfl
  | some t => exact .inr ⟨t, rfl, List.mem_range.1 (List.mem_of_find?_eq_some h), List.find?_some h⟩
/-- letters 1 .. n -/
def posB (n : Nat) (w : List Int) : Bool := w.all fun l => inB l 1 n
def PosW (n : Nat) (xs : List Int) : Prop := ∀ j, j < xs.length → ∃ q : Nat, xs.getD j 0 = (q : Int) + 1 ∧ q < n
theorem posB_true {n : Nat} {w : List Int} (h : posB n w = true) : PosW n w := by
  intro j hj
  have := inB_true.1 (List.all_eq_true.1 h _ (getD_mem hj))
  exact ⟨(w.getD j 0 - 1).toNat, by omega, by omega⟩
theorem posB_false {n : Nat} {w : List Int} {j : Nat} (hj : j < w.length) (h : inB (w.getD j 0) 1 n = false) : posB n w = false := by
  rw [posB, List.all_eq_false]; exact ⟨_, getD_mem hj, by rw [h]; exact Bool.false_ne_true⟩
--== spec.l09Run
set_option maxHeartbeats 2000000 in
theorem s_l09Run (v : Value) (xs : List Int) (t : Nat) (w : World) (hv : Rd w v xs) (ht : t < xs.length) :
    Calls Try.prog 189 #[v, .int .i64 t] w (RetQuiet w (.int .i64 (runL xs t))) := by
  have HV := Lib.hid hv
  obtain ⟨ao, cap, rfl, hc1, hc2⟩ := hv.form
  obtain ⟨b, off, rfl, hct⟩ := hv.at ht
  clear hv
  go_enter Try.func189, Try.ntmps189
  go_wp2_with fail
  go_loopw [5] (fun i wr => ∃ k : Nat, t ≤ k ∧ k ≤ xs.length ∧ i = .int .i64 k ∧ (∀ i, t ≤ i → i < k → xs.getD i 0 = xs.getD t 0) ∧ ∃ n, wr = w.drewN n) (fun i _ => xs.length - (intOf i).toNat)
  case atStart => exact ⟨t, Nat.le_refl _, by omega, rfl, fun i h1 h2 => by omega, 0, rfl⟩
  case round =>
    obtain ⟨k, hk1, hk2, rfl, hall, n, hn⟩ := hrel
    have HN := Lib.hid hn
    have HA := Lib.hid hall
    clear hn hall
    by_cases hlt : k < xs.length
    · obtain ⟨b', off', he, hck0⟩ := Rd.at HV.out hlt
      cases he
      have hck : wr.cell? ⟨b, off + k, none⟩ = some (.int .i64 (xs.getD k 0)) := by rw [HN.out]; exact hck0
      have hct' : wr.cell? ⟨b, off + t, none⟩ = some (.int .i64 (xs.getD t 0)) := by rw [HN.out]; exact hct
      have D1 : decide ((k : Int) < (xs.length : Int)) = true := by simpa using hlt
      by_cases he : xs.getD k 0 = xs.getD t 0
      · have HE := Lib.hid he
        have e1 : (xs.getD k 0 == xs.getD t 0) = true := by rw [he]; simp
        have HX : Hid (∀ i, t ≤ i → i < k + 1 → xs.getD i 0 = xs.getD t 0) := fun i h1 h2 => by
          by_cases h : i = k
          · subst h; exact he
          · exact HA.out i h1 (by omega)
        clear he hck0 hct HA HE
        obtain ⟨x, Hx⟩ := named (xs.getD k 0)
        obtain ⟨y, Hy⟩ := named (xs.getD t 0)
        rw [Hx.out] at hck
        rw [Hy.out] at hct'
        rw [Hx.out, Hy.out] at e1
        go_wp2_with fail
        go_quiet (fail)
        go_wp2_with fail
        go_roundw
        case rel => exact ⟨k + 1, by omega, by omega, by go_num, HX.out, by rw [HN.out]; exact drewN_drewN _ _ _⟩
        case measure => simp [intOf]; omega
      · have HR := Lib.hid (runL_eq hk1 hk2 HA.out (.inr he))
        have e1 : (xs.getD k 0 == xs.getD t 0) = false := by simpa using he
        clear he hck0 hct
        obtain ⟨x, Hx⟩ := named (xs.getD k 0)
        obtain ⟨y, Hy⟩ := named (xs.getD t 0)
        rw [Hx.out] at hck
        rw [Hy.out] at hct'
        rw [Hx.out, Hy.out] at e1
        go_wp2_with fail
        go_quiet (fail)
        go_wp2_with fail
        go_ret
        exact ⟨ret_int (by rw [HR.out]; omega), by rw [HN.out]; exact drewN_drewN _ _ _⟩
    · obtain rfl : k = xs.length := by omega
      have HR := Lib.hid (runL_eq hk1 hk2 HA.out (.inl rfl))
      have D1 : decide ((xs.length : Int) < (xs.length : Int)) = false := by simp
      clear hct
      go_wp2_with fail
      go_quiet (fail)
      go_wp2_with fail
      go_ret
      exact ⟨ret_int (by rw [HR.out]; omega), by rw [HN.out]; exact drewN_drewN _ _ _⟩
--== impl.reducible
theorem redB_desc {os w : List Int} {t : Nat} (h1 : t + 1 < w.length) (h2 : w.getD (t + 1) 0 < w.getD t 0) : redB os w t = true := by
  unfold redB; rw [decide_eq_true h1, decide_eq_true h2]; rfl
theorem redB_run {os w : List Int} {t q m : Nat} (h : ¬ (t + 1 < w.length ∧ w.getD (t + 1) 0 < w.getD t 0)) (hq : w.getD t 0 = (q : Int) + 1) (hm : os.getD q 0 = (m : Int)) : redB os w t = decide (m ≤ runL w t) := by
  have h' : (decide (t + 1 < w.length) && decide (w.getD (t + 1) 0 < w.getD t 0)) = false := by
    rw [Bool.eq_false_iff]; intro hc; simp only [Bool.and_eq_true, decide_eq_true_eq] at hc; exact h hc
  unfold redB
  rw [h', Bool.false_or, hq, show ((q : Int) + 1 - 1).toNat = q by omega, hm]
  rw [Bool.eq_iff_iff, decide_eq_true_iff, decide_eq_true_iff]; omega
set_option maxHeartbeats 4000000 in
theorem i_reducible (vp v : Value) (p : Pres) (xs : List Int) (t : Nat) (w : World) (hp : PtrP w vp p) (hv : Rd w v xs) (ht : t < xs.length) (hw : PosW p.n xs) (ho : primesB p.orders = true) (hx : xs.length ≤ 100000) :
    Calls Try.prog 182 #[vp, v, .int .i64 t] w (RetQuiet w (.bool (redB p.orders xs t))) := by
  have HV := Lib.hid hv
  have HP := Lib.hid hp
  obtain ⟨pb, v1, v2, v3, rfl, hp1, _, _, hR, _, _⟩ := hp
  obtain ⟨aq, capq, rfl, hq1, hq2⟩ := hR.form
  obtain ⟨ao, cap, rfl, hc1, hc2⟩ := hv.form
  obtain ⟨b, off, rfl, hct⟩ := hv.at ht
  obtain ⟨q, hq, hqn⟩ := hw t ht
  obtain ⟨bo, offo, rfl, hco⟩ := hR.at (show q < p.orders.length from hqn)
  have hob := primesB_at ho (getD_mem (xs := p.orders) (k := q) hqn)
  obtain ⟨m, hm⟩ : ∃ m : Nat, p.orders.getD q 0 = (m : Int) := ⟨(p.orders.getD q 0).toNat, by omega⟩
  rw [hm] at hco hob
  have hqn' : q < p.orders.length := hqn
  have HQ := Lib.hid hq
  have HM := Lib.hid hm
  clear hv hR hw ho hm
  rw [hq] at hct
  have W0 : IntKind.i64.wrap ((t : Int) + 1) = (t : Int) + 1 := IntWalk.i64_in _ (by omega)
  by_cases h1 : t + 1 < xs.length
  · obtain ⟨b', off', he, hc1'⟩ := Rd.at HV.out h1
    cases he
    have D1 : decide ((t : Int) + 1 < (xs.length : Int)) = true := by simp; omega
    have L1 : (t : Int) + 1 < (xs.length : Int) := by omega
    by_cases h2 : xs.getD (t + 1) 0 < xs.getD t 0
    · have HR := Lib.hid (redB_desc (os := p.orders) h1 h2)
      rw [hq] at h2
      obtain ⟨x, Hx⟩ := named (xs.getD (t + 1) 0)
      rw [Hx.out] at h2 hc1'
      have D2 : decide (x < (q : Int) + 1) = true := by simpa using h2
      clear hq
      go_enter Try.func182, Try.ntmps182
      go_wp2_with fail
      go_quiet (fail)
      go_wp2_with fail
      go_ret
      exact ⟨ret_bool HR.out.symm, by first | exact ⟨_, rfl⟩ | exact drewN_drewN _ _ _⟩
    · have HR := Lib.hid (redB_run (os := p.orders) (fun h => h2 h.2) hq HM.out)
      rw [hq] at h2
      obtain ⟨x, Hx⟩ := named (xs.getD (t + 1) 0)
      rw [Hx.out] at h2 hc1'
      have D2 : decide (x < (q : Int) + 1) = false := by simpa using h2
      have D3 : decide ((q : Int) + 1 > x) = false := by simpa using h2
      clear hq h2
      have W1 : IntKind.i64.wrap ((q : Int) + 1 - 1) = (q : Int) := by rw [IntWalk.i64_in _ (by omega)]; omega
      have L2 : (q : Int) < (p.orders.length : Int) := by omega
      have L3 : (0 : Int) ≤ (q : Int) := by omega
      go_enter Try.func182, Try.ntmps182
      go_wp2_with fail
      go_quiet (fail)
      clear D1 D2 D3 W0 hc1'
      go_wp2_with fail
      go_quiet (fail)
      clear W1 L2 L3
      have hm2 : 2 ≤ m ∧ m ≤ 7 := by omega
      have HVd := HV.out
      have HV2 := Lib.hid HVd
      clear HVd
      by_cases hle : t + m ≤ xs.length
      case neg =>
        have HN : Hid (redB p.orders xs t = false) := by
          show _ = _; rw [HR.out, decide_eq_false]; intro hc; have := ((runL_ge (Nat.le_of_lt ht)).1 hc).1; omega
        go_wp2_with fail
        go_ret
        exact ⟨ret_bool HN.out.symm, by first | exact ⟨_, rfl⟩ | exact drewN_drewN _ _ _⟩
      go_wp2_with fail
      go_loop [51] (fun i => ∃ k : Nat, k ≤ m ∧ i = .int .i64 k ∧ ∀ j, j < k → xs.getD (t + j) 0 = (q : Int) + 1) (fun i => m - (intOf i).toNat)
      case atStart => exact ⟨0, Nat.zero_le _, rfl, fun j hj => by omega⟩
      case round =>
        obtain ⟨k, hk, rfl, hall⟩ := hrel
        have HA := Lib.hid hall
        clear hall
        by_cases hkm : k < m
        · obtain ⟨b', off', he, hck⟩ := Rd.at HV2.out (show t + k < xs.length by omega)
          cases he
          obtain ⟨y, Hy⟩ := named (xs.getD (t + k) 0)
          rw [Hy.out, ← Nat.add_assoc] at hck
          by_cases hyq : y = (q : Int) + 1
          · have e1 : (y == (q : Int) + 1) = true := by simpa using hyq
            have e2 : (y != (q : Int) + 1) = false := by simpa using hyq
            have HX : Hid (∀ j, j < k + 1 → xs.getD (t + j) 0 = (q : Int) + 1) := fun j hj => by
              by_cases h : j = k
              · subst h; rw [Hy.out]; exact hyq
              · exact HA.out j (by omega)
            clear hyq
            go_wp2_with fail
            go_round
            case rel => exact ⟨k + 1, by omega, by go_num, HX.out⟩
            case measure => simp [intOf]; omega
          · have e1 : (y == (q : Int) + 1) = false := by simpa using hyq
            have e2 : (y != (q : Int) + 1) = true := by simpa using hyq
            have HN : Hid (redB p.orders xs t = false) := by
              show _ = _; rw [HR.out, decide_eq_false]; intro hc; have := ((runL_ge (Nat.le_of_lt ht)).1 hc).2 k hkm; rw [Hy.out, HQ.out] at this; exact hyq this
            clear hyq
            go_wp2_with fail
            go_ret
            exact ⟨ret_bool HN.out.symm, by first | exact ⟨_, rfl⟩ | exact drewN_drewN _ _ _⟩
        · obtain rfl : k = m := by omega
          have HN : Hid (redB p.orders xs t = true) := by
            show _ = _; rw [HR.out, decide_eq_true_iff]; exact (runL_ge (Nat.le_of_lt ht)).2 ⟨hle, fun j hj => by rw [HA.out j hj, HQ.out]⟩
          go_wp2_with fail
          go_ret
          exact ⟨ret_bool HN.out.symm, by first | exact ⟨_, rfl⟩ | exact drewN_drewN _ _ _⟩
  · have HR := Lib.hid (redB_run (os := p.orders) (fun h => h1 h.1) hq HM.out)
    have D1 : decide ((t : Int) + 1 < (xs.length : Int)) = false := by simp; omega
    clear hq
    have W1 : IntKind.i64.wrap ((q : Int) + 1 - 1) = (q : Int) := by rw [IntWalk.i64_in _ (by omega)]; omega
    have L2 : (q : Int) < (p.orders.length : Int) := by omega
    have L3 : (0 : Int) ≤ (q : Int) := by omega
    go_enter Try.func182, Try.ntmps182
    go_wp2_with fail
    go_quiet (fail)
    clear D1 W0
    go_wp2_with fail
    go_quiet (fail)
    clear W1 L2 L3
    have hm2 : 2 ≤ m ∧ m ≤ 7 := by omega
    have HVd := HV.out
    have HV2 := Lib.hid HVd
    clear HVd
    by_cases hle : t + m ≤ xs.length
    case neg =>
      have HN : Hid (redB p.orders xs t = false) := by
        show _ = _; rw [HR.out, decide_eq_false]; intro hc; have := ((runL_ge (Nat.le_of_lt ht)).1 hc).1; omega
      go_wp2_with fail
      go_ret
      exact ⟨ret_bool HN.out.symm, by first | exact ⟨_, rfl⟩ | exact drewN_drewN _ _ _⟩
    exfalso; omega
--== impl.reducibleAt
set_option maxHeartbeats 2000000 in
theorem i_reducibleAt (vp v : Value) (p : Pres) (xs : List Int) (w : World) (hp : PtrP w vp p) (hv : Rd w v xs) (hw : PosW p.n xs) (ho : primesB p.orders = true) (hx : xs.length ≤ 100000) :
    Calls Try.prog 166 #[vp, v] w (RetQuiet w (.int .i64 (firstR p.orders xs))) := by
  have HV := Lib.hid hv
  have HP := Lib.hid hp
  have HW := Lib.hid hw
  obtain ⟨ao, cap, rfl, hc1, hc2⟩ := hv.form
  clear hv hp hw
  go_enter Try.func166, Try.ntmps166
  go_wp2_with fail
  go_loopw [8] (fun i wr => ∃ k : Nat, k ≤ xs.length ∧ i = .int .i64 k ∧ (∀ i, i < k → redB p.orders xs i = false) ∧ ∃ n, wr = w.drewN n) (fun i _ => xs.length - (intOf i).toNat)
  case atStart => exact ⟨0, Nat.zero_le _, rfl, fun i hi => by omega, 0, rfl⟩
  case round =>
    obtain ⟨k, hk, rfl, hall, n, hn⟩ := hrel
    have HN := Lib.hid hn
    have HA := Lib.hid hall
    clear hn hall
    by_cases hlt : k < xs.length
    · have hv' : Rd wr (.slice ao xs.length cap) xs := by rw [HN.out]; exact HV.out
      have hp' : PtrP wr vp p := by rw [HN.out]; exact HP.out
      by_cases hr : redB p.orders xs k = true
      · have HF := Lib.hid (firstR_some hlt hr HA.out)
        go_wp2_with fail
        refine (i_reducible _ _ p xs k _ hp' hv' hlt HW.out ho hx).mono ?_
        rw [hr]
        rintro e w2 ⟨rfl, n2, rfl⟩
        go_wp2_with fail
        go_ret
        exact ⟨ret_int HF.out.symm, by rw [HN.out]; exact drewN_drewN _ _ _⟩
      · have hr' : redB p.orders xs k = false := by simpa using hr
        have HX : Hid (∀ i, i < k + 1 → redB p.orders xs i = false) := fun i hi => by
          by_cases h : i = k
          · subst h; exact hr'
          · exact HA.out i (by omega)
        clear hr
        go_wp2_with fail
        refine (i_reducible _ _ p xs k _ hp' hv' hlt HW.out ho hx).mono ?_
        rw [hr']
        rintro e w2 ⟨rfl, n2, rfl⟩
        clear hr'
        go_wp2_with fail
        go_roundw
        case rel => exact ⟨k + 1, by omega, by go_num, HX.out, by rw [HN.out]; exact drewN_drewN _ _ _⟩
        case measure => simp [intOf]; omega
    · obtain rfl : k = xs.length := by omega
      have HF := Lib.hid (firstR_none HA.out)
      go_wp2_with fail
      go_ret
      exact ⟨ret_int HF.out.symm, n, HN.out⟩
--== spec.l09Reducible
set_option maxHeartbeats 4000000 in
theorem s_l09Reducible (v1 v2 v3 v : Value) (p : Pres) (xs : List Int) (t : Nat) (w : World) (hp : RdP w v1 v2 v3 p) (hv : Rd w v xs) (ht : t < xs.length) (hw : PosW p.n xs) (ho : primesB p.orders = true) (hx : xs.length ≤ 100000) :
    Calls Try.prog 181 #[.agg #[v1, v2, v3], v, .int .i64 t] w (RetV w (.bool (redB p.orders xs t))) := by
  have HV := Lib.hid hv
  obtain ⟨hR, hR2, hR3⟩ := hp
  obtain ⟨aq, capq, rfl, hq1, hq2⟩ := hR.form
  obtain ⟨a2, cap2, rfl, _, _⟩ := hR2.form
  obtain ⟨a3, cap3, rfl, _, _⟩ := hR3.form
  obtain ⟨ao, cap, rfl, hc1, hc2⟩ := hv.form
  have g0 := below_alloc w (Obj.cells #[Value.slice aq p.orders.length capq, Value.slice a2 p.powers.length cap2, Value.slice a3 p.conj.length cap3] 32)
  have HVb := Lib.hid (hv.below g0)
  obtain ⟨b, off, rfl, hct⟩ := (hv.below g0).at ht
  obtain ⟨q, hq, hqn⟩ := hw t ht
  obtain ⟨bo, offo, rfl, hco⟩ := (hR.below g0).at (show q < p.orders.length from hqn)
  have hob := primesB_at ho (getD_mem (xs := p.orders) (k := q) hqn)
  obtain ⟨m, hm⟩ : ∃ m : Nat, p.orders.getD q 0 = (m : Int) := ⟨(p.orders.getD q 0).toNat, by omega⟩
  rw [hm] at hco hob
  have hqn' : q < p.orders.length := hqn
  have HQ := Lib.hid hq
  have HM := Lib.hid hm
  clear hv hR hR2 hR3 hw ho hm
  rw [hq] at hct
  have W0 : IntKind.i64.wrap ((t : Int) + 1) = (t : Int) + 1 := IntWalk.i64_in _ (by omega)
  have B0 := Bx.new w (Value.slice (some ⟨bo, offo, none⟩) p.orders.length capq) (Value.slice a2 p.powers.length cap2) (Value.slice a3 p.conj.length cap3)
  have m0 := B0.c0
  clear B0
  generalize hw0 : w.alloc (Obj.cells #[Value.slice (some ⟨bo, offo, none⟩) p.orders.length capq, Value.slice a2 p.powers.length cap2, Value.slice a3 p.conj.length cap3] 32) = w0 at *
  have HW0 := Lib.hid hw0
  clear hw0
  by_cases h1 : t + 1 < xs.length
  · obtain ⟨b', off', he, hc1'⟩ := Rd.at HVb.out h1
    cases he
    have D1 : decide ((t : Int) + 1 < (xs.length : Int)) = true := by simp; omega
    have L1 : (t : Int) + 1 < (xs.length : Int) := by omega
    by_cases h2 : xs.getD (t + 1) 0 < xs.getD t 0
    · have HR := Lib.hid (redB_desc (os := p.orders) h1 h2)
      rw [hq] at h2
      obtain ⟨x, Hx⟩ := named (xs.getD (t + 1) 0)
      rw [Hx.out] at h2 hc1'
      have D2 : decide (x < (q : Int) + 1) = true := by simpa using h2
      clear hq
      go_enter Try.func181, Try.ntmps181
      go_wp2_with fail
      rw [HW0.out]
      go_quiet (fail)
      go_wp2_with fail
      go_ret
      exact ⟨ret_bool HR.out.symm, below_drewN g0 _⟩
    have HR := Lib.hid (redB_run (os := p.orders) (fun h => h2 h.2) hq HM.out)
    rw [hq] at h2
    obtain ⟨x, Hx⟩ := named (xs.getD (t + 1) 0)
    rw [Hx.out] at h2 hc1'
    have D2 : decide (x < (q : Int) + 1) = false := by simpa using h2
    clear hq h2
    have W1 : IntKind.i64.wrap ((q : Int) + 1 - 1) = (q : Int) := by rw [IntWalk.i64_in _ (by omega)]; omega
    have L2 : (q : Int) < (p.orders.length : Int) := by omega
    have L3 : (0 : Int) ≤ (q : Int) := by omega
    go_enter Try.func181, Try.ntmps181
    go_wp2_with fail
    rw [HW0.out]
    go_quiet (fail)
    clear D2 W0 hc1'
    clear D1
    obtain ⟨w1, HW1⟩ : ∃ w1, Hid (w0.drewN nq = w1) := ⟨_, rfl⟩
    rw [HW1.out]
    have n0 : w1.cell? ⟨w.heap.size, 0, none⟩ = some (Value.slice (some ⟨bo, offo, none⟩) p.orders.length capq) := by rw [← HW1.out]; exact m0
    have nct : w1.cell? ⟨b, off + t, none⟩ = some (.int .i64 ((q : Int) + 1)) := by rw [← HW1.out]; exact hct
    have nco : w1.cell? ⟨bo, offo + q, none⟩ = some (.int .i64 (m : Int)) := by rw [← HW1.out]; exact hco
    have HV1 : Hid (Rd w1 (.slice (some ⟨b, off, none⟩) xs.length cap) xs) := by rw [← HW1.out]; exact HVb.out
    clear m0 hct hco
    go_wp2_with fail
    go_quiet ((go_at_call 189; exact Calls.quiet_of (s_l09Run _ xs t _ HV1.out ht)))
    clear W1 L2 L3
    go_wp2_with fail
    go_ret
    exact ⟨ret_bool (by rw [HR.out]), by rw [← HW1.out]; exact below_drewN (below_drewN g0 _) _⟩
  have HR := Lib.hid (redB_run (os := p.orders) (fun h => h1 h.1) hq HM.out)
  have D1 : decide ((t : Int) + 1 < (xs.length : Int)) = false := by simp; omega
  clear hq
  have W1 : IntKind.i64.wrap ((q : Int) + 1 - 1) = (q : Int) := by rw [IntWalk.i64_in _ (by omega)]; omega
  have L2 : (q : Int) < (p.orders.length : Int) := by omega
  have L3 : (0 : Int) ≤ (q : Int) := by omega
  go_enter Try.func181, Try.ntmps181
  go_wp2_with fail
  rw [HW0.out]
  go_quiet (fail)
  clear W0
  clear D1
  obtain ⟨w1, HW1⟩ : ∃ w1, Hid (w0.drewN nq = w1) := ⟨_, rfl⟩
  rw [HW1.out]
  have n0 : w1.cell? ⟨w.heap.size, 0, none⟩ = some (Value.slice (some ⟨bo, offo, none⟩) p.orders.length capq) := by rw [← HW1.out]; exact m0
  have nct : w1.cell? ⟨b, off + t, none⟩ = some (.int .i64 ((q : Int) + 1)) := by rw [← HW1.out]; exact hct
  have nco : w1.cell? ⟨bo, offo + q, none⟩ = some (.int .i64 (m : Int)) := by rw [← HW1.out]; exact hco
  have HV1 : Hid (Rd w1 (.slice (some ⟨b, off, none⟩) xs.length cap) xs) := by rw [← HW1.out]; exact HVb.out
  clear m0 hct hco
  go_wp2_with fail
  go_quiet ((go_at_call 189; exact Calls.quiet_of (s_l09Run _ xs t _ HV1.out ht)))
  clear W1 L2 L3
  go_wp2_with fail
  go_ret
  exact ⟨ret_bool (by rw [HR.out]), by rw [← HW1.out]; exact below_drewN (below_drewN g0 _) _⟩
--== spec.l09At
set_option maxHeartbeats 2000000 in
theorem s_l09At (v1 v2 v3 v : Value) (p : Pres) (xs : List Int) (w : World) (hp : RdP w v1 v2 v3 p) (hv : Rd w v xs) (hw : PosW p.n xs) (ho : primesB p.orders = true) (hx : xs.length ≤ 100000) :
    Calls Try.prog 163 #[.agg #[v1, v2, v3], v] w (RetV w (.int .i64 (firstR p.orders xs))) := by
  have HV := Lib.hid hv
  have HP := Lib.hid hp
  have HW := Lib.hid hw
  obtain ⟨a1, c1, rfl, _, _⟩ := hp.1.form
  obtain ⟨a2, c2, rfl, _, _⟩ := hp.2.1.form
  obtain ⟨a3, c3, rfl, _, _⟩ := hp.2.2.form
  obtain ⟨ao, cap, rfl, hc1, hc2⟩ := hv.form
  have g0 := below_alloc w (Obj.cells #[Value.slice a1 p.orders.length c1, Value.slice a2 p.powers.length c2, Value.slice a3 p.conj.length c3] 32)
  have B0 := Bx.new w (Value.slice a1 p.orders.length c1) (Value.slice a2 p.powers.length c2) (Value.slice a3 p.conj.length c3)
  clear hv hp hw
  go_enter Try.func163, Try.ntmps163
  go_wp2_with fail
  go_loopw [5] (fun i wr => ∃ k : Nat, k ≤ xs.length ∧ i = .int .i64 k ∧ (∀ i, i < k → redB p.orders xs i = false) ∧ Below w.heap.size w wr ∧ Bx wr w.heap.size (Value.slice a1 p.orders.length c1) (Value.slice a2 p.powers.length c2) (Value.slice a3 p.conj.length c3)) (fun i _ => xs.length - (intOf i).toNat)
  case atStart => exact ⟨0, Nat.zero_le _, rfl, fun i hi => by omega, g0, B0⟩
  case round =>
    clear B0 g0
    obtain ⟨k, hk, rfl, hall, hB, hX⟩ := hrel
    have HA := Lib.hid hall
    have m0 := hX.c0
    have m1 := hX.c1
    have m2 := hX.c2
    clear hall
    by_cases hlt : k < xs.length
    · by_cases hr : redB p.orders xs k = true
      · have HF := Lib.hid (firstR_some hlt hr HA.out)
        go_wp2_with fail
        refine (s_l09Reducible _ _ _ _ p xs k _ (HP.out.below hB) (Rd.below HV.out hB) hlt HW.out ho hx).mono ?_
        rw [hr]
        rintro e w2 ⟨rfl, hB2⟩
        go_wp2_with fail
        go_ret
        exact ⟨ret_int HF.out.symm, below_size hB hB2⟩
      · have hr' : redB p.orders xs k = false := by simpa using hr
        have HX : Hid (∀ i, i < k + 1 → redB p.orders xs i = false) := fun i hi => by
          by_cases h : i = k
          · subst h; exact hr'
          · exact HA.out i (by omega)
        clear hr
        go_wp2_with fail
        refine (s_l09Reducible _ _ _ _ p xs k _ (HP.out.below hB) (Rd.below HV.out hB) hlt HW.out ho hx).mono ?_
        rw [hr']
        rintro e w2 ⟨rfl, hB2⟩
        have hB3 := below_size hB hB2
        have hX2 := hX.below hB2 hX.lt
        clear hr' hB hX hB2 m0 m1 m2
        go_wp2_with fail
        go_roundw
        case rel => exact ⟨k + 1, by omega, by go_num, HX.out, hB3, hX2⟩
        case measure => simp [intOf]; omega
    · obtain rfl : k = xs.length := by omega
      have HF := Lib.hid (firstR_none HA.out)
      go_wp2_with fail
      go_ret
      exact ⟨ret_int HF.out.symm, hB⟩
end Go.Proofs.Ythnpndheaailjaa
