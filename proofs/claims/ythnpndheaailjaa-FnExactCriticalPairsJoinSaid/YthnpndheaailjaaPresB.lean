/-
  Valid presentations: the tests themselves.
-/
import Derived.Test.YthnpndheaailjaaPresA
namespace Go.Proofs.Ythnpndheaailjaa
set_option linter.unusedVariables false
set_option linter.unusedSimpArgs false
set_option maxRecDepth 100000
open Go.RowKit

theorem Rd.at {w : World} {ao : Option Addr} {n cap : Nat} {xs : List Int} (h : Rd w (.slice ao n cap) xs) {j : Nat} (hj : j < xs.length) :
    ∃ b off, ao = some ⟨b, off, none⟩ ∧ w.cell? ⟨b, off + j, none⟩ = some (.int .i64 (xs.getD j 0)) := by
  obtain ⟨ao', cap', he, h1, h2, h3, h4⟩ := h
  simp only [Value.slice.injEq] at he
  obtain ⟨rfl, rfl, rfl⟩ := he
  rcases h4 with h4 | ⟨b, off, rfl, h4⟩
  · omega
  · exact ⟨b, off, rfl, h4 j hj⟩
theorem RdP.of_cells {w w' : World} {v1 v2 v3 : Value} {p : Pres} (h : RdP w v1 v2 v3 p) (hc : ∀ a u, w.cell? a = some u → w'.cell? a = some u) : RdP w' v1 v2 v3 p := ⟨h.1.of_cells hc, h.2.1.of_cells hc, h.2.2.of_cells hc⟩
theorem RdP.drewN {w : World} {n : Nat} {v1 v2 v3 : Value} {p : Pres} (h : RdP w v1 v2 v3 p) : RdP (w.drewN n) v1 v2 v3 p := h
--== spec.IsPresentation
theorem s_IsPresentation_no (v1 v2 v3 : Value) (p : Pres) (w : World) (hv : RdP w v1 v2 v3 p) (hs : ¬ (p.n ≤ 6 ∧ p.powers.length = p.n ∧ p.conj.length = p.n)) :
    Calls Try.prog 89 #[.agg #[v1, v2, v3]] w (RetV w (.bool (validB p))) := by
  obtain ⟨h1, h2, h3⟩ := hv
  obtain ⟨ao1, cap1, rfl, _, _⟩ := h1.form
  obtain ⟨ao2, cap2, rfl, _, _⟩ := h2.form
  obtain ⟨ao3, cap3, rfl, _, _⟩ := h3.form
  have HV := Lib.hid (validB_size hs)
  have g0 := below_alloc w (Obj.cells #[Value.slice ao1 p.orders.length cap1, Value.slice ao2 p.powers.length cap2, Value.slice ao3 p.conj.length cap3] 32)
  unfold Pres.n at hs
  by_cases q1 : p.orders.length ≤ 6
  · by_cases q2 : p.powers.length = p.orders.length
    · have q3 : ¬ p.conj.length = p.orders.length := fun h => hs ⟨q1, q2, h⟩
      have t2 : ((p.powers.length : Int) == (p.orders.length : Int)) = true := by simp [q2]
      have t2' : ((p.powers.length : Int) != (p.orders.length : Int)) = false := by simp [q2]
      have t3 : ((p.conj.length : Int) == (p.orders.length : Int)) = false := by simp; omega
      have t3' : ((p.conj.length : Int) != (p.orders.length : Int)) = true := by simp; omega
      clear q2 q3 hs
      go_enter Try.func89, Try.ntmps89
      go_wp2
      go_ret
      exact ⟨ret_bool HV.out.symm, g0⟩
    · have t2 : ((p.powers.length : Int) == (p.orders.length : Int)) = false := by simp; omega
      have t2' : ((p.powers.length : Int) != (p.orders.length : Int)) = true := by simp; omega
      clear q2 hs
      go_enter Try.func89, Try.ntmps89
      go_wp2
      go_ret
      exact ⟨ret_bool HV.out.symm, g0⟩
  · clear hs
    go_enter Try.func89, Try.ntmps89
    go_wp2
    go_ret
    exact ⟨ret_bool HV.out.symm, g0⟩
set_option maxHeartbeats 4000000 in
theorem s_IsPresentation (v1 v2 v3 : Value) (p : Pres) (w : World) (hv : RdP w v1 v2 v3 p) :
    Calls Try.prog 89 #[.agg #[v1, v2, v3]] w (RetV w (.bool (validB p))) := by
  by_cases hs : p.n ≤ 6 ∧ p.powers.length = p.n ∧ p.conj.length = p.n
  case neg => exact s_IsPresentation_no v1 v2 v3 p w hv hs
  obtain ⟨q1, q2, q3⟩ := hs
  have hR := Lib.hid hv
  obtain ⟨h1, h2, h3⟩ := hv
  obtain ⟨ao1, cap1, rfl, _, _⟩ := h1.form
  obtain ⟨ao2, cap2, rfl, _, _⟩ := h2.form
  obtain ⟨ao3, cap3, rfl, _, _⟩ := h3.form
  have g0 := below_alloc w (Obj.cells #[Value.slice ao1 p.orders.length cap1, Value.slice ao2 p.powers.length cap2, Value.slice ao3 p.conj.length cap3] 32)
  have t2 : ((p.powers.length : Int) == (p.orders.length : Int)) = true := by have h : p.powers.length = p.orders.length := q2; simp [h]
  have t2' : ((p.powers.length : Int) != (p.orders.length : Int)) = false := by have h : p.powers.length = p.orders.length := q2; simp [h]
  have t3 : ((p.conj.length : Int) == (p.orders.length : Int)) = true := by have h : p.conj.length = p.orders.length := q3; simp [h]
  have t3' : ((p.conj.length : Int) != (p.orders.length : Int)) = false := by have h : p.conj.length = p.orders.length := q3; simp [h]
  have Q1 : Hid (p.orders.length = p.n) := rfl
  have Q2 := Lib.hid q2
  have Q3 := Lib.hid q3
  have q1' : p.orders.length ≤ 6 := q1
  clear q2 q3 q1
  go_enter Try.func89, Try.ntmps89
  go_wp2
  clear t2 t2' t3 t3'
  have r1 := h1.below g0
  go_loop [4] (fun i => ∃ j : Nat, j ≤ p.orders.length ∧ i = .int .i64 j ∧ primesB (p.orders.take j) = true) (fun i => p.orders.length - (intOf i).toNat)
  case atStart => exact ⟨0, Nat.zero_le _, rfl, rfl⟩
  case round =>
    obtain ⟨j, hj, rfl, hpr⟩ := hrel
    have HP := Lib.hid hpr
    clear hpr
    by_cases hlt : j < p.orders.length
    · obtain ⟨b, off, rfl, hcell⟩ := r1.at hlt
      have HS : Hid (primesB (p.orders.take (j + 1)) = (primesB (p.orders.take j) && primeB (p.orders.getD j 0))) := by show _ = _; rw [take_snoc p.orders j 0 hlt, primesB_snoc]
      have HN := Lib.hid (ordB_no1 hlt)
      generalize p.orders.getD j 0 = o at *
      by_cases ho : primeB o = true
      · go_wp2_with (go_at_call 131; refine (s_l01Prime _ _).mono ?_; rintro e w' ⟨rfl, rfl⟩)
        go_round
        case rel => exact ⟨j + 1, by omega, by go_num, by rw [HS.out, HP.out, ho]; rfl⟩
        case measure => simp [intOf]; omega
      · have ho' : primeB o = false := by simpa using ho
        clear ho
        go_wp2_with (go_at_call 131; refine (s_l01Prime _ _).mono ?_; rintro e w' ⟨rfl, rfl⟩)
        go_ret
        exact ⟨ret_bool (validB_ord (ordB_no2 (HN.out ho'))).symm, g0⟩
    · obtain rfl : j = p.orders.length := by omega
      have hpr : primesB p.orders = true := by have := HP.out; rwa [List.take_length] at this
      clear HP
      have HP := Lib.hid hpr
      clear hpr
      by_cases h729 : prodS p.orders ≤ 729
      case neg =>
        go_wp2_with (go_at_call 134; refine (s_l07Product _ _ _ r1 HP.out).mono ?_; rintro e w' ⟨rfl, rfl⟩)
        go_ret
        exact ⟨ret_bool (validB_ord (ordB_no4 (by omega))).symm, g0⟩
      have HO : Hid (ordB p.orders = true) := by show _ = _; simp [ordB, HP.out, h729]
      go_wp2_with (go_at_call 134; refine (s_l07Product _ _ _ r1 HP.out).mono ?_; rintro e w' ⟨rfl, rfl⟩)
      have r0 : ∀ k : Nat, RdP ((w.alloc (Obj.cells #[Value.slice ao1 p.orders.length cap1, Value.slice ao2 p.powers.length cap2, Value.slice ao3 p.conj.length cap3] 32)).drewN k) (Value.slice ao1 p.orders.length cap1) (Value.slice ao2 p.powers.length cap2) (Value.slice ao3 p.conj.length cap3) p := fun k => (hR.out.below g0).drewN
      have R0 := Lib.hid r0
      clear r0 h1 h2 h3 r1
      go_loopw [5] (fun i wr => ∃ j : Nat, j ≤ p.orders.length ∧ i = .int .i64 j ∧ (∀ t, t < j → rowB p t = true) ∧ ∃ n, wr = (w.alloc (Obj.cells #[Value.slice ao1 p.orders.length cap1, Value.slice ao2 p.powers.length cap2, Value.slice ao3 p.conj.length cap3] 32)).drewN n) (fun i _ => p.orders.length - (intOf i).toNat)
      case atStart => exact ⟨0, Nat.zero_le _, rfl, fun t ht => by omega, 0, rfl⟩
      case round =>
        obtain ⟨j, hj, rfl, hall, n, hn⟩ := hrel
        have HA := Lib.hid hall
        have HN := Lib.hid hn
        clear hall hn
        by_cases hlt : j < p.orders.length
        · have hr : RdP wr (Value.slice ao1 p.orders.length cap1) (Value.slice ao2 p.powers.length cap2) (Value.slice ao3 p.conj.length cap3) p := by rw [HN.out]; exact R0.out n
          have m0 : wr.cell? ⟨w.heap.size, 0, none⟩ = some (Value.slice ao1 p.orders.length cap1) := by rw [HN.out]; simp [go_sem]
          have m1 : wr.cell? ⟨w.heap.size, 1, none⟩ = some (Value.slice ao2 p.powers.length cap2) := by rw [HN.out]; simp [go_sem]
          have m2 : wr.cell? ⟨w.heap.size, 2, none⟩ = some (Value.slice ao3 p.conj.length cap3) := by rw [HN.out]; simp [go_sem]
          obtain ⟨h1, h2, h3⟩ := hr
          obtain ⟨b2, off2, x2, rfl, hc2, hx2⟩ := h2.at (show j < p.powers.length by rw [Q2.out]; exact hlt)
          obtain ⟨b3, off3, x3, rfl, hc3, hx3⟩ := h3.at (show j < p.conj.length by rw [Q3.out]; exact hlt)
          have hp2 : j < p.powers.length := by rw [Q2.out]; exact hlt
          have hp3 : j < p.conj.length := by rw [Q3.out]; exact hlt
          have W1 : IntKind.i64.wrap ((p.orders.length : Int) - 1) = (p.orders.length : Int) - 1 := IntWalk.i64_in _ (by omega)
          have W2 : IntKind.i64.wrap ((p.orders.length : Int) - 1 - j) = (p.orders.length : Int) - 1 - j := IntWalk.i64_in _ (by omega)
          obtain ⟨ao4, cap4, rfl, _, _⟩ := hx3.form
          have HC : Hid ((p.conj.getD j []).length = (p.conj.getD j []).length) := rfl
          have hR3 := Lib.hid hx3
          by_cases ht : tailB p.orders (p.P j) (j + 1) = true
          case neg =>
            have ht' : tailB p.orders (p.P j) (j + 1) = false := by simpa using ht
            clear ht
            have HF := Lib.hid (validB_row (show j < p.n from hlt) (rowB_pow ht'))
            go_wp2_with fail
            go_quiet ((go_at_call 135; exact Calls.quiet_of (s_l07Exponents _ _ p.orders (p.P j) (j + 1) _ _ (by omega) (by omega) (Rd.drewN h1) (Rd.drewN hx2) HP.out)))
            clear W1 W2
            go_wp2_with fail
            go_ret
            exact ⟨ret_bool HF.out.symm, by rw [HN.out]; exact below_drewN (below_drewN g0 _) _⟩
          have HT := Lib.hid ht
          clear ht
          have hq : ∀ wx : World, Rd wx (Value.slice ao1 p.orders.length cap1) p.orders → Rd wx x2 (p.powers.getD j []) → Calls Try.prog 135 #[Value.slice ao1 p.orders.length cap1, x2, .int .i64 j] wx (RetQuiet wx (.bool true)) := fun wx h h' => by
            have := s_l07Exponents _ _ p.orders (p.P j) (j + 1) j _ (by omega) (by omega) h h' HP.out
            rwa [HT.out] at this
          have HQ := Lib.hid hq
          clear hq
          by_cases hl : (p.conj.getD j []).length + 1 + j = p.n
          case neg =>
            have HF := Lib.hid (validB_row (show j < p.n from hlt) (rowB_len hl))
            have t4 : (((p.conj.getD j []).length : Int) == (p.orders.length : Int) - 1 - j) = false := by unfold Pres.n at hl; simp only [beq_eq_false_iff_ne, ne_eq]; omega
            have t4' : (((p.conj.getD j []).length : Int) != (p.orders.length : Int) - 1 - j) = true := by unfold Pres.n at hl; simp only [bne_iff_ne, ne_eq]; omega
            clear hl
            generalize p.conj.getD j [] = cj at *
            go_wp2_with fail
            go_quiet ((go_at_call 135; exact Calls.quiet_of (HQ.out _ (Rd.drewN h1) (Rd.drewN hx2))))
            clear W1 W2 t4 t4'
            go_wp2_with fail
            go_ret
            exact ⟨ret_bool HF.out.symm, by rw [HN.out]; exact below_drewN (below_drewN g0 _) _⟩
          have HL := Lib.hid hl
          have t4 : (((p.conj.getD j []).length : Int) == (p.orders.length : Int) - 1 - j) = true := by unfold Pres.n at hl; simp only [beq_iff_eq]; omega
          have t4' : (((p.conj.getD j []).length : Int) != (p.orders.length : Int) - 1 - j) = false := by unfold Pres.n at hl; simp only [bne_eq_false_iff_eq]; omega
          clear hl
          have HF : Hid (∀ k, k < (p.conj.getD j []).length → tailB p.orders ((p.conj.getD j []).getD k []) (j + 1) = false → validB p = false) := fun k hk h => validB_row (show j < p.n from hlt) (rowB_conj hk h)
          have HG : Hid ((∀ k, k < (p.conj.getD j []).length → tailB p.orders ((p.conj.getD j []).getD k []) (j + 1) = true) → rowB p j = true) := fun h => rowB_of HT.out HL.out h
          have Hc3 : Hid ((w.alloc (Obj.cells #[Value.slice ao1 p.orders.length cap1, Value.slice (some ⟨b2, off2, none⟩) p.powers.length cap2, Value.slice (some ⟨b3, off3, none⟩) p.conj.length cap3] 32)).cell? ⟨b3, off3 + j, none⟩ = some (.slice ao4 (p.conj.getD j []).length cap4)) := by
            have := hc3; rw [HN.out] at this; exact this
          have Hx3 : Hid (Rd2 (w.alloc (Obj.cells #[Value.slice ao1 p.orders.length cap1, Value.slice (some ⟨b2, off2, none⟩) p.powers.length cap2, Value.slice (some ⟨b3, off3, none⟩) p.conj.length cap3] 32)) (.slice ao4 (p.conj.getD j []).length cap4) (p.conj.getD j [])) := by
            have := hx3; rw [HN.out] at this; exact this
          generalize p.conj.getD j [] = cj at *
          go_wp2_with fail
          go_quiet ((go_at_call 135; exact Calls.quiet_of (HQ.out _ (Rd.drewN h1) (Rd.drewN hx2))))
          clear W1 W2 t4 t4' m1 hc2 hx2 HQ
          go_wp2_with fail
          have HN2 : Hid (wr.drewN nq = (w.alloc (Obj.cells #[Value.slice ao1 p.orders.length cap1, Value.slice (some ⟨b2, off2, none⟩) p.powers.length cap2, Value.slice (some ⟨b3, off3, none⟩) p.conj.length cap3] 32)).drewN (n + nq)) := by
            show _ = _; rw [HN.out]; simp [World.drewN, Nat.add_assoc]
          go_loopw [6] (fun i wr2 => ∃ k : Nat, k ≤ cj.length ∧ i = .int .i64 k ∧ (∀ t, t < k → tailB p.orders (cj.getD t []) (j + 1) = true) ∧ ∃ n, wr2 = (w.alloc (Obj.cells #[Value.slice ao1 p.orders.length cap1, Value.slice (some ⟨b2, off2, none⟩) p.powers.length cap2, Value.slice (some ⟨b3, off3, none⟩) p.conj.length cap3] 32)).drewN n) (fun i _ => cj.length - (intOf i).toNat)
          case atStart => exact ⟨0, Nat.zero_le _, rfl, fun t ht => by omega, _, HN2.out⟩
          case round =>
            obtain ⟨k, hk, rfl, hall, n2, hn2⟩ := hrel
            have HA2 := Lib.hid hall
            have HN3 := Lib.hid hn2
            clear hall hn2 m0 m2 h1 h2 h3 hx3 hc3
            have m0 : wr.cell? ⟨w.heap.size, 0, none⟩ = some (Value.slice ao1 p.orders.length cap1) := by rw [HN3.out]; simp [go_sem]
            have m2 : wr.cell? ⟨w.heap.size, 2, none⟩ = some (Value.slice (some ⟨b3, off3, none⟩) p.conj.length cap3) := by rw [HN3.out]; simp [go_sem]
            have hc3 : wr.cell? ⟨b3, off3 + j, none⟩ = some (.slice ao4 cj.length cap4) := by rw [HN3.out]; exact Hc3.out
            have hr : RdP wr (Value.slice ao1 p.orders.length cap1) (Value.slice (some ⟨b2, off2, none⟩) p.powers.length cap2) (Value.slice (some ⟨b3, off3, none⟩) p.conj.length cap3) p := by rw [HN3.out]; exact R0.out n2
            have hx3 : Rd2 wr (.slice ao4 cj.length cap4) cj := by rw [HN3.out]; exact Hx3.out
            by_cases hk2 : k < cj.length
            · obtain ⟨b4, off4, x4, rfl, hc4, hx4⟩ := hx3.at hk2
              clear hx3
              have HF2 := Lib.hid (HF.out k hk2)
              by_cases ht : tailB p.orders (cj.getD k []) (j + 1) = true
              · have hq : ∀ wx : World, Rd wx (Value.slice ao1 p.orders.length cap1) p.orders → Rd wx x4 (cj.getD k []) → Calls Try.prog 135 #[Value.slice ao1 p.orders.length cap1, x4, .int .i64 j] wx (RetQuiet wx (.bool true)) := fun wx h h' => by
                  have := s_l07Exponents _ _ p.orders _ (j + 1) j _ (by omega) (by omega) h h' HP.out
                  rwa [ht] at this
                have HQ := Lib.hid hq
                have HT2 := Lib.hid ht
                clear hq ht
                go_wp2_with fail
                go_quiet ((go_at_call 135; exact Calls.quiet_of (HQ.out _ (Rd.drewN hr.1) (Rd.drewN hx4))))
                go_wp2_with fail
                go_roundw
                case rel => exact ⟨k + 1, by omega, by go_num, fun t ht => by
                  by_cases h : t = k
                  · subst h; exact HT2.out
                  · exact HA2.out t (by omega), by rw [HN3.out]; exact drewN_drewN _ _ _⟩
                case measure => simp [intOf]; omega
              · have ht' : tailB p.orders (cj.getD k []) (j + 1) = false := by simpa using ht
                clear ht
                have hq : ∀ wx : World, Rd wx (Value.slice ao1 p.orders.length cap1) p.orders → Rd wx x4 (cj.getD k []) → Calls Try.prog 135 #[Value.slice ao1 p.orders.length cap1, x4, .int .i64 j] wx (RetQuiet wx (.bool false)) := fun wx h h' => by
                  have := s_l07Exponents _ _ p.orders _ (j + 1) j _ (by omega) (by omega) h h' HP.out
                  rwa [ht'] at this
                have HQ := Lib.hid hq
                have HT2 := Lib.hid ht'
                clear hq ht'
                go_wp2_with fail
                go_quiet ((go_at_call 135; exact Calls.quiet_of (HQ.out _ (Rd.drewN hr.1) (Rd.drewN hx4))))
                go_wp2_with fail
                go_ret
                exact ⟨ret_bool (HF2.out HT2.out).symm, by rw [HN3.out]; exact below_drewN (below_drewN g0 _) _⟩
            · obtain rfl : k = cj.length := by omega
              have HB := Lib.hid (HG.out HA2.out)
              go_wp2_with fail
              go_roundw
              case rel => exact ⟨j + 1, by omega, by go_num, fun t ht => by
                by_cases h : t = j
                · subst h; exact HB.out
                · exact HA.out t (by omega), n2, HN3.out⟩
              case measure => simp [intOf]; omega
        · obtain rfl : j = p.orders.length := by omega
          have HV : Hid (validB p = true) := validB_true.2 ⟨q1', Q2.out, Q3.out, HO.out, HA.out⟩
          go_wp2_with fail
          go_ret
          exact ⟨ret_bool HV.out.symm, by rw [HN.out]; exact below_drewN g0 _⟩
--== impl.IsPresentation
theorem i_IsPresentation_no (v1 v2 v3 : Value) (p : Pres) (w : World) (hv : RdP w v1 v2 v3 p) (hs : ¬ (p.n ≤ 6 ∧ p.powers.length = p.n ∧ p.conj.length = p.n)) :
    Calls Try.prog 92 #[.agg #[v1, v2, v3]] w (RetV w (.bool (validB p))) := by
  obtain ⟨h1, h2, h3⟩ := hv
  obtain ⟨ao1, cap1, rfl, _, _⟩ := h1.form
  obtain ⟨ao2, cap2, rfl, _, _⟩ := h2.form
  obtain ⟨ao3, cap3, rfl, _, _⟩ := h3.form
  have HV := Lib.hid (validB_size hs)
  have g0 := below_alloc w (Obj.cells #[Value.slice ao1 p.orders.length cap1, Value.slice ao2 p.powers.length cap2, Value.slice ao3 p.conj.length cap3] 32)
  unfold Pres.n at hs
  by_cases q1 : p.orders.length ≤ 6
  · by_cases q2 : p.powers.length = p.orders.length
    · have q3 : ¬ p.conj.length = p.orders.length := fun h => hs ⟨q1, q2, h⟩
      have t2 : ((p.powers.length : Int) == (p.orders.length : Int)) = true := by simp [q2]
      have t2' : ((p.powers.length : Int) != (p.orders.length : Int)) = false := by simp [q2]
      have t3 : ((p.conj.length : Int) == (p.orders.length : Int)) = false := by simp; omega
      have t3' : ((p.conj.length : Int) != (p.orders.length : Int)) = true := by simp; omega
      clear q2 q3 hs
      go_enter Try.func92, Try.ntmps92
      go_wp2
      go_ret
      exact ⟨ret_bool HV.out.symm, g0⟩
    · have t2 : ((p.powers.length : Int) == (p.orders.length : Int)) = false := by simp; omega
      have t2' : ((p.powers.length : Int) != (p.orders.length : Int)) = true := by simp; omega
      clear q2 hs
      go_enter Try.func92, Try.ntmps92
      go_wp2
      go_ret
      exact ⟨ret_bool HV.out.symm, g0⟩
  · clear hs
    go_enter Try.func92, Try.ntmps92
    go_wp2
    go_ret
    exact ⟨ret_bool HV.out.symm, g0⟩
set_option maxHeartbeats 4000000 in
theorem i_IsPresentation (v1 v2 v3 : Value) (p : Pres) (w : World) (hv : RdP w v1 v2 v3 p) :
    Calls Try.prog 92 #[.agg #[v1, v2, v3]] w (RetV w (.bool (validB p))) := by
  by_cases hs : p.n ≤ 6 ∧ p.powers.length = p.n ∧ p.conj.length = p.n
  case neg => exact i_IsPresentation_no v1 v2 v3 p w hv hs
  obtain ⟨q1, q2, q3⟩ := hs
  have hR := Lib.hid hv
  obtain ⟨h1, h2, h3⟩ := hv
  obtain ⟨ao1, cap1, rfl, _, _⟩ := h1.form
  obtain ⟨ao2, cap2, rfl, _, _⟩ := h2.form
  obtain ⟨ao3, cap3, rfl, _, _⟩ := h3.form
  have g0 := below_alloc w (Obj.cells #[Value.slice ao1 p.orders.length cap1, Value.slice ao2 p.powers.length cap2, Value.slice ao3 p.conj.length cap3] 32)
  have t2 : ((p.powers.length : Int) == (p.orders.length : Int)) = true := by have h : p.powers.length = p.orders.length := q2; simp [h]
  have t2' : ((p.powers.length : Int) != (p.orders.length : Int)) = false := by have h : p.powers.length = p.orders.length := q2; simp [h]
  have t3 : ((p.conj.length : Int) == (p.orders.length : Int)) = true := by have h : p.conj.length = p.orders.length := q3; simp [h]
  have t3' : ((p.conj.length : Int) != (p.orders.length : Int)) = false := by have h : p.conj.length = p.orders.length := q3; simp [h]
  have Q1 : Hid (p.orders.length = p.n) := rfl
  have Q2 := Lib.hid q2
  have Q3 := Lib.hid q3
  have q1' : p.orders.length ≤ 6 := q1
  clear q2 q3 q1
  go_enter Try.func92, Try.ntmps92
  go_wp2
  clear t2 t2' t3 t3'
  have r0 : RdP (w.alloc (Obj.cells #[Value.slice ao1 p.orders.length cap1, Value.slice ao2 p.powers.length cap2, Value.slice ao3 p.conj.length cap3] 32)) (Value.slice ao1 p.orders.length cap1) (Value.slice ao2 p.powers.length cap2) (Value.slice ao3 p.conj.length cap3) p := hR.out.below g0
  have PT : PtrP (w.alloc (Obj.cells #[Value.slice ao1 p.orders.length cap1, Value.slice ao2 p.powers.length cap2, Value.slice ao3 p.conj.length cap3] 32)) (.pointer (some ⟨w.heap.size, 0, none⟩)) p := ⟨_, _, _, _, rfl, by simp [go_sem], by simp [go_sem], by simp [go_sem], r0⟩
  have r1 := r0.1
  have r2 := r0.2.1
  have r3 := r0.2.2
  clear h1 h2 h3 r0
  go_loop [4, 32] (fun u i => ∃ j : Nat, j ≤ p.orders.length ∧ i = .int .i64 j ∧ u = .int .i64 (prodO (p.orders.take j)) ∧ primesB (p.orders.take j) = true ∧ prodO (p.orders.take j) ≤ 729) (fun _ i => p.orders.length - (intOf i).toNat)
  case atStart => exact ⟨0, Nat.zero_le _, rfl, rfl, rfl, by simp [prodO]⟩
  case round =>
    obtain ⟨j, hj, rfl, rfl, hpr, hle⟩ := hrel
    have hge := (prod_both _ hpr).1
    have HP := Lib.hid hpr
    clear hpr
    by_cases hlt : j < p.orders.length
    · obtain ⟨b, off, rfl, hcell⟩ := r1.at hlt
      have HS : Hid (primesB (p.orders.take (j + 1)) = (primesB (p.orders.take j) && primeB (p.orders.getD j 0))) := by show _ = _; rw [take_snoc p.orders j 0 hlt, primesB_snoc]
      have HT : Hid (prodO (p.orders.take (j + 1)) = prodO (p.orders.take j) * p.orders.getD j 0) := by show _ = _; rw [take_snoc p.orders j 0 hlt, prodO_snoc]
      have HN := Lib.hid (ordB_no1 hlt)
      have HM : Hid (729 < prodO (p.orders.take (j + 1)) → ordB p.orders = false) := fun h => ordB_no3 h
      generalize p.orders.getD j 0 = o at *
      generalize prodO (p.orders.take j) = u at *
      by_cases ho : primeB o = true
      · have hob := primeB_true.1 ho
        have hob' : 2 ≤ o ∧ o ≤ 7 := by omega
        have hm0 : 0 ≤ u * o := Int.mul_nonneg (by omega) (by omega)
        have hm1 : u * o ≤ 729 * 7 := Int.mul_le_mul hle hob'.2 (by omega) (by omega)
        have hm2 : u * o ≤ 5103 := by omega
        clear hob hm1
        by_cases h729 : u * o ≤ 729
        · go_wp2_with (go_at_call 82; refine (i_IsGroupPrime _ _).mono ?_; rintro e w' ⟨rfl, rfl⟩)
          go_round
          case rel => exact ⟨j + 1, by omega, by go_num, by rw [HT.out], by rw [HS.out, HP.out, ho]; rfl, by rw [HT.out]; exact h729⟩
          case measure => simp [intOf]; omega
        · go_wp2_with (go_at_call 82; refine (i_IsGroupPrime _ _).mono ?_; rintro e w' ⟨rfl, rfl⟩)
          go_ret
          exact ⟨ret_bool (validB_ord (HM.out (by rw [HT.out]; omega))).symm, g0⟩
      · have ho' : primeB o = false := by simpa using ho
        clear ho
        go_wp2_with (go_at_call 82; refine (i_IsGroupPrime _ _).mono ?_; rintro e w' ⟨rfl, rfl⟩)
        go_ret
        exact ⟨ret_bool (validB_ord (ordB_no2 (HN.out ho'))).symm, g0⟩
    · obtain rfl : j = p.orders.length := by omega
      have hpr : primesB p.orders = true := by have := HP.out; rwa [List.take_length] at this
      have HO : Hid (ordB p.orders = true) := ordB_of hpr (by simpa using hle)
      clear HP hle hge
      have HP := Lib.hid hpr
      clear hpr
      go_wp2_with fail
      go_loop [50] (fun i => ∃ j : Nat, j ≤ p.orders.length ∧ i = .int .i64 j ∧ (∀ t, t < j → rowB p t = true)) (fun i => p.orders.length - (intOf i).toNat)
      case atStart => exact ⟨0, Nat.zero_le _, rfl, fun t ht => by omega⟩
      case round =>
        obtain ⟨j, hj, rfl, hall⟩ := hrel
        have HA := Lib.hid hall
        clear hall
        by_cases hlt : j < p.orders.length
        · obtain ⟨b2, off2, x2, rfl, hc2, hx2⟩ := r2.at (show j < p.powers.length by rw [Q2.out]; exact hlt)
          obtain ⟨b3, off3, x3, rfl, hc3, hx3⟩ := r3.at (show j < p.conj.length by rw [Q3.out]; exact hlt)
          have hp2 : j < p.powers.length := by rw [Q2.out]; exact hlt
          have hp3 : j < p.conj.length := by rw [Q3.out]; exact hlt
          obtain ⟨ao4, cap4, rfl, _, _⟩ := hx3.form
          by_cases ht : tailB p.orders (p.P j) (j + 1) = true
          case neg =>
            have ht' : tailB p.orders (p.P j) (j + 1) = false := by simpa using ht
            clear ht
            have HF := Lib.hid (validB_row (show j < p.n from hlt) (rowB_pow ht'))
            go_wp2_with fail
            refine (i_tailVector _ _ p (p.P j) j _ PT hx2 HP.out hlt (by unfold Pres.n; omega)).mono ?_
            rintro e w' ⟨rfl, rfl⟩
            rw [ht']
            go_wp2_with fail
            go_ret
            exact ⟨ret_bool HF.out.symm, g0⟩
          have HT := Lib.hid ht
          clear ht
          by_cases hl : (p.conj.getD j []).length + 1 + j = p.n
          case neg =>
            have HF := Lib.hid (validB_row (show j < p.n from hlt) (rowB_len hl))
            have t4 : (((p.conj.getD j []).length : Int) == (p.orders.length : Int) - 1 - j) = false := by unfold Pres.n at hl; simp only [beq_eq_false_iff_ne, ne_eq]; omega
            have t4' : (((p.conj.getD j []).length : Int) != (p.orders.length : Int) - 1 - j) = true := by unfold Pres.n at hl; simp only [bne_iff_ne, ne_eq]; omega
            clear hl
            generalize p.conj.getD j [] = cj at *
            go_wp2_with fail
            refine (i_tailVector _ _ p (p.P j) j _ PT hx2 HP.out hlt (by unfold Pres.n; omega)).mono ?_
            rintro e w' ⟨rfl, rfl⟩
            rw [HT.out]
            go_wp2_with fail
            go_ret
            exact ⟨ret_bool HF.out.symm, g0⟩
          have HL := Lib.hid hl
          have t4 : (((p.conj.getD j []).length : Int) == (p.orders.length : Int) - 1 - j) = true := by unfold Pres.n at hl; simp only [beq_iff_eq]; omega
          have t4' : (((p.conj.getD j []).length : Int) != (p.orders.length : Int) - 1 - j) = false := by unfold Pres.n at hl; simp only [bne_eq_false_iff_eq]; omega
          clear hl
          have HF : Hid (∀ k, k < (p.conj.getD j []).length → tailB p.orders ((p.conj.getD j []).getD k []) (j + 1) = false → validB p = false) := fun k hk h => validB_row (show j < p.n from hlt) (rowB_conj hk h)
          have HG : Hid ((∀ k, k < (p.conj.getD j []).length → tailB p.orders ((p.conj.getD j []).getD k []) (j + 1) = true) → rowB p j = true) := fun h => rowB_of HT.out HL.out h
          generalize p.conj.getD j [] = cj at *
          go_wp2_with fail
          refine (i_tailVector _ _ p (p.P j) j _ PT hx2 HP.out hlt (by unfold Pres.n; omega)).mono ?_
          rintro e w' ⟨rfl, rfl⟩
          rw [HT.out]
          go_wp2_with fail
          clear t4 t4'
          go_loop [80] (fun i => ∃ k : Nat, k ≤ cj.length ∧ i = .int .i64 k ∧ (∀ t, t < k → tailB p.orders (cj.getD t []) (j + 1) = true)) (fun i => cj.length - (intOf i).toNat)
          case atStart => exact ⟨0, Nat.zero_le _, rfl, fun t ht => by omega⟩
          case round =>
            obtain ⟨k, hk, rfl, hall⟩ := hrel
            have HA2 := Lib.hid hall
            clear hall
            by_cases hk2 : k < cj.length
            · obtain ⟨b4, off4, x4, rfl, hc4, hx4⟩ := hx3.at hk2
              have HF2 := Lib.hid (HF.out k hk2)
              by_cases ht : tailB p.orders (cj.getD k []) (j + 1) = true
              · have HT2 := Lib.hid ht
                clear ht
                go_wp2_with fail
                refine (i_tailVector _ _ p _ j _ PT hx4 HP.out hlt (by unfold Pres.n; omega)).mono ?_
                rintro e w' ⟨rfl, rfl⟩
                rw [HT2.out]
                go_wp2_with fail
                go_round
                case rel => exact ⟨k + 1, by omega, by go_num, fun t ht => by
                  by_cases h : t = k
                  · subst h; exact HT2.out
                  · exact HA2.out t (by omega)⟩
                case measure => simp [intOf]; omega
              · have ht' : tailB p.orders (cj.getD k []) (j + 1) = false := by simpa using ht
                clear ht
                have HT2 := Lib.hid ht'
                clear ht'
                go_wp2_with fail
                refine (i_tailVector _ _ p _ j _ PT hx4 HP.out hlt (by unfold Pres.n; omega)).mono ?_
                rintro e w' ⟨rfl, rfl⟩
                rw [HT2.out]
                go_wp2_with fail
                go_ret
                exact ⟨ret_bool (HF2.out HT2.out).symm, g0⟩
            · obtain rfl : k = cj.length := by omega
              have HB := Lib.hid (HG.out HA2.out)
              go_wp2_with fail
              go_round
              case rel => exact ⟨j + 1, by omega, by go_num, fun t ht => by
                by_cases h : t = j
                · subst h; exact HB.out
                · exact HA.out t (by omega)⟩
              case measure => simp [intOf]; omega
        · obtain rfl : j = p.orders.length := by omega
          have HV : Hid (validB p = true) := validB_true.2 ⟨q1', Q2.out, Q3.out, HO.out, HA.out⟩
          go_wp2_with fail
          go_ret
          exact ⟨ret_bool HV.out.symm, g0⟩
end Go.Proofs.Ythnpndheaailjaa
