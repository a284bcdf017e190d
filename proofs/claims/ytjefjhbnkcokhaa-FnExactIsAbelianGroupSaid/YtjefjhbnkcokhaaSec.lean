/-
  SectionOf: the test of the tail, both sides.
-/
import Derived.Test.YtjefjhbnkcokhaaHek
import Derived.BigQuiet
namespace Go.Proofs.Ytjefjhbnkcokhaa
set_option linter.unusedVariables false
set_option linter.unusedSimpArgs false
set_option maxRecDepth 100000
open Go.RowKit

--== plain
def flR (p : Pres) (k : Nat) : Bool := (List.range (p.n - (k + 1))).all fun c => decide (p.C k (k + 1 + c) = unitL p.n (k + 1 + c))
def flK (p : Pres) (f k : Nat) : Bool := (decide (p.r k = p.r f) && zeroB (p.P k)) && flR p k
/-- the tail at f is normal and elementary abelian with one to three generators -/
def flB (p : Pres) (f : Nat) : Bool := (inB ((p.n : Int) - (f : Int)) 1 3 && ntB p f) && (List.range' f (p.n - f)).all fun k => flK p f k
theorem flR_no {p : Pres} {k c : Nat} (hc : c < p.n - (k + 1)) (h : decide (p.C k (k + 1 + c) = unitL p.n (k + 1 + c)) = false) : flR p k = false := by
  unfold flR
  exact List.all_eq_false.2 ⟨c, List.mem_range.2 hc, by rw [h]; exact Bool.false_ne_true⟩
theorem flR_yes {p : Pres} {k : Nat} (H : ∀ c, c < p.n - (k + 1) → decide (p.C k (k + 1 + c) = unitL p.n (k + 1 + c)) = true) : flR p k = true := by
  unfold flR
  exact List.all_eq_true.2 fun c hc => H c (List.mem_range.1 hc)
theorem flK_1 {p : Pres} {f k : Nat} (h : ¬ p.r k = p.r f) : flK p f k = false := by unfold flK; rw [decide_eq_false h]; rfl
theorem flK_2 {p : Pres} {f k : Nat} (h : zeroB (p.P k) = false) : flK p f k = false := by unfold flK; rw [h, Bool.and_false]; rfl
theorem flK_3 {p : Pres} {f k : Nat} (h : flR p k = false) : flK p f k = false := by unfold flK; rw [h, Bool.and_false]
theorem flK_4 {p : Pres} {f k : Nat} (h1 : p.r k = p.r f) (h2 : zeroB (p.P k) = true) (h3 : flR p k = true) : flK p f k = true := by unfold flK; rw [decide_eq_true h1, h2, h3]; rfl
theorem flB_1 {p : Pres} {f : Nat} (h : inB ((p.n : Int) - (f : Int)) 1 3 = false) : flB p f = false := by unfold flB; rw [h]; rfl
theorem flB_2 {p : Pres} {f : Nat} (h : ntB p f = false) : flB p f = false := by unfold flB; rw [h, Bool.and_false]; rfl
theorem flB_3 {p : Pres} {f k : Nat} (hf : f ≤ k) (hk : k < p.n) (h : flK p f k = false) : flB p f = false := by
  unfold flB
  rw [show ((List.range' f (p.n - f)).all fun k => flK p f k) = false from List.all_eq_false.2 ⟨k, List.mem_range'.2 ⟨k - f, by omega, by omega⟩, by rw [h]; exact Bool.false_ne_true⟩, Bool.and_false]
theorem flB_4 {p : Pres} {f : Nat} (h1 : inB ((p.n : Int) - (f : Int)) 1 3 = true) (h2 : ntB p f = true) (H : ∀ k, f ≤ k → k < p.n → flK p f k = true) : flB p f = true := by
  unfold flB
  rw [h1, h2, List.all_eq_true.2 fun k hk => by
    obtain ⟨j, hj, rfl⟩ := List.mem_range'.1 hk
    exact H _ (by omega) (by omega)]
  rfl
theorem flB_nt {p : Pres} {f : Nat} (h : flB p f = true) : ntB p f = true ∧ inB ((p.n : Int) - (f : Int)) 1 3 = true := by
  unfold flB at h
  simp only [Bool.and_eq_true] at h
  exact ⟨h.1.2, h.1.1⟩
--== impl.isSection
set_option maxHeartbeats 4000000 in
theorem i_isSection {p : Pres} (hV : ValidP p) (vp : Value) (f : Nat) (w : World) (hp : PtrP w vp p) (hf : f ≤ p.n) :
    Calls Try.prog 53 #[vp, .int .i64 f] w (RetV w (.bool (flB p f))) := by
  have hn6 := hV.n6
  have HP := Lib.hid hp
  obtain ⟨pb, v1, v2, v3, rfl, c1, c2, c3, R1, R2, R3⟩ := hp
  by_cases h1 : inB ((p.n : Int) - (f : Int)) 1 3 = true
  case neg =>
    have h1' : inB ((p.n : Int) - (f : Int)) 1 3 = false := by simpa using h1
    have HI := Lib.hid h1'
    have HX := Lib.hid (flB_1 h1')
    obtain ⟨a1, q1, rfl, _, _⟩ := R1.formN (n := p.n) rfl
    clear h1 h1' R1 R2 R3 c2 c3
    go_enter Try.func53, Try.ntmps53
    go_wp2_with fail
    refine (i_inside _ _ _ _).mono ?_
    rintro e w' ⟨rfl, rfl⟩
    rw [HI.out]
    go_wp2_with fail
    go_ret
    exact ⟨ret_bool HX.out.symm, Below.refl _ _⟩
  have hfn : f < p.n := by obtain ⟨z1, z2⟩ := inB_true.1 h1; omega
  have HI := Lib.hid h1
  by_cases h2 : ntB p f = true
  case neg =>
    have h2' : ntB p f = false := by simpa using h2
    have HN := Lib.hid h2'
    have HX := Lib.hid (flB_2 h2')
    obtain ⟨a1, q1, rfl, _, _⟩ := R1.formN (n := p.n) rfl
    clear h1 h2 h2' R1 R2 R3 c2 c3
    go_enter Try.func53, Try.ntmps53
    go_wp2_with fail
    refine (i_inside _ _ _ _).mono ?_
    rintro e w' ⟨rfl, rfl⟩
    rw [HI.out]
    go_wp2_with fail
    refine (i_normalTail hV _ f _ HP.out hf).mono ?_
    rintro e w' ⟨rfl, rfl⟩
    rw [HN.out]
    go_wp2_with fail
    go_ret
    exact ⟨ret_bool HX.out.symm, Below.refl _ _⟩
  have HN := Lib.hid h2
  obtain ⟨b1, o1, q1, rfl, k1⟩ := ord_at R1 (by omega)
  obtain ⟨b2, o2, q2, rfl, k2⟩ := pow_at hV R2 (by omega)
  obtain ⟨b3, o3, q3, rfl, _⟩ := conj_at hV R3 hfn
  have KC : Hid (∀ j, j < p.n → ∃ a z, w.cell? ⟨b3, o3 + j, none⟩ = some (.slice a (p.n - (j + 1)) z) ∧ ∀ k, j + 1 + k < p.n → ∃ b' o', a = some ⟨b', o', none⟩ ∧ ∃ a5 z5, w.cell? ⟨b', o' + k, none⟩ = some (.slice a5 p.n z5) ∧ Rd w (.slice a5 p.n z5) (p.C j (j + 1 + k))) := fun j hj => by
    obtain ⟨b', o', q', he, h⟩ := conj_at hV R3 hj
    cases he; exact h
  have K1 := Lib.hid k1
  have K2 := Lib.hid k2
  have C1 := Lib.hid c1
  have C2 := Lib.hid c2
  have C3 := Lib.hid c3
  clear k1 k2 c2 c3 R1 R2 R3 h1 h2
  go_enter Try.func53, Try.ntmps53
  go_wp2_with fail
  refine (i_inside _ _ _ _).mono ?_
  rintro e w' ⟨rfl, rfl⟩
  rw [HI.out]
  go_wp2_with fail
  refine (i_normalTail hV _ f _ HP.out hf).mono ?_
  rintro e w' ⟨rfl, rfl⟩
  rw [HN.out]
  clear c1
  go_wp2_with fail
  go_loopw [6] (fun t wr => ∃ k : Nat, f ≤ k ∧ k ≤ p.n ∧ t = .int .i64 k ∧ (∀ g, f ≤ g → g < k → flK p f g = true) ∧ Below w.heap.size w wr) (fun t _ => p.n - (intOf t).toNat)
  case atStart => exact ⟨f, Nat.le_refl _, hf, rfl, fun g h1 h2 => by omega, Below.refl _ _⟩
  case round =>
    obtain ⟨k, hfk, hkn, rfl, hall, hB⟩ := hrel
    have HA := Lib.hid hall
    clear hall
    by_cases hlt : k < p.n
    · have e1 := below_cells hB _ _ (K1.out k hlt)
      have e2 := below_cells hB _ _ (K1.out f hfn)
      obtain ⟨a5, z5, kp, RP⟩ := K2.out k hlt
      have e3 := below_cells hB _ _ kp
      have d0 := below_cells hB _ _ C1.out
      have d1 := below_cells hB _ _ C2.out
      have RP2 := Lib.hid (RP.below hB)
      have HB := Lib.hid hB
      have H1 : (k : Int) < (p.n : Int) := by omega
      have H2 : (f : Int) < (p.n : Int) := by omega
      clear hB kp RP
      by_cases ho : p.r k = p.r f
      · have b1 : (p.r k != p.r f) = false := by simpa using ho
        have HO := Lib.hid ho
        obtain ⟨zb, hzb⟩ : ∃ zb, zeroB (p.P k) = zb := ⟨_, rfl⟩
        have HZ : Hid (∀ wx v, Rd wx v (p.P k) → Calls Try.prog 91 #[v] wx fun e w' => e = .returned (.bool zb) ∧ wx = w') := fun wx v h => by
          rw [← hzb]; exact i_isZero v _ wx h
        have HZB := Lib.hid hzb
        generalize p.r k = rk at e1 b1
        generalize p.r f = rf at e2 b1
        clear hzb ho
        go_wp2_with fail
        go_quiet ((go_at_call 91; exact Calls.quiet_of (rq (HZ.out _ _ (Rd.drewN RP2.out)))))
        rename_i nq
        have hB2 := below_drewN HB.out nq
        clear HB RP2 HZ b1 e1 e2 e3 d0 d1
        generalize wr.drewN nq = w2 at *
        cases zb with
        | false =>
          have HX := Lib.hid (flB_3 hfk hlt (flK_2 HZB.out))
          go_wp2_with fail
          go_ret
          exact ⟨ret_bool HX.out.symm, hB2⟩
        | true =>
          obtain ⟨a4, z4, k4, kc4⟩ := KC.out k hlt
          have e4 := below_cells hB2 _ _ k4
          have d2 := below_cells hB2 _ _ C3.out
          have K4 := Lib.hid kc4
          clear k4 kc4
          go_wp2_with fail
          try rw [Bool.not_true]
          go_loopw [65] (fun t wr2 => ∃ c : Nat, c ≤ p.n - (k + 1) ∧ t = .int .i64 c ∧ (∀ g, g < c → decide (p.C k (k + 1 + g) = unitL p.n (k + 1 + g)) = true) ∧ Below w.heap.size w wr2) (fun t _ => (p.n - (k + 1)) - (intOf t).toNat)
          case atStart => exact ⟨0, Nat.zero_le _, rfl, fun g h => by omega, hB2⟩
          case round =>
            clear hB2 e4 d2
            obtain ⟨c, hc, rfl, hall, hB⟩ := hrel
            have HA2 := Lib.hid hall
            clear hall
            by_cases hcl : c < p.n - (k + 1)
            · obtain ⟨b4, o4, rfl, a6, z6, kx, RX⟩ := K4.out c (by omega)
              have e5 := below_cells hB _ _ kx
              have RX2 := Lib.hid (RX.below hB)
              obtain ⟨fb, hfb⟩ : ∃ fb, decide (p.C k (k + 1 + c) = unitL p.n (k + 1 + c)) = fb := ⟨_, rfl⟩
              have HFB := Lib.hid hfb
              have HU : Hid (∀ wx, Calls Try.prog 92 #[.int .i64 (p.n : Int), .int .i64 ((k : Int) + 1 + (c : Int))] wx (RetInts wx (unitL p.n (k + 1 + c)))) := fun wx => by
                have h := i_unitVector p.n (k + 1 + c) wx (by omega) (by omega)
                rwa [show ((k + 1 + c : Nat) : Int) = (k : Int) + 1 + (c : Int) by omega] at h
              have HB := Lib.hid hB
              clear hfb kx RX hB
              go_wp2_with fail
              refine (HU.out _).mono ?_
              rintro e w5 ⟨u5, rfl, hI5, hB5⟩
              have RX3 := Lib.hid (RX2.out.below hB5)
              have HI5 := Lib.hid hI5
              have HB5 := Lib.hid (below_size HB.out hB5)
              clear hI5 hB5 HB RX2 e5
              go_wp2_with fail
              refine (f_EqualV _ _ _ _ _ fb RX3.out HI5.out.rd HFB.out).mono ?_
              rintro e w6 ⟨rfl, hB6⟩
              have hB7 := below_size HB5.out hB6
              clear HB5 hB6
              cases fb with
              | false =>
                have HX := Lib.hid (flB_3 hfk hlt (flK_3 (flR_no hcl HFB.out)))
                go_wp2_with fail
                go_ret
                exact ⟨ret_bool HX.out.symm, hB7⟩
              | true =>
                have HA3 : Hid (∀ g, g < c + 1 → decide (p.C k (k + 1 + g) = unitL p.n (k + 1 + g)) = true) := fun g hg => by
                  by_cases h : g = c
                  · subst h; exact HFB.out
                  · exact HA2.out g (by omega)
                go_wp2_with fail
                go_roundw
                case rel => first | exact ⟨c + 1, by omega, by go_num, HA3.out, hB7⟩ | exact ⟨_, c + 1, by omega, by go_num, HA3.out, hB7⟩ | exact ⟨_, _, c + 1, by omega, by go_num, HA3.out, hB7⟩ | trace_state
                case measure => simp [intOf]; omega
            · obtain rfl : c = p.n - (k + 1) := by omega
              have HR := Lib.hid (flR_yes HA2.out)
              go_wp2_with fail
              go_roundw
              case rel => exact ⟨k + 1, by omega, by omega, by go_num, fun g h1 h2 => by
                by_cases h : g = k
                · subst h; exact flK_4 HO.out HZB.out HR.out
                · exact HA.out g h1 (by omega), hB⟩
              case measure => simp [intOf]; omega
      · have b1 : (p.r k != p.r f) = true := by simpa using ho
        have HX := Lib.hid (flB_3 hfk hlt (flK_1 ho))
        generalize p.r k = rk at e1 b1
        generalize p.r f = rf at e2 b1
        clear ho
        go_wp2_with fail
        go_quiet (fail)
        rename_i nq
        have hB2 := below_drewN HB.out nq
        go_wp2_with fail
        go_ret
        exact ⟨ret_bool HX.out.symm, hB2⟩
    · obtain rfl : k = p.n := by omega
      have HX := Lib.hid (flB_4 HI.out HN.out HA.out)
      go_wp2_with fail
      go_ret
      exact ⟨ret_bool HX.out.symm, hB⟩
end Go.Proofs.Ytjefjhbnkcokhaa
