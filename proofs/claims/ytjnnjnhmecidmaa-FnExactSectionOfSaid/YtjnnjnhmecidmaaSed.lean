/-
  SectionOf: the reference's test of the tail.
-/
import Derived.Test.YtjnnjnhmecidmaaSec
namespace Go.Proofs.Ytjnnjnhmecidmaa
set_option linter.unusedVariables false
set_option linter.unusedSimpArgs false
set_option maxRecDepth 100000
open Go.RowKit

--== spec.l24Flat
set_option maxHeartbeats 4000000 in
theorem s_l24Flat {p : Pres} (hV : ValidP p) (v1 v2 v3 : Value) (f : Nat) (w : World) (hp : RdP w v1 v2 v3 p) (hf : f ≤ p.n) :
    Calls Try.prog 98 #[.agg #[v1, v2, v3], .int .i64 f] w (RetV w (.bool (flB p f))) := by
  have hn6 := hV.n6
  have HP := Lib.hid hp
  obtain ⟨R1, R2, R3⟩ := hp
  by_cases h1 : inB ((p.n : Int) - (f : Int)) 1 3 = true
  case neg =>
    have h1' : inB ((p.n : Int) - (f : Int)) 1 3 = false := by simpa using h1
    have HI := Lib.hid h1'
    have HX := Lib.hid (flB_1 h1')
    obtain ⟨a1, q1, rfl, _, _⟩ := R1.formN (n := p.n) rfl
    obtain ⟨a2, q2, rfl, _, _⟩ := R2.form
    obtain ⟨a3, q3, rfl, _, _⟩ := R3.form
    have G0 := Lib.hid (below_alloc w (Obj.cells #[Value.slice a1 p.n q1, Value.slice a2 p.powers.length q2, Value.slice a3 p.conj.length q3] 28))
    clear h1 h1' R1 R2 R3
    go_enter Try.func98, Try.ntmps98
    go_wp2_with fail
    refine (s_l01In _ _ _ _).mono ?_
    rintro e w' ⟨rfl, rfl⟩
    rw [HI.out]
    go_wp2_with fail
    go_ret
    exact ⟨ret_bool HX.out.symm, G0.out⟩
  have hfn : f < p.n := by obtain ⟨z1, z2⟩ := inB_true.1 h1; omega
  have HI := Lib.hid h1
  by_cases h2 : ntB p f = true
  case neg =>
    have h2' : ntB p f = false := by simpa using h2
    have HN := Lib.hid h2'
    have HX := Lib.hid (flB_2 h2')
    obtain ⟨a1, q1, rfl, _, _⟩ := R1.formN (n := p.n) rfl
    obtain ⟨a2, q2, rfl, _, _⟩ := R2.form
    obtain ⟨a3, q3, rfl, _, _⟩ := R3.form
    have G0 := Lib.hid (below_alloc w (Obj.cells #[Value.slice a1 p.n q1, Value.slice a2 p.powers.length q2, Value.slice a3 p.conj.length q3] 28))
    clear h1 h2 h2' R1 R2 R3
    go_enter Try.func98, Try.ntmps98
    go_wp2_with fail
    refine (s_l01In _ _ _ _).mono ?_
    rintro e w' ⟨rfl, rfl⟩
    rw [HI.out]
    go_wp2_with fail
    refine (s_l08Normal hV _ _ _ f _ (HP.out.below G0.out) hf).mono ?_
    rintro e w1 ⟨rfl, hb⟩
    have g1 := below_size G0.out hb
    rw [HN.out]
    clear hb
    go_wp2_with fail
    go_ret
    exact ⟨ret_bool HX.out.symm, g1⟩
  have HN := Lib.hid h2
  obtain ⟨b1, o1, q1, rfl, k1⟩ := ord_at R1 (by omega)
  obtain ⟨b2, o2, q2, rfl, k2⟩ := pow_at hV R2 (by omega)
  obtain ⟨b3, o3, q3, rfl, _⟩ := conj_at hV R3 hfn
  have KC : Hid (∀ j, j < p.n → ∃ a z, w.cell? ⟨b3, o3 + j, none⟩ = some (.slice a (p.n - (j + 1)) z) ∧ ∀ k, j + 1 + k < p.n → ∃ b' o', a = some ⟨b', o', none⟩ ∧ ∃ a5 z5, w.cell? ⟨b', o' + k, none⟩ = some (.slice a5 p.n z5) ∧ Rd w (.slice a5 p.n z5) (p.C j (j + 1 + k))) := fun j hj => by
    obtain ⟨b', o', q', he, h⟩ := conj_at hV R3 hj
    cases he; exact h
  have K1 := Lib.hid k1
  have K2 := Lib.hid k2
  have G0 := Lib.hid (below_alloc w (Obj.cells #[Value.slice (some ⟨b1, o1, none⟩) p.n q1, Value.slice (some ⟨b2, o2, none⟩) p.n q2, Value.slice (some ⟨b3, o3, none⟩) p.n q3] 28))
  have X0 := Lib.hid (Bx.new w (Value.slice (some ⟨b1, o1, none⟩) p.n q1) (Value.slice (some ⟨b2, o2, none⟩) p.n q2) (Value.slice (some ⟨b3, o3, none⟩) p.n q3))
  clear k1 k2 R1 R2 R3 h1 h2
  go_enter Try.func98, Try.ntmps98
  go_wp2_with fail
  refine (s_l01In _ _ _ _).mono ?_
  rintro e w' ⟨rfl, rfl⟩
  rw [HI.out]
  go_wp2_with fail
  refine (s_l08Normal hV _ _ _ f _ (HP.out.below G0.out) hf).mono ?_
  rintro e w1 ⟨rfl, hb⟩
  have g1 := below_size G0.out hb
  have x1 := X0.out.below hb X0.out.lt
  rw [HN.out]
  clear hb
  go_wp2_with fail
  go_loopw [6] (fun t wr => ∃ k : Nat, f ≤ k ∧ k ≤ p.n ∧ t = .int .i64 k ∧ (∀ g, f ≤ g → g < k → flK p f g = true) ∧ Bx wr w.heap.size (Value.slice (some ⟨b1, o1, none⟩) p.n q1) (Value.slice (some ⟨b2, o2, none⟩) p.n q2) (Value.slice (some ⟨b3, o3, none⟩) p.n q3) ∧ Below w.heap.size w wr) (fun t _ => p.n - (intOf t).toNat)
  case atStart => exact ⟨f, Nat.le_refl _, hf, rfl, fun g h1 h2 => by omega, x1, g1⟩
  case round =>
    clear x1 g1
    obtain ⟨k, hfk, hkn, rfl, hall, hX, hB⟩ := hrel
    have HA := Lib.hid hall
    clear hall
    by_cases hlt : k < p.n
    · have e1 := below_cells hB _ _ (K1.out k hlt)
      have e2 := below_cells hB _ _ (K1.out f hfn)
      obtain ⟨a5, z5, kp, RP⟩ := K2.out k hlt
      have e3 := below_cells hB _ _ kp
      have d0 := hX.c0
      have d1 := hX.c1
      have RP2 := Lib.hid (RP.below hB)
      have HB := Lib.hid hB
      have HXX := Lib.hid hX
      have H1 : (k : Int) < (p.n : Int) := by omega
      have H2 : (f : Int) < (p.n : Int) := by omega
      clear hB kp RP hX
      by_cases ho : p.r k = p.r f
      · have hbb : (p.r k != p.r f) = false := by simpa using ho
        have HO := Lib.hid ho
        obtain ⟨zb, hzb⟩ : ∃ zb, zeroB (p.P k) = zb := ⟨_, rfl⟩
        have HZ : Hid (∀ wx v, Rd wx v (p.P k) → Calls Try.prog 160 #[v] wx fun e w' => e = .returned (.bool zb) ∧ wx = w') := fun wx v h => by
          rw [← hzb]; exact s_l01Zero v _ wx h
        have HZB := Lib.hid hzb
        generalize p.r k = rk at e1 hbb
        generalize p.r f = rf at e2 hbb
        clear hzb ho
        go_wp2_with fail
        go_quiet ((go_at_call 160; exact Calls.quiet_of (rq (HZ.out _ _ (Rd.drewN RP2.out)))))
        rename_i nq
        have hB2 := below_drewN HB.out nq
        have hX2 : Bx (wr.drewN nq) w.heap.size (Value.slice (some ⟨b1, o1, none⟩) p.n q1) (Value.slice (some ⟨b2, o2, none⟩) p.n q2) (Value.slice (some ⟨b3, o3, none⟩) p.n q3) := HXX.out
        clear HB RP2 HZ hbb e1 e2 e3 d0 d1 HXX
        generalize wr.drewN nq = w2 at *
        cases zb with
        | false =>
          have HX := Lib.hid (flB_3 hfk hlt (flK_2 HZB.out))
          go_wp2_with fail
          go_ret
          exact ⟨ret_bool HX.out.symm, hB2⟩
        | true =>
          go_wp2_with fail
          try rw [Bool.not_true]
          go_loopw [7] (fun t wr2 => ∃ c : Nat, c ≤ p.n - (k + 1) ∧ t = .int .i64 ((k : Int) + 1 + (c : Int)) ∧ (∀ g, g < c → decide (p.C k (k + 1 + g) = unitL p.n (k + 1 + g)) = true) ∧ Bx wr2 w.heap.size (Value.slice (some ⟨b1, o1, none⟩) p.n q1) (Value.slice (some ⟨b2, o2, none⟩) p.n q2) (Value.slice (some ⟨b3, o3, none⟩) p.n q3) ∧ Below w.heap.size w wr2) (fun t _ => p.n - (intOf t).toNat)
          case atStart => exact ⟨0, Nat.zero_le _, by simp, fun g h => by omega, hX2, hB2⟩
          case round =>
            clear hB2 hX2
            obtain ⟨c, hc, rfl, hall, hX, hB⟩ := hrel
            have HA2 := Lib.hid hall
            clear hall
            by_cases hcl : c < p.n - (k + 1)
            · obtain ⟨a4, z4, k4, kc4⟩ := KC.out k hlt
              obtain ⟨b4, o4, rfl, a6, z6, kx, RX⟩ := kc4 c (by omega)
              have e4 := below_cells hB _ _ k4
              have e5 := below_cells hB _ _ kx
              have d2 := hX.c2
              have RX2 := Lib.hid (RX.below hB)
              obtain ⟨fb, hfb⟩ : ∃ fb, decide (p.C k (k + 1 + c) = unitL p.n (k + 1 + c)) = fb := ⟨_, rfl⟩
              have HFB := Lib.hid hfb
              have hcn : (p.C k (k + 1 + c)).length = p.n := (hV.valid.cj k (k + 1 + c) (by omega) (by omega)).len
              have HU : Hid (∀ wx, Calls Try.prog 161 #[.int .i64 (p.n : Int), .int .i64 ((k : Int) + 1 + (c : Int))] wx (RetInts wx (unitL p.n (k + 1 + c)))) := fun wx => by
                have h := s_l07Unit p.n (k + 1 + c) wx (by omega) (by omega)
                rwa [show ((k + 1 + c : Nat) : Int) = (k : Int) + 1 + (c : Int) by omega] at h
              have HSAME : Hid (∀ wx u v, Rd wx u (p.C k (k + 1 + c)) → Rd wx v (unitL p.n (k + 1 + c)) → Calls Try.prog 110 #[u, v] wx (RetV wx (.bool fb))) := fun wx u v h1 h2 => by
                refine (s_l01Same u v _ _ wx h1 h2 (by rw [hcn]; simp [unitL])).mono fun e w' h => ?_
                rw [← hfb]; exact h.below
              have HB := Lib.hid hB
              have HXX := Lib.hid hX
              have W1 : IntKind.i64.wrap ((k : Int) + 1 + (c : Int) - (k : Int)) = (c : Int) + 1 := by rw [IntWalk.i64_in _ (by omega)]; omega
              have W2 : IntKind.i64.wrap ((c : Int) + 1 - 1) = (c : Int) := by rw [IntWalk.i64_in _ (by omega)]; omega
              have W3 : IntKind.i64.wrap (c : Int) = (c : Int) := IntWalk.i64_in _ (by omega)
              have W4 : IntKind.i64.wrap (p.n : Int) = (p.n : Int) := IntWalk.i64_in _ (by omega)
              have W5 : IntKind.i64.wrap ((k : Int) + 1 + (c : Int)) = (k : Int) + 1 + (c : Int) := IntWalk.i64_in _ (by omega)
              have H3 : (c : Int) < ((p.n - (k + 1) : Nat) : Int) := by omega
              have hD : decide ((k : Int) + 1 + (c : Int) < (p.n : Int)) = true := by simp; omega
              have KEEP : Hid (∀ wx, Below wr.heap.size wr wx → Below wr.heap.size wr wx ∧ wx.cell? ⟨w.heap.size, 2, none⟩ = some (Value.slice (some ⟨b3, o3, none⟩) p.n q3) ∧ wx.cell? ⟨b3, o3 + k, none⟩ = some (.slice (some ⟨b4, o4, none⟩) (p.n - (k + 1)) z4) ∧ wx.cell? ⟨b4, o4 + c, none⟩ = some (.slice a6 p.n z6)) := fun wx hb =>
                ⟨hb, below_cells hb _ _ d2, below_cells hb _ _ e4, below_cells hb _ _ e5⟩
              clear hfb kx RX hB hX k4 kc4 d2 e4 e5 hcn
              go_wp2_with fail
              go_region_held3 (fun wx => Below wr.heap.size wr wx ∧ wx.cell? ⟨w.heap.size, 2, none⟩ = some (Value.slice (some ⟨b3, o3, none⟩) p.n q3) ∧ wx.cell? ⟨b3, o3 + k, none⟩ = some (.slice (some ⟨b4, o4, none⟩) (p.n - (k + 1)) z4) ∧ wx.cell? ⟨b4, o4 + c, none⟩ = some (.slice a6 p.n z6))
                (first | exact KEEP.out _ (Below.refl _ _).drew | exact KEEP.out _ (below_size (And.left (by assumption)) (by assumption)))
                (first
                  | ((go_at_call 161); (with_reducible refine (HU.out _).mono ?_); (rintro e w5 ⟨u5, rfl, hI5, hB5⟩))
                  | ((go_at_call 110); (with_reducible refine (HSAME.out _ _ _ (RX2.out.below (And.left (by assumption))) hI5.rd).mono ?_); (rintro e w6 ⟨rfl, hB6⟩)))
              have hB7 : Below wr.heap.size wr w6 := And.left (by assumption)
              have hX7 := HXX.out.below hB7 HXX.out.lt
              have hB8 := below_size HB.out hB7
              clear hI5 hB5 hB6 KEEP HU HSAME HB HXX RX2 hB7 W1 W2 W3 W4 W5 H3 hD
              cases fb with
              | false =>
                have HX := Lib.hid (flB_3 hfk hlt (flK_3 (flR_no hcl HFB.out)))
                go_wp2_with fail
                go_ret
                exact ⟨ret_bool HX.out.symm, hB8⟩
              | true =>
                have HA3 : Hid (∀ g, g < c + 1 → decide (p.C k (k + 1 + g) = unitL p.n (k + 1 + g)) = true) := fun g hg => by
                  by_cases h : g = c
                  · subst h; exact HFB.out
                  · exact HA2.out g (by omega)
                have HV : Hid (Value.int .i64 ((k : Int) + 1 + (c : Int) + 1) = Value.int .i64 ((k : Int) + 1 + ((c + 1 : Nat) : Int))) := by show _ = _; rw [show (k : Int) + 1 + (c : Int) + 1 = (k : Int) + 1 + ((c + 1 : Nat) : Int) by omega]
                go_wp2_with fail
                go_roundw
                case rel => exact ⟨c + 1, by omega, HV.out, HA3.out, hX7, hB8⟩
                case measure => simp [intOf]; omega
            · obtain rfl : c = p.n - (k + 1) := by omega
              have HR := Lib.hid (flR_yes HA2.out)
              have hD : decide ((k : Int) + 1 + ((p.n - (k + 1) : Nat) : Int) < (p.n : Int)) = false := by simp; omega
              go_wp2_with fail
              clear hD
              go_roundw
              case rel => exact ⟨k + 1, by omega, by omega, by go_num, fun g h1 h2 => by
                by_cases h : g = k
                · subst h; exact flK_4 HO.out HZB.out HR.out
                · exact HA.out g h1 (by omega), hX, hB⟩
              case measure => simp [intOf]; omega
      · have hbb : (p.r k != p.r f) = true := by simpa using ho
        have HX := Lib.hid (flB_3 hfk hlt (flK_1 ho))
        generalize p.r k = rk at e1 hbb
        generalize p.r f = rf at e2 hbb
        clear ho
        go_wp2_with fail
        go_quiet (fail)
        rename_i nq
        have hB2 := below_drewN HB.out nq
        go_wp2_with fail
        go_ret
        exact ⟨ret_bool HX.out.symm, hB2⟩
    · obtain rfl : k = p.n := by omega
      have HX := Lib.hid (flB_4 HI.out HN.out HA.out)
      go_wp2_with fail
      go_ret
      exact ⟨ret_bool HX.out.symm, hB⟩
end Go.Proofs.Ytjnnjnhmecidmaa
