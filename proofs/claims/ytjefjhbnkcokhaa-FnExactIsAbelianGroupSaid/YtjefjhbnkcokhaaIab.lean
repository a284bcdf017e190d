/-
  IsAbelianGroup: the program's side.
-/
import Derived.Test.YtjefjhbnkcokhaaSec
namespace Go.Proofs.Ytjefjhbnkcokhaa
set_option linter.unusedVariables false
set_option linter.unusedSimpArgs false
set_option maxRecDepth 100000
open Go.RowKit

--== plain
def abB (p : Pres) : Bool := (List.range p.n).all fun k => flR p k
theorem abB_no {p : Pres} {k : Nat} (hk : k < p.n) (h : flR p k = false) : abB p = false := by
  unfold abB
  exact List.all_eq_false.2 ⟨k, List.mem_range.2 hk, by rw [h]; exact Bool.false_ne_true⟩
theorem abB_yes {p : Pres} (H : ∀ k, k < p.n → flR p k = true) : abB p = true := by
  unfold abB
  exact List.all_eq_true.2 fun k hk => H k (List.mem_range.1 hk)
theorem abB_iff {p : Pres} : abB p = true ↔ ∀ i j, i < j → j < p.n → p.C i j = unitL p.n j := by
  constructor
  · intro h i j hij hj
    have h1 := List.all_eq_true.1 h i (List.mem_range.2 (by omega))
    have h2 := List.all_eq_true.1 h1 (j - (i + 1)) (List.mem_range.2 (by omega))
    have h3 := of_decide_eq_true h2
    rw [show i + 1 + (j - (i + 1)) = j by omega] at h3
    exact h3
  · intro H
    exact abB_yes fun k hk => flR_yes fun c hc => decide_eq_true (H _ _ (by omega) (by omega))
--== impl.isAbelian
set_option maxHeartbeats 4000000 in
theorem i_isAbelian {p : Pres} (hV : ValidP p) (vp : Value) (w : World) (hp : PtrP w vp p) :
    Calls Try.prog 63 #[vp] w (RetV w (.bool (abB p))) := by
  have hn6 := hV.n6
  obtain ⟨pb, v1, v2, v3, rfl, c1, c2, c3, R1, R2, R3⟩ := hp
  obtain ⟨a1, q1, rfl, _, _⟩ := R1.formN (n := p.n) rfl
  obtain ⟨a3, q3, rfl, _, _⟩ := R3.formN hV.cl
  have C1 := Lib.hid c1
  have C3 := Lib.hid c3
  have HR3 := Lib.hid R3
  clear c2 c3 R1 R2 R3
  go_enter Try.func63, Try.ntmps63
  go_wp2_with fail
  clear c1
  go_loopw [11] (fun t wr => ∃ k : Nat, k ≤ p.n ∧ t = .int .i64 k ∧ (∀ g, g < k → flR p g = true) ∧ Below w.heap.size w wr) (fun t _ => p.n - (intOf t).toNat)
  case atStart => exact ⟨0, Nat.zero_le _, rfl, fun g h => by omega, Below.refl _ _⟩
  case round =>
    obtain ⟨k, hkn, rfl, hall, hB⟩ := hrel
    have HA := Lib.hid hall
    clear hall
    by_cases hlt : k < p.n
    · obtain ⟨b3, o3, q3', he3, a4, z4, k4, kc4⟩ := conj_at hV HR3.out hlt
      cases he3
      have e4 := below_cells hB _ _ k4
      have d2 := below_cells hB _ _ C3.out
      have K4 := Lib.hid kc4
      have hkn' : (k : Int) < (p.n : Int) := by omega
      clear k4 kc4
      go_wp2_with fail
      go_loopw [22] (fun t wr2 => ∃ c : Nat, c ≤ p.n - (k + 1) ∧ t = .int .i64 c ∧ (∀ g, g < c → decide (p.C k (k + 1 + g) = unitL p.n (k + 1 + g)) = true) ∧ Below w.heap.size w wr2) (fun t _ => (p.n - (k + 1)) - (intOf t).toNat)
      case atStart => exact ⟨0, Nat.zero_le _, rfl, fun g h => by omega, hB⟩
      case round =>
        clear hB e4 d2
        obtain ⟨c, hc, rfl, hall, hB⟩ := hrel
        have HA2 := Lib.hid hall
        clear hall
        by_cases hcl : c < p.n - (k + 1)
        · obtain ⟨b4, o4, rfl, a6, z6, kx, RX⟩ := K4.out c (by omega)
          have e5 := below_cells hB _ _ kx
          have RX2 := Lib.hid (RX.below hB)
          obtain ⟨fb, hfb⟩ : ∃ fb, decide (p.C k (k + 1 + c) = unitL p.n (k + 1 + c)) = fb := ⟨_, rfl⟩
          have HFB := Lib.hid hfb
          have HU : Hid (∀ wx, Calls Try.prog 92 #[.int .i64 (p.n : Int), .int .i64 ((k : Int) + 1 + (c : Int))] wx (RetInts wx (unitL p.n (k + 1 + c)))) := fun wx => by
            have h := i_unitVector p.n (k + 1 + c) wx (by omega) (by omega)
            rwa [show ((k + 1 + c : Nat) : Int) = (k : Int) + 1 + (c : Int) by omega] at h
          have HB := Lib.hid hB
          clear hfb kx RX hB
          go_wp2_with fail
          refine (HU.out _).mono ?_
          rintro e w5 ⟨u5, rfl, hI5, hB5⟩
          have RX3 := Lib.hid (RX2.out.below hB5)
          have HI5 := Lib.hid hI5
          have HB5 := Lib.hid (below_size HB.out hB5)
          clear hI5 hB5 HB RX2 e5
          go_wp2_with fail
          refine (f_EqualV _ _ _ _ _ fb RX3.out HI5.out.rd HFB.out).mono ?_
          rintro e w6 ⟨rfl, hB6⟩
          have hB7 := below_size HB5.out hB6
          clear HB5 hB6
          cases fb with
          | false =>
            have HX := Lib.hid (abB_no hlt (flR_no hcl HFB.out))
            go_wp2_with fail
            go_ret
            exact ⟨ret_bool HX.out.symm, hB7⟩
          | true =>
            have HA3 : Hid (∀ g, g < c + 1 → decide (p.C k (k + 1 + g) = unitL p.n (k + 1 + g)) = true) := fun g hg => by
              by_cases h : g = c
              · subst h; exact HFB.out
              · exact HA2.out g (by omega)
            go_wp2_with fail
            go_roundw
            case rel => exact ⟨c + 1, by omega, by go_num, HA3.out, hB7⟩
            case measure => simp [intOf]; omega
        · obtain rfl : c = p.n - (k + 1) := by omega
          have HR := Lib.hid (flR_yes HA2.out)
          go_wp2_with fail
          go_roundw
          case rel => exact ⟨k + 1, by omega, by go_num, fun g h2 => by
            by_cases h : g = k
            · subst h; exact HR.out
            · exact HA.out g (by omega), hB⟩
          case measure => simp [intOf]; omega
    · obtain rfl : k = p.n := by omega
      have HX := Lib.hid (abB_yes HA.out)
      go_wp2_with fail
      go_ret
      exact ⟨ret_bool HX.out.symm, hB⟩
--== impl.IsAbelianGroup
def iaK (p : Pres) : Int := if conB p = true then 0 else 1
def iaR (p : Pres) : Bool := conB p && abB p
set_option maxHeartbeats 4000000 in
theorem i_IsAbelianGroup (v1 v2 v3 : Value) (p : Pres) (w : World) (hp : RdP w v1 v2 v3 p) :
    Calls Try.prog 23 #[.agg #[v1, v2, v3]] w (RetV w (.tuple #[.bool (iaR p), .int .i64 (iaK p)])) := by
  have HP := Lib.hid hp
  obtain ⟨ao1, cap1, rfl, _, _⟩ := hp.1.form
  obtain ⟨ao2, cap2, rfl, _, _⟩ := hp.2.1.form
  obtain ⟨ao3, cap3, rfl, _, _⟩ := hp.2.2.form
  have g0 := below_alloc w (Obj.cells #[Value.slice ao1 p.orders.length cap1, Value.slice ao2 p.powers.length cap2, Value.slice ao3 p.conj.length cap3] 28)
  have b0 := Bx.new w (Value.slice ao1 p.orders.length cap1) (Value.slice ao2 p.powers.length cap2) (Value.slice ao3 p.conj.length cap3)
  clear hp
  by_cases hc : conB p = true
  case neg =>
    have hc' : conB p = false := by simpa using hc
    have HX : Hid (iaR p = false ∧ iaK p = 1) := ⟨by unfold iaR; rw [hc']; rfl, if_neg hc⟩
    clear hc
    go_enter Try.func23, Try.ntmps23
    go_wp2_with fail
    refine (i_IsConsistent _ _ _ p _ (HP.out.below g0)).mono ?_
    rintro e w1 ⟨rfl, hb⟩
    have g1 := below_size g0 hb
    rw [hc']
    clear hb
    go_wp2_with fail
    go_ret2
    exact ⟨ret_bi HX.out.1.symm HX.out.2.symm, g1⟩
  have hV := (conB_true hc).1
  have HX : Hid (iaR p = abB p ∧ iaK p = 0) := ⟨by unfold iaR; rw [hc]; rfl, if_pos hc⟩
  go_enter Try.func23, Try.ntmps23
  go_wp2_with fail
  refine (i_IsConsistent _ _ _ p _ (HP.out.below g0)).mono ?_
  rintro e w1 ⟨rfl, hb⟩
  have g1 := below_size g0 hb
  have b1 := b0.below hb b0.lt
  rw [hc]
  clear hb b0
  go_wp2_with fail
  refine (i_isAbelian hV _ _ (b1.ptr (HP.out.below g1))).mono ?_
  rintro e w2 ⟨rfl, hb⟩
  have g2 := below_size g1 hb
  go_wp2_with fail
  go_ret2
  exact ⟨ret_bi HX.out.1.symm HX.out.2.symm, g2⟩
end Go.Proofs.Ytjefjhbnkcokhaa
