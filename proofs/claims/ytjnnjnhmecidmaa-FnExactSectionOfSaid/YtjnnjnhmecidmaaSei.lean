/-
  SectionOf: the program's sectionOf.
-/
import Derived.Test.YtjnnjnhmecidmaaSeg
namespace Go.Proofs.Ytjnnjnhmecidmaa
set_option linter.unusedVariables false
set_option linter.unusedSimpArgs false
set_option maxRecDepth 100000
open Go.RowKit

theorem Bt.set0 {T : TypeId} {w : World} {b : Nat} {v1 v2 v3 : Value} (h : Bt T w b v1 v2 v3) (y : Value) : Bt T (w.setCell ⟨b, 0, none⟩ y) b y v2 v3 := by
  have := heap_setCell_same w b 0 _ _ y h
  unfold Bt
  rw [this]; simp
theorem Bt.set1 {T : TypeId} {w : World} {b : Nat} {v1 v2 v3 : Value} (h : Bt T w b v1 v2 v3) (y : Value) : Bt T (w.setCell ⟨b, 1, none⟩ y) b v1 y v3 := by
  have := heap_setCell_same w b 1 _ _ y h
  unfold Bt
  rw [this]; simp
theorem ChgS.put {S : Nat → Prop} {w0 w : World} (h : ChgS S w0 w) {b : Nat} (hb : S b) (o : Nat) (y : Value) : ChgS S w0 (w.setCell ⟨b, o, none⟩ y) :=
  h.then ((ChgS.setCell w b o y).sub fun k hk => by subst hk; exact hb)
theorem OP.formsQ {w : World} {S : Nat → Prop} {v1 v2 v3 : Value} {p : Pres} (h : OP w S v1 v2 v3 p) : ∃ a1 n1 q1 a2 n2 q2 a3 n3 q3, v1 = .slice a1 n1 q1 ∧ v2 = .slice a2 n2 q2 ∧ v3 = .slice a3 n3 q3 := by
  obtain ⟨⟨a1, q1, e1⟩, ⟨a2, q2, e2⟩, ⟨a3, q3, e3⟩⟩ := h.forms
  exact ⟨_, _, _, _, _, _, _, _, _, e1, e2, e3⟩
--== impl.sectionOf
/-- a quotient, a module and tails that a call has made -/
def RetSec (w : World) (P : Pres) (D : List (List (List Int))) (T : List (List Int)) (w' : World) (v1 v2 v3 vm vt : Value) : Prop :=
  ∃ A B C : Nat → Prop, OP w' A v1 v2 v3 P ∧ O3 w' B vm D ∧ O2 w' C vt T ∧ (∀ k, A k → ¬ B k) ∧ (∀ k, A k → ¬ C k) ∧ (∀ k, C k → ¬ B k) ∧
    (∀ k, A k → win w.heap.size w'.heap.size k) ∧ (∀ k, B k → win w.heap.size w'.heap.size k) ∧ (∀ k, C k → win w.heap.size w'.heap.size k) ∧ Below w.heap.size w w'
set_option maxHeartbeats 8000000 in
theorem i_sectionOf {p : Pres} (hV : ValidP p) (vp : Value) (f : Nat) (w : World) (hp : PtrP w vp p) (hf : f < p.n) :
    Calls Try.prog 102 #[vp, .int .i64 f] w fun e w' => ∃ v1 v2 v3 vm vt, e = .returned (.tuple #[.agg #[v1, v2, v3], .agg #[.int .i64 (p.r f), .int .i64 ((p.n : Int) - (f : Int)), vm], vt]) ∧
      RetSec w (hdP p f f) (acD p f f) (pwT p f f ++ cjT p f f) w' v1 v2 v3 vm vt := by
  have hn6 := hV.n6
  have HP := Lib.hid hp
  obtain ⟨pb, v1, v2, v3, rfl, c1, c2, c3, R1, R2, R3⟩ := hp
  obtain ⟨b1, o1, q1, rfl, k1⟩ := ord_at R1 (by omega)
  obtain ⟨b2, o2, q2, rfl, k2⟩ := pow_at hV R2 (by omega)
  obtain ⟨b3, o3, q3, rfl, _⟩ := conj_at hV R3 hf
  have KC : Hid (∀ j, j < p.n → ∃ a z, w.cell? ⟨b3, o3 + j, none⟩ = some (.slice a (p.n - (j + 1)) z) ∧ ∀ k, j + 1 + k < p.n → ∃ b' o', a = some ⟨b', o', none⟩ ∧ ∃ a5 z5, w.cell? ⟨b', o' + k, none⟩ = some (.slice a5 p.n z5) ∧ Rd w (.slice a5 p.n z5) (p.C j (j + 1 + k))) := fun j hj => by
    obtain ⟨b', o', q', he, h⟩ := conj_at hV R3 hj
    cases he; exact h
  have K1 := Lib.hid k1
  have K2 := Lib.hid k2
  have C1 := Lib.hid c1
  have C2 := Lib.hid c2
  have C3 := Lib.hid c3
  have G0 := Lib.hid (below_allocs2 w (Obj.cells #[Value.slice none 0 0, Value.slice none 0 0, Value.slice none 0 0] 28) (Obj.cells #[.int .i64 0, .int .i64 0, .slice none 0 0] 42))
  have b0 := (Bx.new w (Value.slice none 0 0) (Value.slice none 0 0) (Value.slice none 0 0)).old (Obj.cells #[.int .i64 0, .int .i64 0, .slice none 0 0] 42)
  have x0 := Bt.new 42 (w.alloc (Obj.cells #[Value.slice none 0 0, Value.slice none 0 0, Value.slice none 0 0] 28)) (.int .i64 0) (.int .i64 0) (.slice none 0 0)
  rw [show (w.alloc (Obj.cells #[Value.slice none 0 0, Value.slice none 0 0, Value.slice none 0 0] 28)).heap.size = w.heap.size + 1 by simp] at x0
  obtain ⟨wd, hwd⟩ : ∃ wd, wd = (w.alloc (Obj.cells #[Value.slice none 0 0, Value.slice none 0 0, Value.slice none 0 0] 28)).alloc (Obj.cells #[.int .i64 0, .int .i64 0, .slice none 0 0] 42) := ⟨_, rfl⟩
  have sd : wd.heap.size = w.heap.size + 1 + 1 := by rw [hwd]; simp
  rw [← hwd] at b0 x0 G0
  have HB0 := Lib.hid b0
  have HX0 := Lib.hid x0
  have HWD := Lib.hid hwd
  have W1 : IntKind.i64.wrap ((p.n : Int) - (f : Int)) = (p.n : Int) - (f : Int) := IntWalk.i64_in _ (by omega)
  have W2 : IntKind.i64.wrap (f : Int) = (f : Int) := IntWalk.i64_in _ (by omega)
  have H1 : (f : Int) < (p.n : Int) := by omega
  have e1 := below_cells G0.out _ _ (K1.out f hf)
  have e2 := below_cells G0.out _ _ C1.out
  have gz := below_alloc wd (Obj.cells #[.int .i64 0, .int .i64 0, .slice none 0 0] 42)
  have e3 := below_cells gz _ _ e1
  have e4 := below_cells gz _ _ e2
  have l1 := World.block_lt_of_cell? wd _ e1
  have l2 := World.block_lt_of_cell? wd _ e2
  have l1' : b1 < wd.heap.size := l1
  have l2' : pb < wd.heap.size := l2
  clear k1 k2 c1 c2 c3 R1 R2 R3 b0 x0 hwd l1 l2
  go_enter Try.func102, Try.ntmps102
  go_wp2_with fail
  rw [← HWD.out]
  apply via
  case h =>
    go_region
    all_goals exact ⟨rfl, rfl⟩
  have x3 := (Bt.new 42 wd (.int .i64 (p.r f)) (.int .i64 ((p.n : Int) - (f : Int))) (.slice none 0 0)).drew
  have g3 : Below wd.heap.size wd (wd.alloc (Obj.cells #[.int .i64 (p.r f), .int .i64 ((p.n : Int) - (f : Int)), .slice none 0 0] 42)).drew := (below_alloc wd _).drew
  rw [sd] at x3
  have hM0 : MP2 wd (w.heap.size + 1 + 1) (.int .i64 (p.r f)) (.int .i64 ((p.n : Int) - (f : Int))) (.slice none 0 0) (pwT p f 0) (acD p f 0) (wd.alloc (Obj.cells #[.int .i64 (p.r f), .int .i64 ((p.n : Int) - (f : Int)), .slice none 0 0] 42)).drew :=
    ⟨_, fun _ => False, ⟨fun _ => False, x3, local_O3.nil _ _, fun _ h => h.elim, fun _ h => h.elim, fun _ h => h.elim, g3, by omega⟩, local_O2.nil _ _⟩
  generalize (wd.alloc (Obj.cells #[.int .i64 (p.r f), .int .i64 ((p.n : Int) - (f : Int)), .slice none 0 0] 42)).drew = we at *
  have HM0 := Lib.hid hM0
  generalize hX : p.r f = rx at *
  generalize hY : (p.n : Int) - (f : Int) = ry at *
  have HXX := Lib.hid hX
  have HYY := Lib.hid hY
  clear x3 g3 hM0 e1 e2 e3 e4 l1' l2' gz W1 hX hY
  go_wp2_with fail
  go_loopw [8, 30] (fun u t wr => ∃ j : Nat, j ≤ f ∧ t = .int .i64 j ∧ MP2 wd (w.heap.size + 1 + 1) (.int .i64 rx) (.int .i64 ry) u (pwT p f j) (acD p f 0) wr) (fun _ t _ => f - (intOf t).toNat)
  case atStart => exact ⟨0, Nat.zero_le _, rfl, HM0.out⟩
  case round =>
    clear HM0
    obtain ⟨j, hj, rfl, v, S0, hMB, hO⟩ := hrel
    obtain ⟨a6, c6, rfl, _, _⟩ := hO.formN (pwT_len p f j)
    have HM := Lib.hid hMB
    have HO := Lib.hid hO
    have HW := Lib.hid (below_size G0.out (hMB.keep (ChgS.refl _ _)).1)
    clear hMB hO
    by_cases hlt : j < f
    · obtain ⟨az, zz, hcz, hrz⟩ := K2.out j (by omega)
      have ez := below_cells HW.out _ _ hcz
      have d1 := below_cells HW.out _ _ C2.out
      have hpk : (p.P j).length = p.n := (hV.valid.pow j (by omega)).len
      obtain ⟨bz, oz, rfl, _⟩ := hrz.at (j := 0) (by omega)
      have hkn' : (j : Int) < (p.n : Int) := by omega
      have hfn' : (f : Int) ≤ (p.n : Int) := by omega
      have hzz : p.n ≤ zz := by have := hrz.formN (n := p.n) hpk; obtain ⟨a, c, he, h1, h2⟩ := this; simp only [Value.slice.injEq] at he; omega
      have hcz2 : ¬ zz = f := by omega
      have hcz3 : (f : Int) ≤ (zz : Int) := by omega
      have hsz : Hid (Rd w (.slice (some ⟨bz, oz + f, none⟩) (p.n - f) (zz - f)) ((p.P j).drop f)) := hrz.suf f (by omega)
      have HDL : Hid (((p.P j).drop f).length = p.n - f) := by show _ = _; simp [hpk]
      have HS := Lib.hid (pwT_succ p f j)
      have HL := Lib.hid (pwT_len p f j)
      generalize pwT p f j = R at *
      clear hcz hrz hpk
      go_wp2_with fail
      refine (f_Clone _ ((p.P j).drop f) _ (hsz.out.below HW.out) (by rw [HDL.out]; omega)).mono ?_
      rintro e w5 ⟨u5, rfl, hI5, hB5⟩
      obtain ⟨a7, c7, rfl, _, _⟩ := hI5.rd.formN HDL.out
      obtain ⟨v6, w6, hr6, hIR⟩ := (HM.out.inr HO.out).tail hB5 hI5 rfl (by rw [HL.out]; omega)
      have HF := Lib.hid (HM.out.done hIR)
      clear hB5 hI5 hIR ez d1
      go_wp2_with (at_builtin; refine wp_of_run _ rfl _ _ _ rfl _ _ rfl rfl _ _ hr6 ?_)
      go_roundw
      case rel => exact ⟨j + 1, by omega, by go_num, by rw [HS.out]; exact HF.out⟩
      case measure => simp [intOf]; omega
    · obtain rfl : j = f := by omega
      have HM1 : Hid (MP2 wd (w.heap.size + 1 + 1) (.int .i64 rx) (.int .i64 ry) (.slice a6 j c6) (pwT p j j ++ cjT p j 0) (acD p j 0) wr) := by
        show MP2 _ _ _ _ _ _ _ _
        rw [show cjT p j 0 = [] from rfl, List.append_nil]; exact ⟨v, S0, HM.out, HO.out⟩
      clear HM HO HW
      go_wp2_with fail
      go_loopw [8, 48] (fun u t wr => ∃ i : Nat, i ≤ j ∧ t = .int .i64 i ∧ MP2 wd (w.heap.size + 1 + 1) (.int .i64 rx) (.int .i64 ry) u (pwT p j j ++ cjT p j i) (acD p j i) wr) (fun _ t _ => j - (intOf t).toNat)
      case atStart => exact ⟨0, Nat.zero_le _, rfl, HM1.out⟩
      case round =>
        clear HM1
        obtain ⟨i, hi, rfl, v, S0, hMB, hO⟩ := hrel
        have HTL : Hid ((pwT p j j ++ cjT p j i).length ≤ j + i * j) := by show _ ≤ _; rw [List.length_append, pwT_len]; have := cjT_len p j i; omega
        obtain ⟨TL, hTL⟩ : ∃ TL, pwT p j j ++ cjT p j i = TL := ⟨_, rfl⟩
        have HT0 := Lib.hid hTL
        rw [hTL] at hO HTL
        clear hTL
        obtain ⟨a6, c6, rfl, _, _⟩ := ON.form hO
        obtain ⟨av, cv, hv⟩ := hMB.form
        rw [acD_len] at hv
        subst hv
        have HM := Lib.hid hMB
        have HO := Lib.hid hO
        have hBW := below_size G0.out (hMB.keep (ChgS.refl _ _)).1
        have HW := Lib.hid hBW
        have hij : i * j ≤ 36 := Nat.le_trans (Nat.mul_le_mul (by omega : i ≤ 6) (by omega : j ≤ 6)) (by omega)
        by_cases hlt : i < j
        · obtain ⟨a4, z4, k4, kc4⟩ := KC.out i (by omega)
          have e4 := below_cells hBW _ _ k4
          have d2 := below_cells hBW _ _ C3.out
          have K4 := Lib.hid kc4
          have hin : (i : Int) < (p.n : Int) := by omega
          obtain ⟨wo, hwo⟩ : ∃ x, x = wr := ⟨_, rfl⟩
          subst hwo
          have HI0 : Hid (InR S0 wo (.slice a6 TL.length c6) (.slice none 0 0) (TL ++ tlC p j i 0) (rwC p j i 0) wo) := by
            show InR _ _ _ _ _ _ _
            rw [tlC_0, rwC_0, List.append_nil]; exact HM.out.inr HO.out
          clear k4 kc4 hMB hO hBW
          go_wp2_with fail
          go_loopw [8, 11, 59] (fun u8 u11 t wr => ∃ m : Nat, m ≤ p.n - (i + 1) ∧ t = .int .i64 m ∧ InR S0 wo u8 u11 (TL ++ tlC p j i m) (rwC p j i m) wr) (fun _ _ t _ => (p.n - (i + 1)) - (intOf t).toNat)
          case atStart => exact ⟨0, Nat.zero_le _, rfl, HI0.out⟩
          case round =>
            clear HI0 e4 d2
            obtain ⟨m, hm, rfl, hI⟩ := hrel
            obtain ⟨⟨a8, c8, h8⟩, a9, c9, h9⟩ := hI.forms
            subst h8 h9
            have HKP := Lib.hid (HM.out.keep hI.chg)
            have hBW := below_size G0.out HKP.out.1
            have HL1 : Hid ((TL ++ tlC p j i m).length ≤ 1000) := by show _ ≤ _; rw [List.length_append]; have := HTL.out; have := tlC_len p j i m; omega
            have HL2 : Hid ((rwC p j i m).length ≤ 1000) := by show _ ≤ _; have := rwC_len p j i m; omega
            obtain ⟨T1, hT1⟩ : ∃ T1, TL ++ tlC p j i m = T1 := ⟨_, rfl⟩
            obtain ⟨R1, hR1⟩ : ∃ R1, rwC p j i m = R1 := ⟨_, rfl⟩
            have HT1 := Lib.hid hT1
            have HR1 := Lib.hid hR1
            rw [hT1] at hI HL1 ⊢
            rw [hR1] at hI HL2 ⊢
            have HI := Lib.hid hI
            clear hT1 hR1 hI
            by_cases hmk : m < p.n - (i + 1)
            · obtain ⟨b4, o4, rfl, a5, z5, kx, RX⟩ := K4.out m (by omega)
              have hxl : (p.C i (i + 1 + m)).length = p.n := (hV.valid.cj i (i + 1 + m) (by omega) (by omega)).len
              obtain ⟨b6, o6, rfl, _⟩ := RX.at (j := 0) (by omega)
              have hz5 : p.n ≤ z5 := by have := RX.formN (n := p.n) hxl; obtain ⟨a, c, he, h1, h2⟩ := this; simp only [Value.slice.injEq] at he; omega
              have hcz5 : ¬ z5 = j := by omega
              have hcz6 : (j : Int) ≤ (z5 : Int) := by omega
              have hfn' : (j : Int) ≤ (p.n : Int) := by omega
              have e5 := below_cells hBW _ _ kx
              have hsx : Hid (Rd w (.slice (some ⟨b6, o6 + j, none⟩) (p.n - j) (z5 - j)) (dC p j i m)) := RX.suf j (by omega)
              have HDX : Hid ((dC p j i m).length = p.n - j) := by show _ = _; simp [dC, hxl]
              have HBW := Lib.hid hBW
              clear kx RX hxl hBW
              by_cases hlo : i + 1 + m < j
              · have hlo' : (i : Int) + 1 + (m : Int) < (j : Int) := by omega
                have HS : Hid (T1 ++ [dC p j i m] = TL ++ tlC p j i (m + 1)) := by show _ = _; rw [tlC_lt p hlo, ← List.append_assoc, HT1.out]
                have HS2 : Hid (R1 = rwC p j i (m + 1)) := by show _ = _; rw [rwC_lt p hlo, HR1.out]
                go_wp2_with fail
                refine (f_Clone _ (dC p j i m) _ (hsx.out.below HBW.out) (by rw [HDX.out]; omega)).mono ?_
                rintro e w5 ⟨u5, rfl, hI5, hB5⟩
                obtain ⟨a7, c7, rfl, _, _⟩ := hI5.rd.formN HDX.out
                obtain ⟨v6, w6, hr6, hIR⟩ := HI.out.tail hB5 hI5 rfl (by have := HL1.out; omega)
                have HF := Lib.hid hIR
                clear hB5 hI5 hIR e5
                go_wp2_with (at_builtin; refine wp_of_run _ rfl _ _ _ rfl _ _ rfl rfl _ _ hr6 ?_)
                go_roundw
                case rel => exact ⟨m + 1, by omega, by go_num, by rw [← HS.out, ← HS2.out]; exact HF.out⟩
                case measure => simp [intOf]; omega
              · have hlo' : ¬ (i : Int) + 1 + (m : Int) < (j : Int) := by omega
                have HS : Hid (T1 = TL ++ tlC p j i (m + 1)) := by show _ = _; rw [tlC_ge p hlo, HT1.out]
                have HS2 : Hid (R1 ++ [dC p j i m] = rwC p j i (m + 1)) := by show _ = _; rw [rwC_ge p hlo, HR1.out]
                go_wp2_with fail
                refine (f_Clone _ (dC p j i m) _ (hsx.out.below HBW.out) (by rw [HDX.out]; omega)).mono ?_
                rintro e w5 ⟨u5, rfl, hI5, hB5⟩
                obtain ⟨a7, c7, rfl, _, _⟩ := hI5.rd.formN HDX.out
                obtain ⟨v6, w6, hr6, hIR⟩ := HI.out.row hB5 hI5 rfl (by have := HL2.out; omega)
                have HF := Lib.hid hIR
                clear hB5 hI5 hIR e5
                go_wp2_with (at_builtin; refine wp_of_run _ rfl _ _ _ rfl _ _ rfl rfl _ _ hr6 ?_)
                go_roundw
                case rel => exact ⟨m + 1, by omega, by go_num, by rw [← HS.out, ← HS2.out]; exact HF.out⟩
                case measure => simp [intOf]; omega
            · obtain rfl : m = p.n - (i + 1) := by omega
              obtain ⟨a', c', w4, hr, hq1, hq2, hM4⟩ := HM.out.act HI.out rfl (by rw [acD_len]; omega)
              rw [acD_len] at hr hM4
              have HF : Hid (MP2 wd (w.heap.size + 1 + 1) (.int .i64 rx) (.int .i64 ry) (.slice a8 T1.length c8) (pwT p j j ++ cjT p j (i + 1)) (acD p j (i + 1)) (w4.setCell ⟨w.heap.size + 1 + 1, 2, none⟩ (.slice a' (i + 1) c'))) := by
                show MP2 _ _ _ _ _ _ _ _
                rw [acD_succ, cjT_succ, ← List.append_assoc, HT0.out, HT1.out, HR1.out]; exact hM4
              have m2 := HKP.out.2.c2
              have lb := HKP.out.2.lt
              clear hM4 hBW
              go_wp2_with (at_builtin; refine wp_of_run _ rfl _ _ _ rfl _ _ rfl rfl _ _ hr ?_)
              go_roundw
              case rel => exact ⟨i + 1, by omega, by go_num, HF.out⟩
              case measure => simp [intOf]; omega
        · obtain rfl : i = j := by omega
          obtain ⟨S2, hX7, h2, d, s1, s2, hB7, hb7⟩ := HM.out
          have X4 := Lib.hid (HB0.out.below hB7 HB0.out.lt)
          have X5 := Lib.hid (HX0.out.below hB7 HX0.out.lt)
          have X7 := Lib.hid hX7
          have n0 := hX7.c0
          have n1 := hX7.c1
          have n2 := hX7.c2
          have HD := Lib.hid d
          have HS1 := Lib.hid s1
          have HS2 := Lib.hid s2
          have HO3 := Lib.hid h2
          have HZ : Hid (w.heap.size + 1 + 1 ≤ wd.heap.size) := by show _ ≤ _; omega
          have HZ2 : Hid (wd.heap.size ≤ wr.heap.size) := hB7.size
          have hl7 := hX7.lt
          clear hX7 d s1 s2 h2 hB7 hb7
          try clear hMB
          try clear hO
          try clear hBW
          go_wp2_with fail
          go_region_law (first
            | (go_simp; go_at_call 166; go_must (refine (i_headOf_all hV i (by omega) _ _ (HP.out.below HW.out.drew)).mono ?_); rintro e w4 ⟨y1, y2, y3, rfl, hP, hb⟩; obtain ⟨f1, f2, f3, f4, f5, f6, f7, f8, f9, rfl, rfl, rfl⟩ := hP.formsQ; have hb' := below_size (Below.refl wr.heap.size wr).drew hb; have hsz4 := hb'.size; have x4 := X4.out.below hb' X4.out.lt; have x5 := X5.out.below hb' X5.out.lt; have x7 := X7.out.below hb' X7.out.lt; have p0 := x4.c0; have p1 := x4.c1; have p2 := x4.c2; have q0 := x4.fr 0; have q1 := x4.fr 1; have q2 := x4.fr 2; have r0 := x5.c0; have r1 := x5.c1; have r2 := x5.c2; have t0 := x5.fr 0; have t1 := x5.fr 1; have t2 := x5.fr 2; have u0 := x7.c0; have u1 := x7.c1; have u2 := x7.c2; have l4 := x4.lt; have l5 := x5.lt; have l7 := x7.lt))
          all_goals
            have HFIN : Hid (∀ wz, ChgS (fun k => k = w.heap.size ∨ k = w.heap.size + 1) w4 wz → RetSec w (hdP p i i) (acD p i i) (pwT p i i ++ cjT p i i) wz (.slice f1 f2 f3) (.slice f4 f5 f6) (.slice f7 f8 f9) (.slice av i cv) (.slice a6 TL.length c6)) := fun wz hz => by
              have hzs := hz.size
              have e1 := HZ.out
              have e2 := HZ2.out
              refine ⟨win wr.heap.size w4.heap.size, S2, S0, OP.chg hP hz ?_, local_O3.chg (local_O3.below HO3.out hb') hz ?_, ?_, ?_, ?_, ?_, ?_, ?_, ?_, ?_⟩
              · intro k hk hh; have := hk.1; rcases hh with h | h <;> omega
              · intro k hk hh; have := (HS2.out k hk).1; rcases hh with h | h <;> omega
              · rw [HT0.out]
                exact local_O2.chg (local_O2.below HO.out hb') hz fun k hk hh => by have := (HS1.out k hk).1; rcases hh with h | h <;> omega
              · intro k hk hh; have := hk.1; have := (HS2.out k hh).2.2; omega
              · intro k hk hh; have := hk.1; have := (HS1.out k hh).2.2; omega
              · exact fun k hk hh => HD.out k hk hh
              · intro k hk; exact ⟨by have := hk.1; omega, by have := hk.2; omega⟩
              · intro k hk; have := HS2.out k hk; exact ⟨by omega, by omega⟩
              · intro k hk; have := HS1.out k hk; exact ⟨by omega, by omega⟩
              · exact ((below_size HW.out hb').trans (hz.below (B := w.heap.size) (fun k hk => by rcases hk with h | h <;> omega) (by omega)))
            clear hP hb hb' x4 x5 x7 X4 X5 X7
            go_wp2_with fail
            refine bodyPost_ret (v := .tuple #[.agg #[.slice f1 f2 f3, .slice f4 f5 f6, .slice f7 f8 f9], .agg #[.int .i64 rx, .int .i64 ry, .slice av i cv], .slice a6 TL.length c6]) (by simp [results, Try.results102, go_sem, p0, p1, p2, r0, r1, r2]) rfl ⟨_, _, _, _, _, by first | rfl | rw [HXX.out, HYY.out], HFIN.out _ ?_⟩
            repeat (refine ChgS.put ?_ (by first | exact .inl rfl | exact .inr rfl) _ _)
            exact ChgS.refl _ _
end Go.Proofs.Ytjnnjnhmecidmaa
