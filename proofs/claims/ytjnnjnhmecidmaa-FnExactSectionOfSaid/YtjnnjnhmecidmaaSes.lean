/-
  SectionOf: the reference's SectionOf, where it goes on.
-/
import Derived.Test.YtjnnjnhmecidmaaSej
import Derived.Test.YtjnnjnhmecidmaaHes
namespace Go.Proofs.Ytjnnjnhmecidmaa
set_option linter.unusedVariables false
set_option linter.unusedSimpArgs false
set_option maxRecDepth 100000
open Go.RowKit

theorem tlC_top (p : Pres) {f k : Nat} (hf : f ≤ p.n) : tlC p f k (f - (k + 1)) = tlC p f k (p.n - (k + 1)) := by
  unfold tlC
  rw [show min (f - (k + 1)) (f - (k + 1)) = min (p.n - (k + 1)) (f - (k + 1)) by omega]
--== rows
theorem InR.fresh {S0 : Nat → Prop} {wo wr : World} {u8 u11 : Value} {T R : List (List Int)} (h : InR S0 wo u8 u11 T R wr) :
    InR S0 wo u8 (.slice (some ⟨wr.heap.size, 0, none⟩) 0 0) T [] (wr.alloc (.cells #[] 22)) := by
  obtain ⟨S1, S3, h1, h3, d, s1, s3, hC⟩ := h
  have z := hC.size
  have e : (wr.alloc (.cells #[] 22)).heap.size = wr.heap.size + 1 := by simp
  refine ⟨S1, fun k => k = wr.heap.size, local_O2.below h1 (below_alloc _ _), ON.empty wr, ?_, ?_, ?_, hC.trans' (ChgS.of_below (fun _ => False) (below_alloc _ _)) (fun _ _ h => h.elim)⟩
  · intro k hk hh; have := (s1 k hk).2; omega
  · intro k hk; exact ⟨(s1 k hk).1, by have := (s1 k hk).2; omega⟩
  · intro k hk; subst hk; exact ⟨z, by omega⟩
--== spec.SectionOf
set_option maxHeartbeats 8000000 in
theorem s_Sec_go {p : Pres} (hc : conB p = true) (m : Nat) (hmn : m < p.n) (v1 v2 v3 : Value) (w : World) (hp : RdP w v1 v2 v3 p) (hK : ntK p (m : Int) = 0) (hs : flB p m = true) :
    Calls Try.prog 33 #[.agg #[v1, v2, v3], .int .i64 m] w (RetSec4 w (hdP p m m) (p.r m) ((p.n : Int) - (m : Int)) (acD p m m) (pwT p m m ++ cjT p m m) 0) := by
  have hV := (conB_true hc).1
  have hn6 := hV.n6
  have HP := Lib.hid hp
  obtain ⟨R1, R2, R3⟩ := hp
  obtain ⟨b1, o1, q1, rfl, k1⟩ := ord_at R1 (by omega)
  obtain ⟨b2, o2, q2, rfl, k2⟩ := pow_at hV R2 (by omega)
  obtain ⟨b3, o3, q3, rfl, _⟩ := conj_at hV R3 hmn
  have KC : Hid (∀ j, j < p.n → ∃ a z, w.cell? ⟨b3, o3 + j, none⟩ = some (.slice a (p.n - (j + 1)) z) ∧ ∀ k, j + 1 + k < p.n → ∃ b' o', a = some ⟨b', o', none⟩ ∧ ∃ a5 z5, w.cell? ⟨b', o' + k, none⟩ = some (.slice a5 p.n z5) ∧ Rd w (.slice a5 p.n z5) (p.C j (j + 1 + k))) := fun j hj => by
    obtain ⟨b', o', q', he, h⟩ := conj_at hV R3 hj
    cases he; exact h
  have K1 := Lib.hid k1
  have K2 := Lib.hid k2
  obtain ⟨wa, hwa⟩ : ∃ wa, wa = w.alloc (Obj.cells #[Value.slice (some ⟨b1, o1, none⟩) p.n q1, Value.slice (some ⟨b2, o2, none⟩) p.n q2, Value.slice (some ⟨b3, o3, none⟩) p.n q3] 28) := ⟨_, rfl⟩
  have ga : Below w.heap.size w wa := hwa ▸ below_alloc _ _
  have ba : Bx wa w.heap.size (Value.slice (some ⟨b1, o1, none⟩) p.n q1) (Value.slice (some ⟨b2, o2, none⟩) p.n q2) (Value.slice (some ⟨b3, o3, none⟩) p.n q3) := hwa ▸ Bx.new _ _ _ _
  have sa : wa.heap.size = w.heap.size + 1 := by rw [hwa]; simp
  obtain ⟨wb, hwb⟩ : ∃ wb, wb = wa.alloc (Obj.cells #[Value.slice none 0 0, Value.slice none 0 0, Value.slice none 0 0] 28) := ⟨_, rfl⟩
  have gb : Below w.heap.size w wb := hwb ▸ ga.alloc ga.size _
  have bb : Bx wb w.heap.size (Value.slice (some ⟨b1, o1, none⟩) p.n q1) (Value.slice (some ⟨b2, o2, none⟩) p.n q2) (Value.slice (some ⟨b3, o3, none⟩) p.n q3) := hwb ▸ ba.old _
  have xb : Bx wb (w.heap.size + 1) (.slice none 0 0) (.slice none 0 0) (.slice none 0 0) := by rw [hwb, ← sa]; exact Bx.new _ _ _ _
  have sb : wb.heap.size = w.heap.size + 1 + 1 := by rw [hwb]; simp [sa]
  obtain ⟨wc, hwc⟩ : ∃ wc, wc = wb.alloc (Obj.cells #[.int .i64 0, .int .i64 0, .slice none 0 0] 42) := ⟨_, rfl⟩
  have gc : Hid (Below w.heap.size w wc) := hwc ▸ gb.alloc gb.size _
  have bc : Hid (Bx wc w.heap.size (Value.slice (some ⟨b1, o1, none⟩) p.n q1) (Value.slice (some ⟨b2, o2, none⟩) p.n q2) (Value.slice (some ⟨b3, o3, none⟩) p.n q3)) := hwc ▸ bb.old _
  have xc : Hid (Bx wc (w.heap.size + 1) (.slice none 0 0) (.slice none 0 0) (.slice none 0 0)) := hwc ▸ xb.old _
  have yc : Hid (Bt 42 wc (w.heap.size + 1 + 1) (.int .i64 0) (.int .i64 0) (.slice none 0 0)) := by show Bt _ _ _ _ _ _; rw [hwc, ← sb]; exact Bt.new _ _ _ _ _
  have HWD : Hid (wc = ((w.alloc (Obj.cells #[Value.slice (some ⟨b1, o1, none⟩) p.n q1, Value.slice (some ⟨b2, o2, none⟩) p.n q2, Value.slice (some ⟨b3, o3, none⟩) p.n q3] 28)).alloc (Obj.cells #[Value.slice none 0 0, Value.slice none 0 0, Value.slice none 0 0] 28)).alloc (Obj.cells #[.int .i64 0, .int .i64 0, .slice none 0 0] 42)) := by
    show _ = _; rw [hwc, hwb, hwa]
  clear ga ba sa gb bb xb sb hwa hwb hwc wa wb k1 k2 R1 R2 R3
  have m0 := bc.out.c0
  have m1 := bc.out.c1
  have m2 := bc.out.c2
  have HI : Hid (inB (m : Int) 0 p.n = true) := inB_true.2 ⟨by omega, by omega⟩
  have HS := Lib.hid hs
  have HHK := Lib.hid (hdK_0 hK (flB_nt hs).1)
  have HHX := Lib.hid (hdX_0 HHK.out)
  clear hs hK
  go_enter Try.func33, Try.ntmps33
  go_wp2_with fail
  rw [← HWD.out]
  refine (s_l08Group p _ _ _ _ (HP.out.below gc.out)).mono ?_
  rintro e w1 ⟨rfl, hb⟩
  have g1 := below_size gc.out hb
  have b1' := bc.out.below hb bc.out.lt
  have x1 := xc.out.below hb xc.out.lt
  have y1 := yc.out.below hb yc.out.lt
  rw [hc]
  clear hb m0 m1 m2
  have m0 := b1'.c0
  have m1 := b1'.c1
  have m2 := b1'.c2
  go_wp2_with fail
  refine (s_l01In (m : Int) 0 p.n w1).mono ?_
  rintro e w' ⟨rfl, rfl⟩
  rw [HI.out]
  go_wp2_with fail
  refine (s_l24Flat hV _ _ _ m _ (HP.out.below g1) (by omega)).mono ?_
  rintro e w2 ⟨rfl, hb⟩
  have g2 := below_size g1 hb
  replace b1' := b1'.below hb b1'.lt
  replace x1 := x1.below hb x1.lt
  replace y1 := y1.below hb y1.lt
  rw [HS.out]
  clear hb m0 m1 m2
  have m0 := b1'.c0
  have m1 := b1'.c1
  have m2 := b1'.c2
  go_wp2_with fail
  refine (s_HeadPresentation _ _ _ p (m : Int) _ (HP.out.below g2) (by omega)).mono ?_
  rintro e w3 ⟨y1', y2', y3', rfl, hOP, hb⟩
  rw [HHK.out]
  rw [HHX.out] at hOP
  obtain ⟨f1, f2, f3, f4, f5, f6, f7, f8, f9, rfl, rfl, rfl⟩ := hOP.formsQ
  have HOP := Lib.hid hOP
  have l2y : w.heap.size + 1 + 1 < w2.heap.size := y1.lt
  have g3 := below_size g2 hb
  replace b1' := b1'.below hb b1'.lt
  replace x1 := x1.below hb x1.lt
  replace y1 := y1.below hb y1.lt
  have hs3 := hb.size
  clear m0
  obtain ⟨w9, hw9⟩ : ∃ w9, w9 = w3.alloc (Obj.cells #[Value.slice f1 f2 f3, Value.slice f4 f5 f6, Value.slice f7 f8 f9] 28) := ⟨_, rfl⟩
  have b9 : Bx w9 w.heap.size (Value.slice (some ⟨b1, o1, none⟩) p.n q1) (Value.slice (some ⟨b2, o2, none⟩) p.n q2) (Value.slice (some ⟨b3, o3, none⟩) p.n q3) := hw9 ▸ b1'.old _
  have x9 : Bx w9 (w.heap.size + 1) (.slice none 0 0) (.slice none 0 0) (.slice none 0 0) := hw9 ▸ x1.old _
  have y9 : Bt 42 w9 (w.heap.size + 1 + 1) (.int .i64 0) (.int .i64 0) (.slice none 0 0) := hw9 ▸ y1.old _
  have t9 : Bx w9 w3.heap.size (Value.slice f1 f2 f3) (Value.slice f4 f5 f6) (Value.slice f7 f8 f9) := hw9 ▸ Bx.new _ _ _ _
  have s9 : w9.heap.size = w3.heap.size + 1 := by rw [hw9]; simp
  have g9 : Below w.heap.size w w9 := hw9 ▸ g3.alloc g3.size _
  have h9 : Below w3.heap.size w3 w9 := hw9 ▸ below_alloc _ _
  have e1 := below_cells (g3.alloc g3.size (Obj.cells #[Value.slice f1 f2 f3, Value.slice f4 f5 f6, Value.slice f7 f8 f9] 28)) _ _ (K1.out m hmn)
  have m0 := (b1'.old (Obj.cells #[Value.slice f1 f2 f3, Value.slice f4 f5 f6, Value.slice f7 f8 f9] 28)).c0
  generalize hX : p.r m = rx at *
  generalize hY : (p.n : Int) - (m : Int) = ry at *
  have G12 : Below w9.heap.size w9 (((w9.alloc (Obj.cells #[] 23)).alloc (Obj.cells #[.int .i64 rx, .int .i64 ry, .slice (some ⟨w3.heap.size + 1, 0, none⟩) 0 0] 42)).alloc (Obj.cells #[] 22)) := ((below_alloc w9 _).alloc (by simp) _).alloc (by simp <;> omega) _
  have hM0 : MP2 w9 (w3.heap.size + 1 + 1) (.int .i64 rx) (.int .i64 ry) (.slice (some ⟨w3.heap.size + 1 + 1 + 1, 0, none⟩) 0 0) (pwT p m 0) (acD p m 0) (((w9.alloc (Obj.cells #[] 23)).alloc (Obj.cells #[.int .i64 rx, .int .i64 ry, .slice (some ⟨w3.heap.size + 1, 0, none⟩) 0 0] 42)).alloc (Obj.cells #[] 22)) := by
    have e1 : (w9.alloc (Obj.cells #[] 23)).heap.size = w3.heap.size + 1 + 1 := by simp [s9]
    have e2 : ((w9.alloc (Obj.cells #[] 23)).alloc (Obj.cells #[.int .i64 rx, .int .i64 ry, .slice (some ⟨w3.heap.size + 1, 0, none⟩) 0 0] 42)).heap.size = w3.heap.size + 1 + 1 + 1 := by simp [s9]
    have X := (Bt.new 42 (w9.alloc (Obj.cells #[] 23)) (.int .i64 rx) (.int .i64 ry) (.slice (some ⟨w3.heap.size + 1, 0, none⟩) 0 0)).old (Obj.cells #[] 22)
    rw [e1] at X
    have T := ON.empty (e := 22) (O := O1) ((w9.alloc (Obj.cells #[] 23)).alloc (Obj.cells #[.int .i64 rx, .int .i64 ry, .slice (some ⟨w3.heap.size + 1, 0, none⟩) 0 0] 42))
    rw [e2] at T
    have D : O3 (w9.alloc (Obj.cells #[] 23)) (fun k => k = w9.heap.size) (.slice (some ⟨w3.heap.size + 1, 0, none⟩) 0 0) [] := by have := ON.empty (e := 23) (O := O2) w9; rwa [show (Value.slice (some ⟨w9.heap.size, 0, none⟩) 0 0) = .slice (some ⟨w3.heap.size + 1, 0, none⟩) 0 0 by rw [s9]] at this
    have D2 := local_O3.below (local_O3.below D (below_alloc _ (Obj.cells #[.int .i64 rx, .int .i64 ry, .slice (some ⟨w3.heap.size + 1, 0, none⟩) 0 0] 42))) (below_alloc _ (Obj.cells #[] 22))
    refine ⟨_, fun k => k = w3.heap.size + 1 + 1 + 1, ⟨fun k => k = w9.heap.size, X, D2, ?_, ?_, ?_, G12, by omega⟩, T⟩
    · intro k hk hh; omega
    · intro k hk; subst hk; exact ⟨by omega, by omega, by simp [s9]⟩
    · intro k hk; subst hk; exact ⟨by omega, by omega, by simp [s9]⟩
  have HM0 := Lib.hid hM0
  have HXX := Lib.hid hX
  have HYY := Lib.hid hY
  have H1 : (m : Int) < (p.n : Int) := by omega
  have HG9 := Lib.hid g9
  have HH9 := Lib.hid h9
  have HB9 := Lib.hid b9
  have HX9 := Lib.hid x9
  have HY9 := Lib.hid y9
  have HT9 := Lib.hid t9
  have HS9 := Lib.hid s9
  have HW9 := Lib.hid hw9
  have HG2 := Lib.hid g2
  have HSS3 := Lib.hid hs3
  have HBE := Lib.hid hb
  clear hM0 hX hY g9 h9 b9 x9 y9 t9 s9 hw9 b1' x1 y1 g3 hb hOP g1 m1 m2 G12 g2 hs3
  go_wp2_with fail
  rw [HYY.out, ← HW9.out]
  generalize ((w9.alloc (Obj.cells #[] 23)).alloc (Obj.cells #[.int .i64 rx, .int .i64 ry, .slice (some ⟨w3.heap.size + 1, 0, none⟩) 0 0] 42)).alloc (Obj.cells #[] 22) = w12 at *
  clear m0 e1
  go_loopw [12, 13] (fun u t wr => ∃ j : Nat, j ≤ m ∧ t = .int .i64 j ∧ MP2 w9 (w3.heap.size + 1 + 1) (.int .i64 rx) (.int .i64 ry) u (pwT p m j) (acD p m j) wr) (fun _ t _ => m - (intOf t).toNat)
  case atStart => exact ⟨0, Nat.zero_le _, rfl, HM0.out⟩
  case round =>
    clear HM0
    obtain ⟨j, hj, rfl, v, S0, hMB, hO⟩ := hrel
    obtain ⟨a6, c6, rfl, _, _⟩ := hO.formN (pwT_len p m j)
    obtain ⟨av, cv, hv⟩ := hMB.form
    rw [acD_len] at hv
    subst hv
    have HM := Lib.hid hMB
    have HO := Lib.hid hO
    have hB9 := (hMB.keep (ChgS.refl _ _)).1
    have HB9' := Lib.hid hB9
    have HW := Lib.hid (below_size HG9.out hB9)
    have X2 := Lib.hid (HB9.out.below hB9 HB9.out.lt)
    clear hMB hO hB9
    by_cases hlt : j < m
    · obtain ⟨az, zz, hcz, hrz⟩ := K2.out j (by omega)
      have ez := below_cells HW.out _ _ hcz
      have d1 := X2.out.c1
      have hpk : (p.P j).length = p.n := (hV.valid.pow j (by omega)).len
      obtain ⟨bz, oz, rfl, _⟩ := hrz.at (j := 0) (by omega)
      have hkn' : (j : Int) < (p.n : Int) := by omega
      have hfn' : (m : Int) ≤ (p.n : Int) := by omega
      have hzz : p.n ≤ zz := by have := hrz.formN (n := p.n) hpk; obtain ⟨a, c, he, h1, h2⟩ := this; simp only [Value.slice.injEq] at he; omega
      have hcz2 : ¬ zz = m := by omega
      have hcz3 : (m : Int) ≤ (zz : Int) := by omega
      have hsz : Hid (Rd w (.slice (some ⟨bz, oz + m, none⟩) (p.n - m) (zz - m)) ((p.P j).drop m)) := hrz.suf m (by omega)
      have HDL : Hid (((p.P j).drop m).length = p.n - m) := by show _ = _; simp [hpk]
      have HS := Lib.hid (pwT_succ p m j)
      have HL := Lib.hid (pwT_len p m j)
      have hd1 : decide ((j : Int) < (m : Int)) = true := by simp; omega
      clear hcz hrz hpk
      go_wp2_with fail
      refine (s_l01Own _ ((p.P j).drop m) _ (hsz.out.below HW.out) (by rw [HDL.out]; omega)).mono ?_
      rintro e w5 ⟨u5, rfl, hI5, hB5⟩
      obtain ⟨a7, c7, rfl, _, _⟩ := hI5.rd.formN HDL.out
      obtain ⟨v6, w6, hr6, hIR⟩ := (HM.out.inr HO.out).tail hB5 hI5 rfl (by rw [HL.out]; omega)
      rw [← HS.out] at hIR
      obtain ⟨⟨a8, c8, rfl⟩, _⟩ := hIR.forms
      rw [pwT_len] at hIR hr6
      have HI6 := Lib.hid hIR.fresh
      have HK6 := Lib.hid (HM.out.keep hIR.chg)
      clear hB5 hI5 hIR ez d1
      go_wp2_with (at_builtin; refine wp_of_run _ rfl _ _ _ rfl _ _ rfl rfl _ _ hr6 ?_)
      obtain ⟨w7, hw7⟩ : ∃ w7, w7 = w6.alloc (Obj.cells #[] 22) := ⟨_, rfl⟩
      rw [← hw7]
      have HI7 : Hid (InR S0 wr (.slice a8 (j + 1) c8) (.slice (some ⟨w6.heap.size, 0, none⟩) 0 0) (pwT p m (j + 1)) (rwC p m j (m - (j + 1))) w7) := by
        show InR _ _ _ _ _ _ _
        rw [show rwC p m j (m - (j + 1)) = [] by simp [rwC], hw7]; exact HI6.out
      clear HI6 hw7
      obtain ⟨wo, hwo⟩ : ∃ x, x = wr := ⟨_, rfl⟩
      subst hwo
      go_loopw [14, 15] (fun u11 t wr => ∃ k : Nat, m ≤ k ∧ k ≤ p.n ∧ t = .int .i64 k ∧ InR S0 wo (.slice a8 (j + 1) c8) u11 (pwT p m (j + 1)) (rwC p m j (k - (j + 1))) wr) (fun _ t _ => p.n - (intOf t).toNat)
      case atStart => exact ⟨m, Nat.le_refl _, by omega, rfl, HI7.out⟩
      case round =>
        clear HI7 HK6
        obtain ⟨k, hmk, hkn, rfl, hI⟩ := hrel
        obtain ⟨_, a9, c9, h9⟩ := hI.forms
        subst h9
        have HKP := Lib.hid (HM.out.keep hI.chg)
        have HBW := Lib.hid (below_size HG9.out HKP.out.1)
        have X3 := Lib.hid (HB9.out.below HKP.out.1 HB9.out.lt)
        have HL2 : Hid ((rwC p m j (k - (j + 1))).length ≤ 1000) := by show _ ≤ _; have := rwC_len p m j (k - (j + 1)); omega
        obtain ⟨R1, hR1⟩ : ∃ R1, rwC p m j (k - (j + 1)) = R1 := ⟨_, rfl⟩
        have HR1 := Lib.hid hR1
        rw [hR1] at hI HL2 ⊢
        have HI := Lib.hid hI
        clear hR1 hI
        by_cases hlk : k < p.n
        · obtain ⟨a4, z4, k4, kc4⟩ := KC.out j (by omega)
          obtain ⟨b4, o4, rfl, a5, z5, kx, RX⟩ := kc4 (k - (j + 1)) (by omega)
          have hxl : (p.C j (j + 1 + (k - (j + 1)))).length = p.n := (hV.valid.cj j _ (by omega) (by omega)).len
          obtain ⟨b6, o6, rfl, _⟩ := RX.at (j := 0) (by omega)
          have hz5 : p.n ≤ z5 := by have := RX.formN (n := p.n) hxl; obtain ⟨a, c, he, h1, h2⟩ := this; simp only [Value.slice.injEq] at he; omega
          have hcz5 : ¬ z5 = m := by omega
          have hcz6 : (m : Int) ≤ (z5 : Int) := by omega
          have kx' : w.cell? ⟨b4, o4 + (k - j - 1), none⟩ = some (.slice (some ⟨b6, o6, none⟩) p.n z5) := by rw [show k - j - 1 = k - (j + 1) by omega]; exact kx
          have e4 := below_cells HBW.out _ _ k4
          have e5 := below_cells HBW.out _ _ kx'
          have d2 := X3.out.c2
          have hkn' : k - j - 1 < p.n - (j + 1) := by omega
          have hsx : Hid (Rd w (.slice (some ⟨b6, o6 + m, none⟩) (p.n - m) (z5 - m)) (dC p m j (k - (j + 1)))) := RX.suf m (by omega)
          have HDX : Hid ((dC p m j (k - (j + 1))).length = p.n - m) := by show _ = _; simp [dC, hxl]
          have HS2 : Hid (R1 ++ [dC p m j (k - (j + 1))] = rwC p m j (k + 1 - (j + 1))) := by
            show _ = _; rw [show k + 1 - (j + 1) = (k - (j + 1)) + 1 by omega, rwC_ge p (by omega), HR1.out]
          generalize dC p m j (k - (j + 1)) = X at *
          clear kx kx' RX hxl kc4 k4
          go_wp2_with fail
          refine (s_l01Own _ X _ (hsx.out.below HBW.out) (by rw [HDX.out]; omega)).mono ?_
          rintro e w5 ⟨u5, rfl, hI5, hB5⟩
          obtain ⟨a7, c7, rfl, _, _⟩ := hI5.rd.formN HDX.out
          obtain ⟨v6, w6, hr6, hIR⟩ := HI.out.row hB5 hI5 rfl (by have := HL2.out; omega)
          rw [HS2.out] at hIR
          have HF := Lib.hid hIR
          clear hB5 hI5 hIR e5 e4 d2
          go_wp2_with (at_builtin; refine wp_of_run _ rfl _ _ _ rfl _ _ rfl rfl _ _ hr6 ?_)
          go_roundw
          case rel => exact ⟨k + 1, by omega, by omega, by go_num, HF.out⟩
          case measure => simp [intOf]; omega
        · obtain rfl : k = p.n := by omega
          obtain ⟨a', c', w4, hr, hq1, hq2, hM4⟩ := HM.out.act HI.out rfl (by rw [acD_len]; omega)
          rw [acD_len] at hr hM4
          have HF : Hid (MP2 w9 (w3.heap.size + 1 + 1) (.int .i64 rx) (.int .i64 ry) (.slice a8 (j + 1) c8) (pwT p m (j + 1)) (acD p m (j + 1)) (w4.setCell ⟨w3.heap.size + 1 + 1, 2, none⟩ (.slice a' (j + 1) c'))) := by
            show MP2 _ _ _ _ _ _ _ _
            rw [acD_succ, HR1.out]; exact hM4
          have m2 := HKP.out.2.c2
          have lb := HKP.out.2.lt
          clear hM4
          go_wp2_with (at_builtin; refine wp_of_run _ rfl _ _ _ rfl _ _ rfl rfl _ _ hr ?_)
          go_roundw
          case rel => exact ⟨j + 1, by omega, by go_num, HF.out⟩
          case measure => simp [intOf]; omega
    · obtain rfl : j = m := by omega
      have HM1 : Hid (MP2 w9 (w3.heap.size + 1 + 1) (.int .i64 rx) (.int .i64 ry) (.slice a6 j c6) (pwT p j j ++ cjT p j 0) (acD p j j) wr) := by
        show MP2 _ _ _ _ _ _ _ _
        rw [show cjT p j 0 = [] from rfl, List.append_nil]; exact ⟨_, S0, HM.out, HO.out⟩
      clear HM HO HW HB9' X2
      go_wp2_with fail
      go_loopw [12, 16] (fun u t wr => ∃ i : Nat, i ≤ j ∧ t = .int .i64 i ∧ MP2 w9 (w3.heap.size + 1 + 1) (.int .i64 rx) (.int .i64 ry) u (pwT p j j ++ cjT p j i) (acD p j j) wr) (fun _ t _ => j - (intOf t).toNat)
      case atStart => exact ⟨0, Nat.zero_le _, rfl, HM1.out⟩
      case round =>
        clear HM1
        obtain ⟨i, hi, rfl, hM⟩ := hrel
        have hM' := hM
        obtain ⟨v', S0', hMB', hO'⟩ := hM'
        obtain ⟨a8, c8, h8, _, _⟩ := ON.form hO'
        have HM2 := Lib.hid hM
        by_cases hlt : i < j
        · have HTL : Hid ((pwT p j j ++ cjT p j i).length ≤ j + i * j) := by show _ ≤ _; rw [List.length_append, pwT_len]; have := cjT_len p j i; omega
          obtain ⟨TL, hTL⟩ : ∃ TL, pwT p j j ++ cjT p j i = TL := ⟨_, rfl⟩
          have HT0 := Lib.hid hTL
          have hij : i * j ≤ 36 := Nat.le_trans (Nat.mul_le_mul (by omega : i ≤ 6) (by omega : j ≤ 6)) (by omega)
          rw [hTL] at HM2 HTL h8
          subst h8
          have HM3 : Hid (MP2 w9 (w3.heap.size + 1 + 1) (.int .i64 rx) (.int .i64 ry) (.slice a8 TL.length c8) (TL ++ tlC p j i (i + 1 - (i + 1))) (acD p j j) wr) := by
            show MP2 _ _ _ _ _ _ _ _
            rw [Nat.sub_self, tlC_0, List.append_nil]; exact HM2.out
          clear hTL hMB' hO' hM HM2
          have hd1 : decide ((i : Int) < (j : Int)) = true := by simp; omega
          go_wp2_with fail
          clear hd1
          go_loopw [12, 17] (fun u8 t wr => ∃ k : Nat, i + 1 ≤ k ∧ k ≤ j ∧ t = .int .i64 k ∧ MP2 w9 (w3.heap.size + 1 + 1) (.int .i64 rx) (.int .i64 ry) u8 (TL ++ tlC p j i (k - (i + 1))) (acD p j j) wr) (fun _ t _ => j - (intOf t).toNat)
          case atStart => exact ⟨i + 1, Nat.le_refl _, by omega, by go_num, HM3.out⟩
          case round =>
            clear HM3
            obtain ⟨k, hik, hkj, rfl, v5, S5, hMB5, hO5⟩ := hrel
            obtain ⟨a9, c9, h9, _, _⟩ := ON.form hO5
            subst h9
            have HL1 : Hid ((TL ++ tlC p j i (k - (i + 1))).length ≤ 1000) := by show _ ≤ _; rw [List.length_append]; have := HTL.out; have := tlC_len p j i (k - (i + 1)); omega
            obtain ⟨T1, hT1⟩ : ∃ T1, TL ++ tlC p j i (k - (i + 1)) = T1 := ⟨_, rfl⟩
            have HT1 := Lib.hid hT1
            rw [hT1] at hO5 HL1 ⊢
            have HM5 := Lib.hid hMB5
            have HO5 := Lib.hid hO5
            have HKP := Lib.hid (hMB5.keep (ChgS.refl _ _))
            have HBW := Lib.hid (below_size HG9.out HKP.out.1)
            have X3 := Lib.hid (HB9.out.below HKP.out.1 HB9.out.lt)
            clear hT1 hMB5 hO5
            by_cases hlk : k < j
            · obtain ⟨a4, z4, k4, kc4⟩ := KC.out i (by omega)
              obtain ⟨b4, o4, rfl, a5, z5, kx, RX⟩ := kc4 (k - (i + 1)) (by omega)
              have hxl : (p.C i (i + 1 + (k - (i + 1)))).length = p.n := (hV.valid.cj i _ (by omega) (by omega)).len
              obtain ⟨b6, o6, rfl, _⟩ := RX.at (j := 0) (by omega)
              have hz5 : p.n ≤ z5 := by have := RX.formN (n := p.n) hxl; obtain ⟨a, c, he, h1, h2⟩ := this; simp only [Value.slice.injEq] at he; omega
              have hcz5 : ¬ z5 = j := by omega
              have hcz6 : (j : Int) ≤ (z5 : Int) := by omega
              have hfn' : (j : Int) ≤ (p.n : Int) := by omega
              have kx' : w.cell? ⟨b4, o4 + (k - i - 1), none⟩ = some (.slice (some ⟨b6, o6, none⟩) p.n z5) := by rw [show k - i - 1 = k - (i + 1) by omega]; exact kx
              have e4 := below_cells HBW.out _ _ k4
              have e5 := below_cells HBW.out _ _ kx'
              have d2 := X3.out.c2
              have hkn' : k - i - 1 < p.n - (i + 1) := by omega
              have hin' : (i : Int) < (p.n : Int) := by omega
              have hsx : Hid (Rd w (.slice (some ⟨b6, o6 + j, none⟩) (p.n - j) (z5 - j)) (dC p j i (k - (i + 1)))) := RX.suf j (by omega)
              have HDX : Hid ((dC p j i (k - (i + 1))).length = p.n - j) := by show _ = _; simp [dC, hxl]
              have HS2 : Hid (T1 ++ [dC p j i (k - (i + 1))] = TL ++ tlC p j i (k + 1 - (i + 1))) := by
                show _ = _; rw [show k + 1 - (i + 1) = (k - (i + 1)) + 1 by omega, tlC_lt p (by omega), ← List.append_assoc, HT1.out]
              generalize dC p j i (k - (i + 1)) = X at *
              clear kx kx' RX hxl kc4 k4
              go_wp2_with fail
              refine (s_l01Own _ X _ (hsx.out.below HBW.out) (by rw [HDX.out]; omega)).mono ?_
              rintro e w5 ⟨u5, rfl, hI5, hB5⟩
              obtain ⟨a7, c7, rfl, _, _⟩ := hI5.rd.formN HDX.out
              obtain ⟨v6, w6, hr6, hIR⟩ := (HM5.out.inr HO5.out).tail hB5 hI5 rfl (by have := HL1.out; omega)
              have hF := HM5.out.done hIR
              rw [HS2.out] at hF
              have HF := Lib.hid hF
              clear hB5 hI5 hIR hF e5 e4 d2
              go_wp2_with (at_builtin; refine wp_of_run _ rfl _ _ _ rfl _ _ rfl rfl _ _ hr6 ?_)
              go_roundw
              case rel => exact ⟨k + 1, by omega, by omega, by go_num, HF.out⟩
              case measure => simp [intOf]; omega
            · obtain rfl : k = j := by omega
              have HF : Hid (MP2 w9 (w3.heap.size + 1 + 1) (.int .i64 rx) (.int .i64 ry) (.slice a9 T1.length c9) (pwT p k k ++ cjT p k (i + 1)) (acD p k k) wr) := by
                show MP2 _ _ _ _ _ _ _ _
                rw [cjT_succ, ← List.append_assoc, HT0.out, ← tlC_top p (by omega), HT1.out]; exact ⟨_, _, HM5.out, HO5.out⟩
              go_wp2_with fail
              go_roundw
              case rel => exact ⟨i + 1, by omega, by go_num, HF.out⟩
              case measure => simp [intOf]; omega
        · obtain rfl : i = j := by omega
          obtain ⟨av', cv', hv'⟩ := hMB'.form
          rw [acD_len] at hv'
          subst hv'
          obtain ⟨TL, hTL⟩ : ∃ TL, pwT p i i ++ cjT p i i = TL := ⟨_, rfl⟩
          rw [hTL] at h8
          subst h8
          have hKP := hMB'.keep (ChgS.refl _ _)
          have hG := hKP.1
          have x9 := HX9.out.below hG HX9.out.lt
          have y9 := HY9.out.below hG HY9.out.lt
          have t9 := HT9.out.below hG HT9.out.lt
          have z9 := hKP.2
          obtain ⟨S2, hX7, h2, d, s1, s2, hB7, hb7⟩ := hMB'
          have HFIN : Hid (∀ wz, ChgS (fun k => k = w.heap.size + 1 ∨ k = w.heap.size + 1 + 1) wr wz → RetSec w (hdP p i i) (acD p i i) (pwT p i i ++ cjT p i i) wz (.slice f1 f2 f3) (.slice f4 f5 f6) (.slice f7 f8 f9) (.slice av' i cv') (.slice a8 TL.length c8)) := fun wz hz => by
            have hzs := hz.size
            have e9 := HS9.out
            have eg := hG.size
            have e2 := HSS3.out
            have ew := HG2.out.size
            refine ⟨win w2.heap.size w3.heap.size, S2, S0', OP.chg (OP.below (OP.below HOP.out HH9.out) (hG.mono (by omega))) hz ?_, local_O3.chg h2 hz ?_, local_O2.chg hO' hz ?_, ?_, ?_, ?_, ?_, ?_, ?_, ?_⟩
            · intro k hk hh; have := hk.1; rcases hh with h | h <;> omega
            · intro k hk hh; have := (s2 k hk).1; rcases hh with h | h <;> omega
            · intro k hk hh; have := (s1 k hk).1; rcases hh with h | h <;> omega
            · intro k hk hh; have := hk.2; have := (s2 k hh).1; omega
            · intro k hk hh; have := hk.2; have := (s1 k hh).1; omega
            · exact fun k hk hh => d k hk hh
            · intro k hk; exact ⟨by have := hk.1; omega, by have := hk.2; omega⟩
            · intro k hk; have := s2 k hk; exact ⟨by omega, by omega⟩
            · intro k hk; have := s1 k hk; exact ⟨by omega, by omega⟩
            · exact (below_size HG9.out hG).trans (hz.below (B := w.heap.size) (fun k hk => by rcases hk with h | h <;> omega) (by omega))
          have p0 := x9.c0
          have p1 := x9.c1
          have p2 := x9.c2
          have q0 := x9.fr 0
          have q1 := x9.fr 1
          have q2 := x9.fr 2
          have r0 := y9.c0
          have r1 := y9.c1
          have r2 := y9.c2
          have t0 := y9.fr 0
          have t1 := y9.fr 1
          have t2 := y9.fr 2
          have u0 := t9.c0
          have u1 := t9.c1
          have u2 := t9.c2
          have n0 := z9.c0
          have n1 := z9.c1
          have n2 := z9.c2
          have l1 := x9.lt
          have l2 := y9.lt
          have l3 := t9.lt
          have l4 := z9.lt
          have hss := HSS3.out
          have hne1 : w.heap.size + 1 ≠ w3.heap.size := by omega
          have hne2 : w.heap.size + 1 ≠ w3.heap.size + 1 + 1 := by omega
          have hne3 : w.heap.size + 1 + 1 ≠ w3.heap.size := by omega
          have hne4 : w.heap.size + 1 + 1 ≠ w3.heap.size + 1 + 1 := by omega
          clear hM HM2 hO' x9 y9 t9 z9 hX7 h2 d s1 s2 hB7 hb7 hG hKP hTL
          go_wp2_with fail
          go_region
          all_goals
            go_wp2_with fail
            refine bodyPost_ret (v := .tuple #[.agg #[.slice f1 f2 f3, .slice f4 f5 f6, .slice f7 f8 f9], .agg #[.int .i64 rx, .int .i64 ry, .slice av' i cv'], .slice a8 TL.length c8, .int .i64 0]) (by simp [results, Try.results33, go_sem, p0, p1, p2, r0, r1, r2]) rfl ⟨_, _, _, _, _, rfl, HFIN.out _ ?_⟩
            repeat (first | refine ChgS.put ?_ (by first | exact .inl rfl | exact .inr rfl) _ _ | refine ChgS.drewT ?_)
            exact (ChgS.refl _ _)
end Go.Proofs.Ytjnnjnhmecidmaa
