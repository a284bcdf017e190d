/-
  The head of a presentation: the walk of headOf.
-/
import Derived.Test.YtjefjhbnkcokhaaHep
import Derived.Test.YtjefjhbnkcokhaaGro
import Derived.Test.YtjefjhbnkcokhaaRow
import Derived.Test.YtjefjhbnkcokhaaCut
import Derived.Deep.DeepCutAuto
import Derived.Deep.DrawnRows
namespace Go.Proofs.Ytjefjhbnkcokhaa
set_option linter.unusedVariables false
set_option linter.unusedSimpArgs false
set_option maxRecDepth 100000
open Go.RowKit
attribute [local go_sem ↓] Go.wp_at_zero Go.wp_at_succ

--== impl.headOf
set_option maxHeartbeats 8000000 in
theorem i_headOf {p : Pres} (hV : ValidP p) (f : Nat) (hn : 0 < p.n) (hf : f ≤ p.n) (vp : Value) (w : World) (hp : PtrP w vp p) :
    Calls Try.prog 93 #[vp, .int .i64 f] w (RetP w (hdP p f f)) := by
  have hn6 := hV.n6
  obtain ⟨pb, v1, v2, v3, rfl, c1, c2, c3, R1, R2, R3⟩ := hp
  obtain ⟨bo, oo, qo, rfl, hOA⟩ := ord_at R1 hn
  obtain ⟨bp, op, qp, rfl, hPA⟩ := pow_at hV R2 hn
  obtain ⟨p3, q3, rfl, _, _⟩ := R3.formN hV.cl
  have HR3 := Lib.hid R3
  have C1 := Lib.hid c1
  have C2 := Lib.hid c2
  have C3 := Lib.hid c3
  have hqo : p.n ≤ qo := by
    obtain ⟨a, c, he, h1, h2⟩ := R1.formN (n := p.n) rfl
    simp only [Value.slice.injEq] at he
    omega
  have hcf : ¬ qo = 0 := by omega
  have hcf2 : (f : Int) ≤ (qo : Int) := by omega
  have hpb := World.block_lt_of_cell? w _ c1
  have g0 := below_alloc w (Obj.cells #[Value.slice none 0 0, Value.slice none 0 0, Value.slice none 0 0] 28)
  have x0 := Bx.new w (Value.slice none 0 0) (Value.slice none 0 0) (Value.slice none 0 0)
  have hsuf : Hid (Rd w (.slice (some ⟨bo, oo, none⟩) f qo) (p.orders.take f)) := R1.preL f hf
  have hol0 : Hid ((p.orders.take f).length = f) := by show _ = _; have : p.orders.length = p.n := rfl; rw [List.length_take]; omega
  have hol : (p.orders.take f).length ≤ 1000000 := by rw [hol0.out]; omega
  have e1 := below_cells g0 _ _ c1
  have HPA := Lib.hid hPA
  clear c1 c2 c3 R1 R2 R3 hPA
  go_enter Try.func93, Try.ntmps93
  go_wp2_with fail
  refine (f_Clone _ (p.orders.take f) _ (hsuf.out.below g0) hol).mono ?_
  rintro e w1 ⟨u1, rfl, hI, hB⟩
  have z1 : w.heap.size < w1.heap.size := by have := hB.size; simp at this; omega
  have g1 := below_size g0 hB
  have x1 := x0.below hB (by simp)
  have j1 := hI.o1
  obtain ⟨a1, q1, rfl, _, _⟩ := hI.rd.formN hol0.out
  clear hI hB e1
  go_wp2_with fail
  have I0 : BInv w w.heap.size w1.heap.size (hdP p f 0) (w1.alloc (Obj.cells #[Value.slice a1 f q1, Value.slice none 0 0, Value.slice none 0 0] 28)) :=
    ⟨_, _, _, x1.old _, Bx.new w1 _ _ _, OP.sub (OP.nil (local_O1.below j1 (below_alloc _ _))) (fun k _ hk => ⟨by have := hk.1; simp at this; omega, by have := hk.1; simp at this; omega, by have := hk.2; omega⟩), g1.alloc (by omega) _⟩
  clear x0 x1 j1 g0 g1
  go_loopw [6, 19] (fun _ i wr => ∃ j : Nat, j ≤ f ∧ i = .int .i64 j ∧ BInv w w.heap.size w1.heap.size (hdP p f j) wr) (fun _ i _ => f - (intOf i).toNat)
  case atStart => exact ⟨0, Nat.zero_le _, rfl, I0⟩
  case round =>
    clear I0
    obtain ⟨j, hj, rfl, hI⟩ := hrel
    obtain ⟨a1', c1', a2, c2, a3, c3, hBO⟩ := hI.open (hdP_pl p f j) (hdP_cl p f j)
    have e1 := hdP_ol p hf j
    have l2 := hBO.x2.lt
    have l4 := hBO.x4.lt
    have m0 := hBO.x4.c0
    have m1 := hBO.x4.c1
    have m2 := hBO.x4.c2
    have hW := hBO.be
    have d0 := below_cells hW _ _ C1.out
    have d1 := below_cells hW _ _ C2.out
    have d2 := below_cells hW _ _ C3.out
    rw [e1] at m0
    have HB := Lib.hid hBO
    have HW := Lib.hid hW
    clear e1 hBO hI hW
    by_cases hlt : j < f
    · have hkn : j < p.n := by omega
      obtain ⟨az, zz, hcz, hrz⟩ := HPA.out j hkn
      have ez := below_cells HW.out _ _ hcz
      have hpk : (p.P j).length = p.n := (hV.valid.pow j hkn).len
      obtain ⟨bz, oz, rfl, _⟩ := hrz.at (j := 0) (by omega)
      have hkn' : (j : Int) < (p.n : Int) := by omega
      have hfn' : (f : Int) ≤ (p.n : Int) := by omega
      have hzz : p.n ≤ zz := by have := hrz.formN (n := p.n) hpk; obtain ⟨a, c, he, h1, h2⟩ := this; simp only [Value.slice.injEq] at he; omega
      have hcz2 : ¬ zz = 0 := by omega
      have hcz3 : (f : Int) ≤ (zz : Int) := by omega
      have hsz : Hid (Rd w (.slice (some ⟨bz, oz, none⟩) f zz) ((p.P j).take f)) := hrz.preL f hf
      have HDL : Hid (((p.P j).take f).length = f) := by show _ = _; rw [List.length_take]; omega
      clear hcz hrz hpk
      go_upto_region 5 with (fail)
      go_cut [] (fun wx => BInv w w.heap.size w1.heap.size ⟨(hdP p f j).orders, (hdP p f j).powers ++ [(p.P j).take f], (hdP p f j).conj⟩ wx)
      case first =>
        go_region_law (first
          | (go_simp; go_at_call 77; go_must (refine (f_Clone _ ((p.P j).take f) _ (hsz.out.below HW.out.drew) (by rw [HDL.out]; omega)).mono ?_); rintro e w3 ⟨u3, rfl, hI3, hB3⟩; obtain ⟨a9, c9, rfl, _, _⟩ := hI3.rd.formN HDL.out; have hB4 := below_size (Below.refl _ _).drew hB3; obtain ⟨a', c', w4, hr, hq1, hq2, hq3⟩ := HB.out.grow_pow (Nat.le_refl _) (by omega) (by omega) 23 hB4 hI3 rfl (by omega); have hm1 := (HB.out.below hB4).x4.c1; have hl4 := (HB.out.below hB4).x4.lt; clear hB4 hI3 hB3)
          | (refine step_of_run rfl (.tmp 23) (.tmp 34) 23 rfl _ _ (by simp [Act.eval, Act.put]) (by simp [Act.eval, Act.put]) _ _ hr ?_))
        all_goals (go_wp2_with fail; go_meet; exact hq3)
      case rest =>
        have hI := hcut
        obtain ⟨a1'', c1'', a2', c2', a3', c3', hBO⟩ := hI.open (n2 := j + 1) (n3 := j) (by simp [hdP_pl]) (hdP_cl p f j)
        have l4' := hBO.x4.lt
        have d2' := below_cells hBO.be _ _ C3.out
        have d0' := below_cells hBO.be _ _ C1.out
        obtain ⟨b3, o3, q3', he3, kc⟩ := conj_at hV HR3.out hkn
        simp only [Value.slice.injEq] at he3
        obtain ⟨rfl, _, rfl⟩ := he3
        obtain ⟨a4, z4, k4, kc4⟩ := kc
        have hz4 : p.n - (j + 1) ≤ z4 := conj_cap hV HR3.out hkn k4
        have k4' := below_cells hBO.be _ _ k4
        have KC := Lib.hid kc4
        have HB5 := Lib.hid hBO
        have HW5 := Lib.hid hBO.be
        have hw1 : (j : Int) + 1 ≤ (f : Int) := by omega
        have HSH : (0 < z4 ∧ ∃ b4 o4, a4 = some ⟨b4, o4, none⟩) ∨ (f - (j + 1) = 0 ∧ z4 = 0) ∨ (f - (j + 1) = 0 ∧ 0 < z4) := by
          by_cases hz : 0 < p.n - (j + 1)
          · obtain ⟨b4, o4, rfl, _⟩ := kc4 0 (by omega)
            exact .inl ⟨by omega, b4, o4, rfl⟩
          · by_cases hz0 : z4 = 0
            · exact .inr (.inl ⟨by omega, hz0⟩)
            · exact .inr (.inr ⟨by omega, by omega⟩)
        clear hI hcut hBO kc4 k4 HB m0 m1 m2 d0 d1 d2 ez hsz HDL l2 l4
        rcases HSH with ⟨hz0, b4, o4, rfl⟩ | ⟨hz1, rfl⟩ | ⟨hz1, hz0⟩
        all_goals
          first | (have hz5 : ¬ z4 = 0 := by omega) | skip
          go_wp2_with fail
          go_loopw [7, 50] (fun u t wr2 => ∃ m : Nat, m ≤ f - 1 - j ∧ t = .int .i64 m ∧ O2 wr2 (win wc.heap.size wr2.heap.size) u (hdR p f j m) ∧ Below wc.heap.size wc wr2) (fun _ t _ => (f - 1 - j) - (intOf t).toNat)
          case atStart => exact ⟨0, Nat.zero_le _, rfl, local_O2.nil _ _, Below.refl _ _⟩
          case round =>
            obtain ⟨m, hm, rfl, hO, hB⟩ := hrel
            obtain ⟨a6, c6, rfl, _, _⟩ := hO.formN (hdR_len p f j m)
            have HLn := Lib.hid (hdR_len p f j m)
            have hBW := below_size HW5.out hB
            by_cases hmk : m < f - 1 - j
            · first
                | (exfalso; omega)
                | (have HS := Lib.hid (hdR_succ p f j m)
                   obtain ⟨_, _, he4, a5, z5, kx, RX⟩ := KC.out m (by omega)
                   cases he4
                   have hxl : (p.C j (j + 1 + m)).length = p.n := (hV.valid.cj j (j + 1 + m) (by omega) (by omega)).len
                   obtain ⟨b6, o6, rfl, _⟩ := RX.at (j := 0) (by omega)
                   have hz5 : p.n ≤ z5 := by have := RX.formN (n := p.n) hxl; obtain ⟨a, c, he, h1, h2⟩ := this; simp only [Value.slice.injEq] at he; omega
                   have hcz5 : ¬ z5 = 0 := by omega
                   have hcz6 : (f : Int) ≤ (z5 : Int) := by omega
                   have e5 := below_cells hBW _ _ kx
                   have hsx : Hid (Rd w (.slice (some ⟨b6, o6, none⟩) f z5) ((p.C j (j + 1 + m)).take f)) := RX.preL f hf
                   have HDX : Hid (((p.C j (j + 1 + m)).take f).length = f) := by show _ = _; rw [List.length_take]; omega
                   generalize hdR p f j m = R at *
                   clear kx RX hxl
                   go_wp2_with fail
                   refine (f_Clone _ ((p.C j (j + 1 + m)).take f) _ (hsx.out.below hBW) (by rw [HDX.out]; omega)).mono ?_
                   rintro e w5 ⟨u5, rfl, hI5, hB5⟩
                   obtain ⟨a7, c7, rfl, _, _⟩ := hI5.rd.formN HDX.out
                   obtain ⟨v6, w6, hr6, hO6, hB6⟩ := step_rows hO hB.size hI5 rfl hB5 (by rw [HLn.out]; omega)
                   have hB7 := (hB.trans (hB5.mono hB.size)).trans hB6
                   clear hO hB hI5 hB5 hB6 e5 hBW
                   go_wp2_with (at_builtin; refine wp_of_run _ rfl _ _ _ rfl _ _ rfl rfl _ _ hr6 ?_)
                   go_roundw
                   case rel => exact ⟨m + 1, by omega, by go_num, by rw [HS.out]; exact hO6, hB7⟩
                   case measure => simp [intOf]; omega)
            · obtain rfl : m = f - 1 - j := by omega
              obtain ⟨a', c', w4, hr, hq0, hq1, hq2, hq3⟩ := HB5.out.grow_conj (Nat.le_refl _) (by omega) (by omega) 24 hB hO rfl (by omega)
              have hl9 := (HB5.out.below hB).x4.lt
              have HFIN : Hid (BInv w w.heap.size w1.heap.size (hdP p f (j + 1)) (w4.setCell ⟨w1.heap.size, 2, none⟩ (.slice a' (j + 1) c'))) := by show BInv _ _ _ _ _; rw [hdP_succ, show f - (j + 1) = f - 1 - j by omega]; exact hq3
              clear hO hB hBW hq3
              go_wp2_with (at_builtin; refine wp_of_run _ rfl _ _ _ rfl _ _ rfl rfl _ _ hr ?_)
              go_roundw
              case rel => exact ⟨j + 1, by omega, by go_num, HFIN.out⟩
              case measure => simp [intOf]; omega
    · obtain rfl : j = f := by omega
      have p0 := HB.out.x2.c0
      have p1 := HB.out.x2.c1
      have p2 := HB.out.x2.c2
      have q0 := HB.out.x2.fr 0
      have q1' := HB.out.x2.fr 1
      have q2 := HB.out.x2.fr 2
      have hfin := HB.out.out (Nat.le_refl _)
      rw [hdP_ol p hf] at hfin
      obtain ⟨hP', hW'⟩ := hfin
      go_wp2_with fail
      refine bodyPost_ret (v := .agg #[Value.slice a1' j c1', Value.slice a2 j c2, Value.slice a3 j c3]) (by simp [results, Try.results93, go_sem, p0, p1, p2]) rfl ⟨_, _, _, rfl, hP', hW'⟩
end Go.Proofs.Ytjefjhbnkcokhaa
