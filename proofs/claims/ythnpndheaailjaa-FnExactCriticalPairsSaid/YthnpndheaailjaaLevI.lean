/-
  The program's faults: levelFault, consistentFrom.
-/
import Derived.Test.YthnpndheaailjaaFau
namespace Go.Proofs.Ythnpndheaailjaa
set_option linter.unusedVariables false
set_option linter.unusedSimpArgs false
set_option maxRecDepth 100000
open Go.RowKit

--== slices.Equal, as a value
theorem f_EqualV (va vb : Value) (xs ys : List Int) (w : World) (b : Bool) (ha : Rd w va xs) (hb : Rd w vb ys) (h : decide (xs = ys) = b) :
    Calls Try.prog 116 #[va, vb] w (RetV w (.bool b)) := by
  subst h
  exact (f_Equal va vb xs ys w ha hb).mono fun e w' h => h.below
--== impl.levelFault
set_option maxHeartbeats 16000000 in
theorem i_levelFault {p : Pres} (hV : ValidP p) (i : Nat) (hin : i < p.n) (hG : GT p (i + 1)) (vp : Value) (w : World) (hp : PtrP w vp p) :
    Calls Try.prog 186 #[vp, .int .i64 i] w (RetV w (fvV p i)) := by
  have hn6 := hV.n6
  have HP := Lib.hid hp
  obtain ⟨pb, v1, v2, v3, rfl, c1, c2, c3, R1, R2, R3⟩ := hp
  obtain ⟨b1, o1, q1, rfl, k1⟩ := ord_at R1 (by omega)
  obtain ⟨b2, o2, q2, rfl, k2⟩ := pow_at hV R2 (by omega)
  obtain ⟨b3, o3, q3, rfl, kc⟩ := conj_at hV R3 hin
  have KC2 : Hid (∀ j, j < p.n → ∃ a z, w.cell? ⟨b3, o3 + j, none⟩ = some (.slice a (p.n - (j + 1)) z) ∧ ∀ k, j + 1 + k < p.n → ∃ b' o', a = some ⟨b', o', none⟩ ∧ ∃ a5 z5, w.cell? ⟨b', o' + k, none⟩ = some (.slice a5 p.n z5) ∧ Rd w (.slice a5 p.n z5) (p.C j (j + 1 + k))) := fun j hj => by
    obtain ⟨b', o', q', he, h⟩ := conj_at hV R3 hj
    cases he; exact h
  obtain ⟨a4, z4, k4, kc4⟩ := kc
  have K1 := Lib.hid k1
  have K2 := Lib.hid k2
  have K4 := Lib.hid kc4
  have K3 := Lib.hid k4
  have HG := Lib.hid hG
  have C1 := Lib.hid c1
  have C2 := Lib.hid c2
  have C3 := Lib.hid c3
  have C1' := c1
  have g1 := below_alloc w (Obj.cells #[.int .i64 0, .int .i64 0, .int .i64 0, .int .i64 0] 172)
  have f0 := Fx.new w
  have hlp := World.block_lt_of_cell? w _ c1
  clear k1 k2 kc4 hG k4 c1 c2 c3 R1 R2 R3
  go_enter Try.func186, Try.ntmps186
  go_wp2_with fail
  clear C1'
  go_loopw [7] (fun t wr => ∃ j : Nat, i < j ∧ j ≤ p.n ∧ t = .int .i64 j ∧ ok1 p i j ∧ Fx wr w.heap.size ∧ Below w.heap.size w wr) (fun t _ => p.n - (intOf t).toNat)
  case atStart => exact ⟨i + 1, by omega, by omega, by go_num, ok1_zero, f0, g1⟩
  case round =>
    clear f0 g1
    obtain ⟨j, hij, hjn, rfl, hok, hF, hB⟩ := hrel
    have HOK := Lib.hid hok
    clear hok
    have lf := hF.lt
    have d0 := below_cells hB _ _ C1.out
    have d1 := below_cells hB _ _ C2.out
    have d2 := below_cells hB _ _ C3.out
    by_cases hlt : j < p.n
    · obtain ⟨k, hk⟩ : ∃ k, j = i + 1 + k := ⟨j - i - 1, by omega⟩
      obtain ⟨b4, o4, rfl, a5, z5, c5, R5⟩ := K4.out k (by omega)
      obtain ⟨a6, z6, c6, R6⟩ := K2.out j hlt
      obtain ⟨r, hr, hr7⟩ : ∃ r : Nat, p.r j = (r : Int) ∧ r ≤ 7 := ⟨(p.r j).toNat, by have := hV.rk j hlt; omega, by have := hV.rk j hlt; omega⟩
      have c1 := K1.out j hlt
      rw [hr] at c1
      rw [← hk] at R5
      have VC := hV.valid.cj i j hij hlt
      have VP := (hV.valid.pow j hlt).mono (show i + 1 ≤ j + 1 by omega)
      have hk1 : j ≤ i + 1 + k := by omega
      have hk2 : i + 1 + k ≤ j := by omega
      have hkn : k < p.n - (i + 1) := by omega
      have e1 := below_cells hB _ _ K3.out
      have e2 := below_cells hB _ _ c5
      have e3 := below_cells hB _ _ c6
      have e4 := below_cells hB _ _ c1
      have KEEP1 : Hid (∀ wx, Below wr.heap.size wr wx → Below wr.heap.size wr wx ∧ wx.cell? ⟨pb, 0, none⟩ = some (Value.slice (some ⟨b1, o1, none⟩) p.n q1) ∧ wx.cell? ⟨pb, 1, none⟩ = some (Value.slice (some ⟨b2, o2, none⟩) p.n q2) ∧ wx.cell? ⟨pb, 2, none⟩ = some (Value.slice (some ⟨b3, o3, none⟩) p.n q3) ∧ wx.cell? ⟨b3, o3 + i, none⟩ = some (.slice (some ⟨b4, o4, none⟩) (p.n - (i + 1)) z4) ∧ wx.cell? ⟨b4, o4 + k, none⟩ = some (.slice a5 p.n z5) ∧ wx.cell? ⟨b1, o1 + j, none⟩ = some (.int .i64 (r : Int)) ∧ wx.cell? ⟨b2, o2 + j, none⟩ = some (.slice a6 p.n z6)) := fun wx hb =>
        ⟨hb, below_cells hb _ _ d0, below_cells hb _ _ d1, below_cells hb _ _ d2, below_cells hb _ _ e1, below_cells hb _ _ e2, below_cells hb _ _ e4, below_cells hb _ _ e3⟩
      have VX := HG.out.pw VC r
      have VY := VP.img hV.valid hin
      have HPOW : Hid (∀ wx, Below wr.heap.size wr wx → Calls Try.prog 192 #[.pointer (some ⟨pb, 0, none⟩), .slice a5 p.n z5, .int .i64 r] wx (RetInts wx (pw (p.at (i + 1)) p.zv (p.C i j) r))) := fun wx hb =>
        i_power _ _ p (i + 1) (p.C i j) r wx (HP.out.below (below_size hB hb)) hV HG.out (R5.below (below_size hB hb)) VC (by omega)
      have HIMG : Hid (∀ wx, Below wr.heap.size wr wx → Calls Try.prog 193 #[.pointer (some ⟨pb, 0, none⟩), .int .i64 i, .slice a6 p.n z6] wx (RetInts wx (p.img i (p.P j)))) := fun wx hb =>
        i_imageBy _ _ p i (p.P j) wx (HP.out.below (below_size hB hb)) hV HG.out hin (R6.below (below_size hB hb)) VP
      obtain ⟨fb, hfb⟩ : ∃ fb, f1 p i j = fb := ⟨_, rfl⟩
      have HSAME : Hid (∀ wx u v, Rd wx u (pw (p.at (i + 1)) p.zv (p.C i j) r) → Rd wx v (p.img i (p.P j)) → Calls Try.prog 116 #[u, v] wx (RetV wx (.bool (!fb)))) := fun wx u v h1 h2 =>
        f_EqualV u v _ _ wx _ h1 h2 (by rw [← hfb]; unfold f1; rw [hr, Int.toNat_natCast, Bool.not_not])
      have W2 : IntKind.i64.wrap ((j : Int) - i) = (k : Int) + 1 := by rw [IntWalk.i64_in _ (by omega)]; omega
      have W3 : IntKind.i64.wrap ((k : Int) + 1 - 1) = (k : Int) := by rw [IntWalk.i64_in _ (by omega)]; omega
      have W4 : IntKind.i64.wrap (k : Int) = (k : Int) := IntWalk.i64_in _ (by omega)
      have H1 : (k : Int) < ((p.n - (i + 1) : Nat) : Int) := by omega
      have H2 : (0 : Int) ≤ (k : Int) := by omega
      have H3 : (i : Int) < (p.n : Int) := by omega
      have H4 : (j : Int) < (p.n : Int) := by omega
      have HHr := Lib.hid hr
      have HHk := Lib.hid hk
      have HFB := Lib.hid hfb
      have HBH := Lib.hid hB
      clear hr hk e1 e2 e3 e4 c5 c6 c1 VX VY hfb d0 d1 d2
      go_wp2_with fail
      go_region_held3 (fun wx => Below wr.heap.size wr wx ∧ wx.cell? ⟨pb, 0, none⟩ = some (Value.slice (some ⟨b1, o1, none⟩) p.n q1) ∧ wx.cell? ⟨pb, 1, none⟩ = some (Value.slice (some ⟨b2, o2, none⟩) p.n q2) ∧ wx.cell? ⟨pb, 2, none⟩ = some (Value.slice (some ⟨b3, o3, none⟩) p.n q3) ∧ wx.cell? ⟨b3, o3 + i, none⟩ = some (.slice (some ⟨b4, o4, none⟩) (p.n - (i + 1)) z4) ∧ wx.cell? ⟨b4, o4 + k, none⟩ = some (.slice a5 p.n z5) ∧ wx.cell? ⟨b1, o1 + j, none⟩ = some (.int .i64 (r : Int)) ∧ wx.cell? ⟨b2, o2 + j, none⟩ = some (.slice a6 p.n z6))
        (first | exact KEEP1.out _ (Below.refl _ _).drew | exact KEEP1.out _ (below_size (And.left (by assumption)) (by assumption)))
        (first
          | ((go_at_call 192); (with_reducible refine (HPOW.out _ (And.left (by assumption))).mono ?_); (rintro e w2 ⟨u2, rfl, hI2, hB2⟩))
          | ((go_at_call 193); (with_reducible refine (HIMG.out _ (And.left (by assumption))).mono ?_); (rintro e w3 ⟨u3, rfl, hI3, hB3⟩))
          | ((go_at_call 116); (with_reducible refine (HSAME.out _ _ _ (hI2.rd.below hB3) hI3.rd).mono ?_); (rintro e w6 ⟨rfl, hB4⟩)))
      have hB7 : Below wr.heap.size wr w6 := And.left (by assumption)
      have hF6 := hF.below hB7 lf
      have hB8 := below_size HBH.out hB7
      clear hI2 hI3 hB2 hB3 hB4 KEEP1 HPOW HIMG HSAME hF hB lf hB7 W2 W3 W4 H1 H2 H3 H4
      cases fb with
      | true =>
        have HL := Lib.hid (fvV_ne (lvF_1 HOK.out hij hlt HFB.out) (by decide))
        have fc0 := hF6.c (o := 0) (by omega)
        have fc1 := hF6.c (o := 1) (by omega)
        have fc2 := hF6.c (o := 2) (by omega)
        have fc3 := hF6.c (o := 3) (by omega)
        have ff0 := hF6.fr 0
        have ff1 := hF6.fr 1
        have ff2 := hF6.fr 2
        have ff3 := hF6.fr 3
        have hW' := fset4 (b := w.heap.size) hB8 (.int .i64 1) (.int .i64 i) (.int .i64 j) (.int .i64 0)
        clear hB8 hF6
        go_wp2_with fail
        refine bodyPost_ret (v := .agg #[.int .i64 1, .int .i64 i, .int .i64 j, .int .i64 0]) (by simp [results, Try.results186, go_sem, fc0, fc1, fc2, fc3]) rfl ?_
        exact ⟨by rw [HL.out], hW'⟩
      | false =>
        have HOK2 := Lib.hid (ok1_succ HOK.out HFB.out)
        go_wp2_with fail
        go_roundw
        case rel => exact ⟨j + 1, by omega, by omega, by go_num, HOK2.out, hF6, hB8⟩
        case measure => simp [intOf]; omega
    · obtain rfl : j = p.n := by omega
      clear lf d0 d1 d2
      have HOK1 := HOK
      clear HOK
      go_wp2_with fail
      go_loopw [8] (fun t wr => ∃ j : Nat, i < j ∧ j ≤ p.n ∧ t = .int .i64 j ∧ ok2 p i j ∧ Fx wr w.heap.size ∧ Below w.heap.size w wr) (fun t _ => p.n - (intOf t).toNat)
      case atStart => exact ⟨i + 1, by omega, by omega, by go_num, ok2_zero, hF, hB⟩
      case round =>
        clear hF hB
        obtain ⟨j, hij, hjn, rfl, hok, hF, hB⟩ := hrel
        have HOK2 := Lib.hid hok
        clear hok
        by_cases hlt : j < p.n
        · obtain ⟨k, hk⟩ : ∃ k, j = i + 1 + k := ⟨j - i - 1, by omega⟩
          obtain ⟨b4, o4, rfl, a5, z5, c5, R5⟩ := K4.out k (by omega)
          rw [← hk] at R5
          have VC := hV.valid.cj i j hij hlt
          have hk1 : j ≤ i + 1 + k := by omega
          have hk2 : i + 1 + k ≤ j := by omega
          have hkn : k < p.n - (i + 1) := by omega
          obtain ⟨a8, z8, c8, kc8⟩ := KC2.out j hlt
          have K8 := Lib.hid kc8
          have C5 := Lib.hid c5
          have C8 := Lib.hid c8
          have hD : decide ((j : Int) < (p.n : Int)) = true := by simp; omega
          clear hk kc8 c5 c8
          go_wp2_with fail
          clear hD
          go_loopw [9] (fun t wr => ∃ l : Nat, j < l ∧ l ≤ p.n ∧ t = .int .i64 l ∧ ok2r p i j l ∧ Fx wr w.heap.size ∧ Below w.heap.size w wr) (fun t _ => p.n - (intOf t).toNat)
          case atStart => exact ⟨j + 1, by omega, by omega, by go_num, ok2r_zero, hF, hB⟩
          case round =>
            clear hF hB
            obtain ⟨l, hjl, hln, rfl, hok, hF, hB⟩ := hrel
            have HOKR := Lib.hid hok
            clear hok
            by_cases hll : l < p.n
            · obtain ⟨k', hk'⟩ : ∃ k', l = i + 1 + k' := ⟨l - i - 1, by omega⟩
              obtain ⟨k3, hk3⟩ : ∃ k3, l = j + 1 + k3 := ⟨l - j - 1, by omega⟩
              obtain ⟨b4', o4', he4, a6, z6, c6, R6⟩ := K4.out k' (by omega)
              cases he4
              obtain ⟨b9, o9, rfl, a7, z7, c7, R7⟩ := K8.out k3 (by omega)
              rw [← hk'] at R6
              rw [← hk3] at R7
              have VC' := hV.valid.cj i l (by omega) hll
              have VJ := (hV.valid.cj j l hjl hll).mono (show i + 1 ≤ j + 1 by omega)
              have VZ := VJ.img hV.valid hin
              have hk1' : l ≤ i + 1 + k' := by omega
              have hk2' : i + 1 + k' ≤ l := by omega
              have hk1'' : l ≤ j + 1 + k3 := by omega
              have hk2'' : j + 1 + k3 ≤ l := by omega
              have hkn' : k' < p.n - (i + 1) := by omega
              have hkn'' : k3 < p.n - (j + 1) := by omega
              have lf := hF.lt
              have e1 := below_cells hB _ _ K3.out
              have e2 := below_cells hB _ _ C5.out
              have e3 := below_cells hB _ _ c6
              have e4 := below_cells hB _ _ C8.out
              have e5 := below_cells hB _ _ c7
              have d0 := below_cells hB _ _ C1.out
              have d1 := below_cells hB _ _ C2.out
              have d2 := below_cells hB _ _ C3.out
              have KEEP1 : Hid (∀ wx, Below wr.heap.size wr wx → Below wr.heap.size wr wx ∧ wx.cell? ⟨pb, 0, none⟩ = some (Value.slice (some ⟨b1, o1, none⟩) p.n q1) ∧ wx.cell? ⟨pb, 1, none⟩ = some (Value.slice (some ⟨b2, o2, none⟩) p.n q2) ∧ wx.cell? ⟨pb, 2, none⟩ = some (Value.slice (some ⟨b3, o3, none⟩) p.n q3) ∧ wx.cell? ⟨b3, o3 + i, none⟩ = some (.slice (some ⟨b4, o4, none⟩) (p.n - (i + 1)) z4) ∧ wx.cell? ⟨b4, o4 + k, none⟩ = some (.slice a5 p.n z5) ∧ wx.cell? ⟨b4, o4 + k', none⟩ = some (.slice a6 p.n z6) ∧ wx.cell? ⟨b3, o3 + j, none⟩ = some (.slice (some ⟨b9, o9, none⟩) (p.n - (j + 1)) z8) ∧ wx.cell? ⟨b9, o9 + k3, none⟩ = some (.slice a7 p.n z7)) := fun wx hb =>
                ⟨hb, below_cells hb _ _ d0, below_cells hb _ _ d1, below_cells hb _ _ d2, below_cells hb _ _ e1, below_cells hb _ _ e2, below_cells hb _ _ e3, below_cells hb _ _ e4, below_cells hb _ _ e5⟩
              have HCNJ : Hid (∀ wx, Below wr.heap.size wr wx → Calls Try.prog 194 #[.pointer (some ⟨pb, 0, none⟩), .slice a6 p.n z6, .slice a5 p.n z5] wx (RetInts wx (p.at (i + 1) (p.inv (i + 1) (p.C i j)) (p.at (i + 1) (p.C i l) (p.C i j))))) := fun wx hb =>
                i_conjugate _ _ _ p (i + 1) (p.C i l) (p.C i j) wx (HP.out.below (below_size hB hb)) hV HG.out (R6.below (below_size hB hb)) (R5.below (below_size hB hb)) VC' VC
              have HIMG : Hid (∀ wx, Below wr.heap.size wr wx → Calls Try.prog 193 #[.pointer (some ⟨pb, 0, none⟩), .int .i64 i, .slice a7 p.n z7] wx (RetInts wx (p.img i (p.C j l)))) := fun wx hb =>
                i_imageBy _ _ p i (p.C j l) wx (HP.out.below (below_size hB hb)) hV HG.out hin (R7.below (below_size hB hb)) VJ
              obtain ⟨fb, hfb⟩ : ∃ fb, f2 p i j l = fb := ⟨_, rfl⟩
              have HSAME : Hid (∀ wx u v, Rd wx u (p.at (i + 1) (p.inv (i + 1) (p.C i j)) (p.at (i + 1) (p.C i l) (p.C i j))) → Rd wx v (p.img i (p.C j l)) → Calls Try.prog 116 #[u, v] wx (RetV wx (.bool (!fb)))) := fun wx u v h1 h2 =>
                f_EqualV u v _ _ wx _ h1 h2 (by rw [← hfb]; unfold f2; rw [Bool.not_not]; exact decide_eq_decide.2 (HG.out.cnj VC' VC VZ))
              have W2 : IntKind.i64.wrap ((j : Int) - i) = (k : Int) + 1 := by rw [IntWalk.i64_in _ (by omega)]; omega
              have W3 : IntKind.i64.wrap ((k : Int) + 1 - 1) = (k : Int) := by rw [IntWalk.i64_in _ (by omega)]; omega
              have W4 : IntKind.i64.wrap (k : Int) = (k : Int) := IntWalk.i64_in _ (by omega)
              have W5 : IntKind.i64.wrap ((l : Int) - i) = (k' : Int) + 1 := by rw [IntWalk.i64_in _ (by omega)]; omega
              have W6 : IntKind.i64.wrap ((k' : Int) + 1 - 1) = (k' : Int) := by rw [IntWalk.i64_in _ (by omega)]; omega
              have W7 : IntKind.i64.wrap (k' : Int) = (k' : Int) := IntWalk.i64_in _ (by omega)
              have W8 : IntKind.i64.wrap ((l : Int) - j) = (k3 : Int) + 1 := by rw [IntWalk.i64_in _ (by omega)]; omega
              have W9 : IntKind.i64.wrap ((k3 : Int) + 1 - 1) = (k3 : Int) := by rw [IntWalk.i64_in _ (by omega)]; omega
              have W0 : IntKind.i64.wrap (k3 : Int) = (k3 : Int) := IntWalk.i64_in _ (by omega)
              have H1 : (k : Int) < ((p.n - (i + 1) : Nat) : Int) := by omega
              have H2 : (k' : Int) < ((p.n - (i + 1) : Nat) : Int) := by omega
              have H3 : (i : Int) < (p.n : Int) := by omega
              have H4 : (j : Int) < (p.n : Int) := by omega
              have H5 : (k3 : Int) < ((p.n - (j + 1) : Nat) : Int) := by omega
              have HHk := Lib.hid hk'
              have HHk3 := Lib.hid hk3
              have HFB := Lib.hid hfb
              have HBH := Lib.hid hB
              clear hk' hk3 c6 c7 e1 e2 e3 e4 e5 d0 d1 d2 hfb
              go_wp2_with fail
              go_region_held3 (fun wx => Below wr.heap.size wr wx ∧ wx.cell? ⟨pb, 0, none⟩ = some (Value.slice (some ⟨b1, o1, none⟩) p.n q1) ∧ wx.cell? ⟨pb, 1, none⟩ = some (Value.slice (some ⟨b2, o2, none⟩) p.n q2) ∧ wx.cell? ⟨pb, 2, none⟩ = some (Value.slice (some ⟨b3, o3, none⟩) p.n q3) ∧ wx.cell? ⟨b3, o3 + i, none⟩ = some (.slice (some ⟨b4, o4, none⟩) (p.n - (i + 1)) z4) ∧ wx.cell? ⟨b4, o4 + k, none⟩ = some (.slice a5 p.n z5) ∧ wx.cell? ⟨b4, o4 + k', none⟩ = some (.slice a6 p.n z6) ∧ wx.cell? ⟨b3, o3 + j, none⟩ = some (.slice (some ⟨b9, o9, none⟩) (p.n - (j + 1)) z8) ∧ wx.cell? ⟨b9, o9 + k3, none⟩ = some (.slice a7 p.n z7))
                (first | exact KEEP1.out _ (Below.refl _ _).drew | exact KEEP1.out _ (below_size (And.left (by assumption)) (by assumption)))
                (first
                  | ((go_at_call 194); (with_reducible refine (HCNJ.out _ (And.left (by assumption))).mono ?_); (rintro e w2 ⟨u2, rfl, hI2, hB2⟩))
                  | ((go_at_call 193); (with_reducible refine (HIMG.out _ (And.left (by assumption))).mono ?_); (rintro e w3 ⟨u3, rfl, hI3, hB3⟩))
                  | ((go_at_call 116); (with_reducible refine (HSAME.out _ _ _ (hI2.rd.below hB3) hI3.rd).mono ?_); (rintro e w6 ⟨rfl, hB4⟩)))
              have hB7 : Below wr.heap.size wr w6 := And.left (by assumption)
              have hF6 := hF.below hB7 lf
              have hB8 := below_size HBH.out hB7
              clear hI2 hI3 hB2 hB3 hB4 KEEP1 HCNJ HIMG HSAME hF hB lf hB7 W2 W3 W4 W5 W6 W7 W8 W9 W0 H1 H2 H3 H4 H5
              cases fb with
              | true =>
                have HL := Lib.hid (fvV_ne (lvF_2 HOK1.out HOK2.out hij HOKR.out hjl hll HFB.out) (by decide))
                have fc0 := hF6.c (o := 0) (by omega)
                have fc1 := hF6.c (o := 1) (by omega)
                have fc2 := hF6.c (o := 2) (by omega)
                have fc3 := hF6.c (o := 3) (by omega)
                have ff0 := hF6.fr 0
                have ff1 := hF6.fr 1
                have ff2 := hF6.fr 2
                have ff3 := hF6.fr 3
                have hW' := fset4 (b := w.heap.size) hB8 (.int .i64 2) (.int .i64 i) (.int .i64 j) (.int .i64 l)
                clear hB8 hF6
                go_wp2_with fail
                refine bodyPost_ret (v := .agg #[.int .i64 2, .int .i64 i, .int .i64 j, .int .i64 l]) (by simp [results, Try.results186, go_sem, fc0, fc1, fc2, fc3]) rfl ?_
                exact ⟨by rw [HL.out], hW'⟩
              | false =>
                have HOKR2 := Lib.hid (ok2r_succ HOKR.out HFB.out)
                go_wp2_with fail
                go_roundw
                case rel => exact ⟨l + 1, by omega, by omega, by go_num, HOKR2.out, hF6, hB8⟩
                case measure => simp [intOf]; omega
            · obtain rfl : l = p.n := by omega
              have HOK3 := Lib.hid (ok2_succ HOK2.out HOKR.out)
              go_wp2_with fail
              go_roundw
              case rel => exact ⟨j + 1, by omega, by omega, by go_num, HOK3.out, hF, hB⟩
              case measure => simp [intOf]; omega
        · obtain rfl : j = p.n := by omega
          have lf := hF.lt
          have d0 := below_cells hB _ _ C1.out
          have d1 := below_cells hB _ _ C2.out
          have d2 := below_cells hB _ _ C3.out
          obtain ⟨a5, z5, c5, R5⟩ := K2.out i hin
          have e1 := below_cells hB _ _ c5
          have VW := hV.valid.pow i hin
          go_wp2_with fail
          refine (i_imageBy _ _ p i (p.P i) wr (HP.out.below hB) hV HG.out hin (R5.below hB) VW).mono ?_
          rintro e w2 ⟨u2, rfl, hI2, hB2⟩
          have hF2 := hF.below hB2 lf
          have hB3 := below_size hB hB2
          obtain ⟨fb, hfb⟩ : ∃ fb, f3 p i = fb := ⟨_, rfl⟩
          have HFB := Lib.hid hfb
          have HSAME : Hid (∀ wx u v, Rd wx u (p.img i (p.P i)) → Rd wx v (p.P i) → Calls Try.prog 116 #[u, v] wx (RetV wx (.bool (!fb)))) := fun wx u v h1 h2 =>
            f_EqualV u v _ _ wx _ h1 h2 (by rw [← hfb]; unfold f3; rw [Bool.not_not])
          have HR2 := Lib.hid hI2.rd
          clear hI2 hB2 hF hB e1 c5 hfb lf d0 d1 d2
          go_wp2_with fail
          refine (HSAME.out _ _ _ HR2.out (R5.below hB3)).mono ?_
          rintro e w4 ⟨rfl, hB4⟩
          have hF6 := hF2.below hB4 hF2.lt
          have hB8 := below_size hB3 hB4
          clear HSAME HR2 hB4 hF2 hB3
          cases fb with
          | true =>
            have HL := Lib.hid (fvV_ne (lvF_3 HOK1.out HOK2.out HFB.out) (by decide))
            have fc0 := hF6.c (o := 0) (by omega)
            have fc1 := hF6.c (o := 1) (by omega)
            have fc2 := hF6.c (o := 2) (by omega)
            have fc3 := hF6.c (o := 3) (by omega)
            have ff0 := hF6.fr 0
            have ff1 := hF6.fr 1
            have ff2 := hF6.fr 2
            have ff3 := hF6.fr 3
            have hW' := fset4 (b := w.heap.size) hB8 (.int .i64 3) (.int .i64 i) (.int .i64 0) (.int .i64 0)
            clear hB8 hF6
            go_wp2_with fail
            refine bodyPost_ret (v := .agg #[.int .i64 3, .int .i64 i, .int .i64 0, .int .i64 0]) (by simp [results, Try.results186, go_sem, fc0, fc1, fc2, fc3]) rfl ?_
            exact ⟨by rw [HL.out], hW'⟩
          | false =>
            have HF3 := HFB
            clear HFB
            obtain ⟨r, hr, hr7⟩ : ∃ r : Nat, p.r i = (r : Int) ∧ r ≤ 7 := ⟨(p.r i).toNat, by have := hV.rk i hin; omega, by have := hV.rk i hin; omega⟩
            have c1 := K1.out i hin
            rw [hr] at c1
            have CR := Lib.hid c1
            have HRR := Lib.hid hr
            clear hr c1
            go_wp2_with fail
            go_loopw [11] (fun t wr => ∃ j : Nat, i < j ∧ j ≤ p.n ∧ t = .int .i64 j ∧ ok4 p i j ∧ Fx wr w.heap.size ∧ Below w.heap.size w wr) (fun t _ => p.n - (intOf t).toNat)
            case atStart => exact ⟨i + 1, by omega, by omega, by go_num, ok4_zero, hF6, hB8⟩
            case round =>
              clear hF6 hB8
              obtain ⟨j, hij, hjn, rfl, hok, hF, hB⟩ := hrel
              have HOK4 := Lib.hid hok
              clear hok
              by_cases hlt : j < p.n
              · have hD : decide ((j : Int) < (p.n : Int)) = true := by simp; omega
                have VU := VI.uv hV.valid (show i + 1 ≤ j by omega) hlt
                go_wp2_with fail
                refine (i_unitVector p.n j _ hlt (by omega)).mono ?_
                rintro e w2 ⟨u2, rfl, hI2, hB2⟩
                have hF2 := hF.below hB2 hF.lt
                have hB3 := below_size hB hB2
                have hR2 : Rd w2 u2 (p.uv j) := hI2.rd
                obtain ⟨a7, z7, rfl, _, _⟩ := hR2.formN VU.len
                have e1 := below_cells hB3 _ _ CR.out
                have d0 := below_cells hB3 _ _ C1.out
                clear hI2 hB2 hF hB
                go_wp2_with fail
                clear hD e1 d0
                go_loopw [12, 160] (fun u t wr => ∃ l : Nat, l ≤ r ∧ t = .int .i64 l ∧ Rd wr u (itf (p.img i) l (p.uv j)) ∧ Fx wr w.heap.size ∧ Below w.heap.size w wr) (fun _ t _ => r - (intOf t).toNat)
                case atStart => exact ⟨0, Nat.zero_le _, rfl, hR2, hF2, hB3⟩
                case round =>
                  clear hR2 hF2 hB3
                  obtain ⟨l, hlr, rfl, hR, hF, hB⟩ := hrel
                  have VL := VU.iimg hV.valid hin l
                  obtain ⟨a8, z8, rfl, _, _⟩ := hR.formN VL.len
                  have lf := hF.lt
                  by_cases hll : l < r
                  · go_wp2_with fail
                    refine (i_imageBy _ _ p i _ wr (HP.out.below hB) hV HG.out hin hR VL).mono ?_
                    rintro e w4 ⟨u4, rfl, hI4, hB4⟩
                    have hF4 := hF.below hB4 lf
                    have hB5 := below_size hB hB4
                    have hR4 := hI4.rd
                    clear hI4 hB4 hF hB hR
                    go_wp2_with fail
                    go_roundw
                    case rel => exact ⟨l + 1, by omega, by go_num, hR4, hF4, hB5⟩
                    case measure => simp [intOf]; omega
                  · obtain rfl : l = r := by omega
                    obtain ⟨fb, hfb⟩ : ∃ fb, f4 p i j = fb := ⟨_, rfl⟩
                    have HSAME : Hid (∀ wx u v, Rd wx u (itf (p.img i) l (p.uv j)) → Rd wx v (p.at (i + 1) (p.inv (i + 1) (p.P i)) (p.at (i + 1) (p.uv j) (p.P i))) → Calls Try.prog 116 #[u, v] wx (RetV wx (.bool (!fb)))) := fun wx u v h1 h2 =>
                      f_EqualV u v _ _ wx _ h1 h2 (by
                        rw [← hfb]; unfold f4; rw [Bool.not_not, HRR.out, Int.toNat_natCast]
                        refine decide_eq_decide.2 ?_
                        rw [eq_comm, HG.out.cnj VU VW VL, eq_comm])
                    have HFB := Lib.hid hfb
                    have HRX := Lib.hid hR
                    clear hfb hR
                    go_wp2_with fail
                    refine (i_unitVector p.n j _ hlt (by omega)).mono ?_
                    rintro e w4 ⟨u4, rfl, hI4, hB4⟩
                    have hF4 := hF.below hB4 lf
                    have hB5 := below_size hB hB4
                    have hR4 : Rd w4 u4 (p.uv j) := hI4.rd
                    have hRX4 := HRX.out.below hB4
                    clear hI4 hB4 hF hB HRX
                    go_wp2_with fail
                    refine (i_conjugate _ _ _ p (i + 1) (p.uv j) (p.P i) _ (HP.out.below hB5) hV HG.out hR4 (R5.below hB5) VU VW).mono ?_
                    rintro e w5 ⟨u5, rfl, hI5, hB6⟩
                    have hF5 := hF4.below hB6 hF4.lt
                    have hB7 := below_size hB5 hB6
                    have hRX5 := hRX4.below hB6
                    have hR5 := Lib.hid hI5.rd
                    clear hI5 hB6 hF4 hB5 hRX4 hR4
                    go_wp2_with fail
                    refine (HSAME.out _ _ _ hRX5 hR5.out).mono ?_
                    rintro e w6 ⟨rfl, hB9⟩
                    have hF6 := hF5.below hB9 hF5.lt
                    have hB8 := below_size hB7 hB9
                    clear HSAME hB9 hF5 hB7 hRX5 hR5
                    cases fb with
                    | true =>
                      have HL := Lib.hid (fvV_ne (lvF_4 HOK1.out HOK2.out HF3.out HOK4.out hij hlt HFB.out) (by decide))
                      have fc0 := hF6.c (o := 0) (by omega)
                      have fc1 := hF6.c (o := 1) (by omega)
                      have fc2 := hF6.c (o := 2) (by omega)
                      have fc3 := hF6.c (o := 3) (by omega)
                      have ff0 := hF6.fr 0
                      have ff1 := hF6.fr 1
                      have ff2 := hF6.fr 2
                      have ff3 := hF6.fr 3
                      have hW' := fset4 (b := w.heap.size) hB8 (.int .i64 4) (.int .i64 i) (.int .i64 j) (.int .i64 0)
                      clear hB8 hF6
                      go_wp2_with fail
                      refine bodyPost_ret (v := .agg #[.int .i64 4, .int .i64 i, .int .i64 j, .int .i64 0]) (by simp [results, Try.results186, go_sem, fc0, fc1, fc2, fc3]) rfl ?_
                      exact ⟨by rw [HL.out], hW'⟩
                    | false =>
                      have HOK5 := Lib.hid (ok4_succ HOK4.out HFB.out)
                      go_wp2_with fail
                      go_roundw
                      case rel => exact ⟨j + 1, by omega, by omega, by go_num, HOK5.out, hF6, hB8⟩
                      case measure => simp [intOf]; omega
              · obtain rfl : j = p.n := by omega
                have HL := Lib.hid (fvV_zero (lvF_0 HOK1.out HOK2.out HF3.out HOK4.out))
                have fc0 := hF.c (o := 0) (by omega)
                have fc1 := hF.c (o := 1) (by omega)
                have fc2 := hF.c (o := 2) (by omega)
                have fc3 := hF.c (o := 3) (by omega)
                have ff0 := hF.fr 0
                have ff1 := hF.fr 1
                have ff2 := hF.fr 2
                have ff3 := hF.fr 3
                have hW' := fset4 (b := w.heap.size) hB (.int .i64 0) (.int .i64 0) (.int .i64 0) (.int .i64 0)
                clear hB hF
                go_wp2_with fail
                refine bodyPost_ret (v := .agg #[.int .i64 0, .int .i64 0, .int .i64 0, .int .i64 0]) (by simp [results, Try.results186, go_sem, fc0, fc1, fc2, fc3]) rfl ?_
                exact ⟨by rw [HL.out], hW'⟩
end Go.Proofs.Ythnpndheaailjaa
