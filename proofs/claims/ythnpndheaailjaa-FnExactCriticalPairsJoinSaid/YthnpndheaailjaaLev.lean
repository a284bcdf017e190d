/-
  The reference's powers and levels: l01Same, l08Repeat, l08Level.
-/
import Derived.Test.YthnpndheaailjaaRef
namespace Go.Proofs.Ythnpndheaailjaa
set_option linter.unusedVariables false
set_option linter.unusedSimpArgs false
set_option maxRecDepth 100000
open Go.RowKit

--== spec.l08Repeat
theorem rep_step (m o k K : Nat) (h : o + m * k = K) (hk : k % 2 = 1) : o + m + (m + m) * (k / 2) = K := by
  have e : k = 2 * (k / 2) + 1 := by omega
  have e2 : m * k = m * (2 * (k / 2) + 1) := by rw [← e]
  rw [Nat.mul_add, Nat.mul_one, ← Nat.mul_assoc, Nat.mul_comm m 2, Nat.two_mul] at e2
  omega
theorem rep_step0 (m o k K : Nat) (h : o + m * k = K) (hk : k % 2 = 0) : o + (m + m) * (k / 2) = K := by
  have e : k = 2 * (k / 2) := by omega
  have e2 : m * k = m * (2 * (k / 2)) := by rw [← e]
  rw [← Nat.mul_assoc, Nat.mul_comm m 2, Nat.two_mul] at e2
  omega
set_option maxHeartbeats 2000000 in
theorem s_l08Repeat {p : Pres} (hV : ValidP p) (i : Nat) (hG : GT p i) (x : List Int) (K : Nat) (v1 v2 v3 vx : Value) (w : World) (hK : K ≤ 4611686018427387904) (hp : RdP w v1 v2 v3 p) (hx : Rd w vx x) (kx : VI p i x) :
    Calls Try.prog 190 #[.agg #[v1, v2, v3], .int .i64 i, vx, .int .i64 K] w (RetInts w (pw (p.at i) p.zv x K)) := by
  obtain ⟨i0, hi, hz0, hz1, hz2⟩ := info_parts Try.info2
  have hn6 := hV.n6
  have hin := hG.le
  have HP := Lib.hid hp
  obtain ⟨p1, q1, rfl, _, _⟩ := hp.1.formN (n := p.n) rfl
  obtain ⟨p2, q2, rfl, _, _⟩ := hp.2.1.formN hV.pl
  obtain ⟨p3, q3, rfl, _, _⟩ := hp.2.2.formN hV.cl
  obtain ⟨ao, cap, rfl, _, _⟩ := hx.formN kx.len
  have g0 := below_alloc w (Obj.cells #[Value.slice p1 p.n q1, Value.slice p2 p.n q2, Value.slice p3 p.n q3] 32)
  have x0 := Bx.new w (Value.slice p1 p.n q1) (Value.slice p2 p.n q2) (Value.slice p3 p.n q3)
  have HX := Lib.hid hx
  have HKx := Lib.hid kx
  have HG := Lib.hid hG
  clear hp hx kx hG
  go_enter Try.func190, Try.ntmps190
  go_wp2_with (at_make; refine wp_mkInts _ rfl _ _ rfl i0 Try.underlying22 hi hz0 hz1 hz2 _ _ _ _ p.n rfl rfl rfl rfl (by omega) ?_)
  intro w1 hI hB hlt
  have x1 := x0.below hB (by simp)
  have hB1 := below_from g0 hB (by omega)
  have hI1 : Ints w1 w.heap.size _ p.zv := hI.mono (by omega)
  clear hI x0 hB g0 hlt
  go_wp2_with fail
  go_loopw [3, 9, 10] (fun t u b wr => ∃ k o m : Nat, k ≤ K ∧ Hid (o + m * k = K) ∧ t = .int .i64 k ∧ Ints wr w.heap.size u (pw (p.at i) p.zv x o) ∧ Rd wr b (pw (p.at i) p.zv x m) ∧ Bx wr w.heap.size (Value.slice p1 p.n q1) (Value.slice p2 p.n q2) (Value.slice p3 p.n q3) ∧ Below w.heap.size w wr) (fun t _ _ _ => (intOf t).toNat)
  case atStart => exact ⟨K, 0, 1, Nat.le_refl _, by show _ = _; omega, rfl, hI1, by rw [pw_one HG.out.G HKx.out]; exact HX.out.below hB1, x1, hB1⟩
  case round =>
    clear hI1 x1 hB1
    obtain ⟨k, o, m, hk, hO, rfl, hI, hR, hX, hB⟩ := hrel
    have VO := HG.out.pw HKx.out o
    have VM := HG.out.pw HKx.out m
    obtain ⟨au, cu, rfl, _, _⟩ := hI.rd.formN VO.len
    obtain ⟨ab, cb, rfl, _, _⟩ := hR.formN VM.len
    have lx := hX.lt
    by_cases hk0 : 0 < k
    · have m0 := hX.c0
      have m1 := hX.c1
      have m2 := hX.c2
      by_cases hodd : k % 2 = 1
      · have D1 : ((k : Int) % 2 == 1) = true := by simp; omega
        have HS := Lib.hid (rep_step _ _ _ _ hO.out hodd)
        have EA := Lib.hid (pw_add' HG.out HKx.out o m)
        have EM := Lib.hid (pw_add' HG.out HKx.out m m)
        clear hodd
        go_wp2_with fail
        refine (s_l08At hV i _ _ _ _ _ _ _ _ hin (HP.out.below hB) hI.rd hR VO VM).mono ?_
        rintro e w2 ⟨u2, rfl, hI2, hB2⟩
        have hR2 := hR.below hB2
        have hX2 := hX.below hB2 lx
        have hB3 := below_size hB hB2
        have hI3 : Ints w2 w.heap.size _ _ := hI2.mono hB.size
        rw [EA.out] at hI3
        clear hI hR hX hB hI2 hB2 m0 m1 m2
        have m0 := hX2.c0
        have m1 := hX2.c1
        have m2 := hX2.c2
        go_wp2_with fail
        refine (s_l08At hV i _ _ _ _ _ _ _ _ hin (HP.out.below hB3) hR2 hR2 VM VM).mono ?_
        rintro e w4 ⟨u4, rfl, hI4, hB4⟩
        have hX4 := hX2.below hB4 hX2.lt
        have hB5 := below_size hB3 hB4
        have hI5 := hI3.below hB4
        have hR4 := hI4.rd
        rw [EM.out] at hR4
        clear hI3 hR2 hX2 hB3 hI4 hB4 m0 m1 m2 VO VM
        go_wp2_with fail
        go_roundw
        case rel => exact ⟨k / 2, o + m, m + m, by omega, HS, by go_num, hI5, hR4, hX4, hB5⟩
        case measure => simp [intOf]; omega
      · have D1 : ((k : Int) % 2 == 1) = false := by simp; omega
        have HS := Lib.hid (rep_step0 _ _ _ _ hO.out (by omega))
        have EM := Lib.hid (pw_add' HG.out HKx.out m m)
        clear hodd
        go_wp2_with fail
        refine (s_l08At hV i _ _ _ _ _ _ _ _ hin (HP.out.below hB) hR hR VM VM).mono ?_
        rintro e w4 ⟨u4, rfl, hI4, hB4⟩
        have hX4 := hX.below hB4 lx
        have hB5 := below_size hB hB4
        have hI5 := hI.below hB4
        have hR4 := hI4.rd
        rw [EM.out] at hR4
        clear hI hR hX hB hI4 hB4 m0 m1 m2 VO VM
        go_wp2_with fail
        go_roundw
        case rel => exact ⟨k / 2, o, m + m, by omega, HS, by go_num, hI5, hR4, hX4, hB5⟩
        case measure => simp [intOf]; omega
    · obtain rfl : k = 0 := by omega
      have he := hO.out
      rw [Nat.mul_zero, Nat.add_zero] at he
      rw [he] at hI
      clear he hO
      go_wp2_with fail
      go_ret
      exact ⟨_, rfl, hI, hB⟩
--== the parts of a presentation in memory
theorem ball {w0 w : World} (h : Below w0.heap.size w0 w) (o : Obj) : Below w0.heap.size w0 (w.alloc o) := h.alloc h.size o
--== a fault in memory
def Fx (w : World) (b : Nat) : Prop := w.heap[b]? = some (.cells #[.int .i64 0, .int .i64 0, .int .i64 0, .int .i64 0] 172 (0, 0))
section
variable {w w' : World} {b : Nat}
theorem Fx.lt (h : Fx w b) : b < w.heap.size := (Array.getElem?_eq_some_iff.1 h).1
theorem Fx.c (h : Fx w b) {o : Nat} (ho : o < 4) : w.cell? ⟨b, o, none⟩ = some (.int .i64 0) := by
  unfold Fx at h
  have : o = 0 ∨ o = 1 ∨ o = 2 ∨ o = 3 := by omega
  rcases this with rfl | rfl | rfl | rfl <;> simp [World.cell?, h]
theorem Fx.fr (h : Fx w b) (o : Nat) : w.frozen? ⟨b, o, none⟩ = false := by unfold Fx at h; simp [World.frozen?, h]
theorem Fx.below {B : Nat} (h : Fx w b) (hb : Below B w w') (hB : b < B) : Fx w' b := (hb.block b hB).trans h
theorem Fx.new (w : World) : Fx (w.alloc (.cells #[.int .i64 0, .int .i64 0, .int .i64 0, .int .i64 0] 172)) w.heap.size := heap_alloc_new w _
end
def fvV (p : Pres) (i : Nat) : Value := if (lvF p i).1 = 0 then .agg #[.int .i64 0, .int .i64 0, .int .i64 0, .int .i64 0] else .agg #[.int .i64 (lvF p i).1, .int .i64 i, .int .i64 (lvF p i).2.1, .int .i64 (lvF p i).2.2]
theorem fvV_ne {p : Pres} {i : Nat} {k a b : Int} (h : lvF p i = (k, a, b)) (hk : k ≠ 0) : fvV p i = .agg #[.int .i64 k, .int .i64 i, .int .i64 a, .int .i64 b] := by
  unfold fvV; rw [h]; rw [if_neg hk]
theorem fvV_zero {p : Pres} {i : Nat} {a b : Int} (h : lvF p i = (0, a, b)) : fvV p i = .agg #[.int .i64 0, .int .i64 0, .int .i64 0, .int .i64 0] := by
  unfold fvV; rw [h]; rfl
--== spec.l08Level
theorem fset4 {w0 w : World} {b : Nat} (h : Below w0.heap.size w0 w) (a c d e : Value) (hb : w0.heap.size ≤ b := by omega) : Below w0.heap.size w0 ((((w.setCell ⟨b, 0, none⟩ a).setCell ⟨b, 1, none⟩ c).setCell ⟨b, 2, none⟩ d).setCell ⟨b, 3, none⟩ e) :=
  (((h.setCell (p := ⟨b, 0, none⟩) hb a).setCell (p := ⟨b, 1, none⟩) hb c).setCell (p := ⟨b, 2, none⟩) hb d).setCell (p := ⟨b, 3, none⟩) hb e
set_option maxHeartbeats 16000000 in
theorem s_l08Level {p : Pres} (hV : ValidP p) (i : Nat) (hin : i < p.n) (hG : GT p (i + 1)) (v1 v2 v3 : Value) (w : World) (hp : RdP w v1 v2 v3 p) :
    Calls Try.prog 183 #[.agg #[v1, v2, v3], .int .i64 i] w (RetV w (fvV p i)) := by
  have hn6 := hV.n6
  have HP := Lib.hid hp
  obtain ⟨b1, o1, q1, rfl, k1⟩ := ord_at hp.1 (by omega)
  obtain ⟨b2, o2, q2, rfl, k2⟩ := pow_at hV hp.2.1 (by omega)
  obtain ⟨b3, o3, q3, rfl, kc⟩ := conj_at hV hp.2.2 hin
  have KC2 : Hid (∀ j, j < p.n → ∃ a z, w.cell? ⟨b3, o3 + j, none⟩ = some (.slice a (p.n - (j + 1)) z) ∧ ∀ k, j + 1 + k < p.n → ∃ b' o', a = some ⟨b', o', none⟩ ∧ ∃ a5 z5, w.cell? ⟨b', o' + k, none⟩ = some (.slice a5 p.n z5) ∧ Rd w (.slice a5 p.n z5) (p.C j (j + 1 + k))) := fun j hj => by
    obtain ⟨b', o', q', he, h⟩ := conj_at hV hp.2.2 hj
    cases he; exact h
  obtain ⟨a4, z4, k4, kc4⟩ := kc
  have K1 := Lib.hid k1
  have K2 := Lib.hid k2
  have K4 := Lib.hid kc4
  have K3 := Lib.hid k4
  have HG := Lib.hid hG
  have g0 := below_alloc w (Obj.cells #[Value.slice (some ⟨b1, o1, none⟩) p.n q1, Value.slice (some ⟨b2, o2, none⟩) p.n q2, Value.slice (some ⟨b3, o3, none⟩) p.n q3] 32)
  have x0 := Bx.new w (Value.slice (some ⟨b1, o1, none⟩) p.n q1) (Value.slice (some ⟨b2, o2, none⟩) p.n q2) (Value.slice (some ⟨b3, o3, none⟩) p.n q3)
  have f0 := Fx.new (w.alloc (Obj.cells #[Value.slice (some ⟨b1, o1, none⟩) p.n q1, Value.slice (some ⟨b2, o2, none⟩) p.n q2, Value.slice (some ⟨b3, o3, none⟩) p.n q3] 32))
  have x1 := x0.old (Obj.cells #[.int .i64 0, .int .i64 0, .int .i64 0, .int .i64 0] 172)
  have g1 := ball g0 (Obj.cells #[.int .i64 0, .int .i64 0, .int .i64 0, .int .i64 0] 172)
  have hsz : (w.alloc (Obj.cells #[Value.slice (some ⟨b1, o1, none⟩) p.n q1, Value.slice (some ⟨b2, o2, none⟩) p.n q2, Value.slice (some ⟨b3, o3, none⟩) p.n q3] 32)).heap.size = w.heap.size + 1 := by simp
  rw [hsz] at f0
  clear hp k1 k2 kc4 hG g0 x0 hsz k4
  go_enter Try.func183, Try.ntmps183
  go_wp2_with fail
  go_loopw [7] (fun t wr => ∃ j : Nat, i < j ∧ j ≤ p.n ∧ t = .int .i64 j ∧ ok1 p i j ∧ Bx wr w.heap.size (Value.slice (some ⟨b1, o1, none⟩) p.n q1) (Value.slice (some ⟨b2, o2, none⟩) p.n q2) (Value.slice (some ⟨b3, o3, none⟩) p.n q3) ∧ Fx wr (w.heap.size + 1) ∧ Below w.heap.size w wr) (fun t _ => p.n - (intOf t).toNat)
  case atStart => exact ⟨i + 1, by omega, by omega, by go_num, ok1_zero, x1, f0, g1⟩
  case round =>
    clear x1 f0 g1
    obtain ⟨j, hij, hjn, rfl, hok, hX, hF, hB⟩ := hrel
    have HOK := Lib.hid hok
    clear hok
    have lx := hX.lt
    have lf := hF.lt
    have m0 := hX.c0
    have m1 := hX.c1
    have m2 := hX.c2
    by_cases hlt : j < p.n
    · obtain ⟨k, hk⟩ : ∃ k, j = i + 1 + k := ⟨j - i - 1, by omega⟩
      obtain ⟨b4, o4, rfl, a5, z5, c5, R5⟩ := K4.out k (by omega)
      obtain ⟨a6, z6, c6, R6⟩ := K2.out j hlt
      obtain ⟨r, hr, hr7⟩ : ∃ r : Nat, p.r j = (r : Int) ∧ r ≤ 7 := ⟨(p.r j).toNat, by have := hV.rk j hlt; omega, by have := hV.rk j hlt; omega⟩
      have c1 := K1.out j hlt
      rw [hr] at c1
      rw [← hk] at R5
      have VC := hV.valid.cj i j hij hlt
      have VP := (hV.valid.pow j hlt).mono (show i + 1 ≤ j + 1 by omega)
      have hk1 : j ≤ i + 1 + k := by omega
      have hk2 : i + 1 + k ≤ j := by omega
      have hkn : k < p.n - (i + 1) := by omega
      have e1 := below_cells hB _ _ K3.out
      have e2 := below_cells hB _ _ c5
      have e3 := below_cells hB _ _ c6
      have e4 := below_cells hB _ _ c1
      have KEEP1 : Hid (∀ wx, Below wr.heap.size wr wx → Below wr.heap.size wr wx ∧ wx.cell? ⟨w.heap.size, 0, none⟩ = some (Value.slice (some ⟨b1, o1, none⟩) p.n q1) ∧ wx.cell? ⟨w.heap.size, 1, none⟩ = some (Value.slice (some ⟨b2, o2, none⟩) p.n q2) ∧ wx.cell? ⟨w.heap.size, 2, none⟩ = some (Value.slice (some ⟨b3, o3, none⟩) p.n q3) ∧ wx.cell? ⟨b3, o3 + i, none⟩ = some (.slice (some ⟨b4, o4, none⟩) (p.n - (i + 1)) z4) ∧ wx.cell? ⟨b4, o4 + k, none⟩ = some (.slice a5 p.n z5) ∧ wx.cell? ⟨b1, o1 + j, none⟩ = some (.int .i64 (r : Int))) := fun wx hb =>
          ⟨hb, below_cells hb _ _ m0, below_cells hb _ _ m1, below_cells hb _ _ m2, below_cells hb _ _ e1, below_cells hb _ _ e2, below_cells hb _ _ e4⟩
      have HREP : Hid (∀ wx, Below wr.heap.size wr wx → Calls Try.prog 190 #[.agg #[Value.slice (some ⟨b1, o1, none⟩) p.n q1, Value.slice (some ⟨b2, o2, none⟩) p.n q2, Value.slice (some ⟨b3, o3, none⟩) p.n q3], .int .i64 ((i : Int) + 1), .slice a5 p.n z5, .int .i64 r] wx (RetInts wx (pw (p.at (i + 1)) p.zv (p.C i j) r))) := fun wx hb => by
        have := s_l08Repeat hV (i + 1) HG.out (p.C i j) r _ _ _ _ wx (by omega) (HP.out.below (below_size hB hb)) (R5.below (below_size hB hb)) VC
        rwa [show (((i + 1 : Nat)) : Int) = (i : Int) + 1 by omega] at this
      have HIMG : Hid (∀ wx, Below w.heap.size w wx → Calls Try.prog 191 #[.agg #[Value.slice (some ⟨b1, o1, none⟩) p.n q1, Value.slice (some ⟨b2, o2, none⟩) p.n q2, Value.slice (some ⟨b3, o3, none⟩) p.n q3], .int .i64 i, .slice a6 p.n z6] wx (RetInts wx (p.img i (p.P j)))) := fun wx hb =>
        s_l08Image hV i (p.P j) _ _ _ _ wx hin (HP.out.below hb) (R6.below hb) VP
      have VX := HG.out.pw VC r
      have VY := VP.img hV.valid hin
      obtain ⟨fb, hfb⟩ : ∃ fb, f1 p i j = fb := ⟨_, rfl⟩
      have hff : fb = !(decide (pw (p.at (i + 1)) p.zv (p.C i j) r = p.img i (p.P j))) := by
        rw [← hfb]; unfold f1; rw [hr, Int.toNat_natCast]
      have HSAME : Hid (∀ wx u v, Rd wx u (pw (p.at (i + 1)) p.zv (p.C i j) r) → Rd wx v (p.img i (p.P j)) → Calls Try.prog 126 #[u, v] wx (RetV wx (.bool (!fb)))) := fun wx u v h1 h2 => by
        refine (s_l01Same u v _ _ wx h1 h2 (by rw [VX.len, VY.len])).mono fun e w' h => ?_
        obtain ⟨h3, h4⟩ := h.below
        exact ⟨by rw [h3, hff, Bool.not_not], h4⟩
      have W1 : IntKind.i64.wrap ((i : Int) + 1) = (i : Int) + 1 := IntWalk.i64_in _ (by omega)
      have W2 : IntKind.i64.wrap ((j : Int) - i) = (k : Int) + 1 := by rw [IntWalk.i64_in _ (by omega)]; omega
      have W3 : IntKind.i64.wrap ((k : Int) + 1 - 1) = (k : Int) := by rw [IntWalk.i64_in _ (by omega)]; omega
      have W4 : IntKind.i64.wrap (k : Int) = (k : Int) := IntWalk.i64_in _ (by omega)
      have H1 : (k : Int) < ((p.n - (i + 1) : Nat) : Int) := by omega
      have H2 : (0 : Int) ≤ (k : Int) := by omega
      have H3 : (i : Int) < (p.n : Int) := by omega
      have H4 : (j : Int) < (p.n : Int) := by omega
      have HFB := Lib.hid hfb
      have HHr := Lib.hid hr
      have HHk := Lib.hid hk
      have HVX := Lib.hid VX
      clear hr hk e1 e2 e4 hff c5 c6 c1 m0 m1 m2 VX hfb
      go_wp2_with fail
      go_region_held3 (fun wx => Below wr.heap.size wr wx ∧ wx.cell? ⟨w.heap.size, 0, none⟩ = some (Value.slice (some ⟨b1, o1, none⟩) p.n q1) ∧ wx.cell? ⟨w.heap.size, 1, none⟩ = some (Value.slice (some ⟨b2, o2, none⟩) p.n q2) ∧ wx.cell? ⟨w.heap.size, 2, none⟩ = some (Value.slice (some ⟨b3, o3, none⟩) p.n q3) ∧ wx.cell? ⟨b3, o3 + i, none⟩ = some (.slice (some ⟨b4, o4, none⟩) (p.n - (i + 1)) z4) ∧ wx.cell? ⟨b4, o4 + k, none⟩ = some (.slice a5 p.n z5) ∧ wx.cell? ⟨b1, o1 + j, none⟩ = some (.int .i64 (r : Int)))
        (first | exact KEEP1.out _ (Below.refl _ _).drew | exact KEEP1.out _ (below_size (And.left (by assumption)) (by assumption)))
        (first
          | ((go_at_call 190); (with_reducible refine (HREP.out _ (And.left (by assumption))).mono ?_); (rintro e w2 ⟨u2, rfl, hI2, hB2⟩)))
      have hB3 : Below wr.heap.size wr w2 := And.left (by assumption)
      have hX3 := hX.below hB3 lx
      have hF3 := hF.below hB3 lf
      have hB4 := below_size hB hB3
      have hR2 := Lib.hid hI2.rd
      have e3' := below_cells hB3 _ _ e3
      obtain ⟨a7, z7, rfl, _, _⟩ := hI2.rd.formN HVX.out.len
      clear hI2 hB2 KEEP1 HREP hX hF hB W1 W2 W3 W4 H1 H2 e3 lx lf hB3
      have lx := hX3.lt
      have lf := hF3.lt
      have m0 := hX3.c0
      have m1 := hX3.c1
      have m2 := hX3.c2
      have KEEP2 : Hid (∀ wx, Below w2.heap.size w2 wx → Below w2.heap.size w2 wx ∧ wx.cell? ⟨w.heap.size, 0, none⟩ = some (Value.slice (some ⟨b1, o1, none⟩) p.n q1) ∧ wx.cell? ⟨w.heap.size, 1, none⟩ = some (Value.slice (some ⟨b2, o2, none⟩) p.n q2) ∧ wx.cell? ⟨w.heap.size, 2, none⟩ = some (Value.slice (some ⟨b3, o3, none⟩) p.n q3) ∧ wx.cell? ⟨b2, o2 + j, none⟩ = some (.slice a6 p.n z6)) := fun wx hb =>
          ⟨hb, below_cells hb _ _ m0, below_cells hb _ _ m1, below_cells hb _ _ m2, below_cells hb _ _ e3'⟩
      clear m0 m1 m2 e3'
      go_wp2_with fail
      go_region_held3 (fun wx => Below w2.heap.size w2 wx ∧ wx.cell? ⟨w.heap.size, 0, none⟩ = some (Value.slice (some ⟨b1, o1, none⟩) p.n q1) ∧ wx.cell? ⟨w.heap.size, 1, none⟩ = some (Value.slice (some ⟨b2, o2, none⟩) p.n q2) ∧ wx.cell? ⟨w.heap.size, 2, none⟩ = some (Value.slice (some ⟨b3, o3, none⟩) p.n q3) ∧ wx.cell? ⟨b2, o2 + j, none⟩ = some (.slice a6 p.n z6))
        (first | exact KEEP2.out _ (Below.refl _ _).drew | exact KEEP2.out _ (below_size (And.left (by assumption)) (by assumption)))
        (first
          | ((go_at_call 191); (with_reducible refine (HIMG.out _ (below_size hB4 (And.left (by assumption)))).mono ?_); (rintro e w5 ⟨u5, rfl, hI5, hB5⟩))
          | ((go_at_call 126); (with_reducible refine (HSAME.out _ _ _ (hR2.out.below (And.left (by assumption))) hI5.rd).mono ?_); (rintro e w6 ⟨rfl, hB6⟩)))
      have hB7 : Below w2.heap.size w2 w6 := And.left (by assumption)
      have hX6 := hX3.below hB7 lx
      have hF6 := hF3.below hB7 lf
      have hB8 := below_size hB4 hB7
      clear hI5 hB5 hB6 KEEP2 HIMG HSAME hX3 hF3 hB4 hR2 lx lf hB7
      cases fb with
      | true =>
        have HL := Lib.hid (fvV_ne (lvF_1 HOK.out hij hlt HFB.out) (by decide))
        have fc0 := hF6.c (o := 0) (by omega)
        have fc1 := hF6.c (o := 1) (by omega)
        have fc2 := hF6.c (o := 2) (by omega)
        have fc3 := hF6.c (o := 3) (by omega)
        have ff0 := hF6.fr 0
        have ff1 := hF6.fr 1
        have ff2 := hF6.fr 2
        have ff3 := hF6.fr 3
        have hW' := fset4 (b := w.heap.size + 1) hB8 (.int .i64 1) (.int .i64 i) (.int .i64 j) (.int .i64 0)
        clear hB8 hX6 hF6
        go_wp2_with fail
        refine bodyPost_ret (v := .agg #[.int .i64 1, .int .i64 i, .int .i64 j, .int .i64 0]) (by simp [results, Try.results183, go_sem, fc0, fc1, fc2, fc3]) rfl ?_
        exact ⟨by rw [HL.out], hW'⟩
      | false =>
        have HOK2 := Lib.hid (ok1_succ HOK.out HFB.out)
        go_wp2_with fail
        go_roundw
        case rel => exact ⟨j + 1, by omega, by omega, by go_num, HOK2.out, hX6, hF6, hB8⟩
        case measure => simp [intOf]; omega
    · obtain rfl : j = p.n := by omega
      clear m0 m1 m2 lx lf
      have HOK1 := HOK
      clear HOK
      go_wp2_with fail
      go_loopw [9] (fun t wr => ∃ j : Nat, i < j ∧ j ≤ p.n ∧ t = .int .i64 j ∧ ok2 p i j ∧ Bx wr w.heap.size (Value.slice (some ⟨b1, o1, none⟩) p.n q1) (Value.slice (some ⟨b2, o2, none⟩) p.n q2) (Value.slice (some ⟨b3, o3, none⟩) p.n q3) ∧ Fx wr (w.heap.size + 1) ∧ Below w.heap.size w wr) (fun t _ => p.n - (intOf t).toNat)
      case atStart => exact ⟨i + 1, by omega, by omega, by go_num, ok2_zero, hX, hF, hB⟩
      case round =>
        clear hX hF hB
        obtain ⟨j, hij, hjn, rfl, hok, hX, hF, hB⟩ := hrel
        have HOK2 := Lib.hid hok
        clear hok
        by_cases hlt : j < p.n
        · obtain ⟨k, hk⟩ : ∃ k, j = i + 1 + k := ⟨j - i - 1, by omega⟩
          obtain ⟨b4, o4, rfl, a5, z5, c5, R5⟩ := K4.out k (by omega)
          rw [← hk] at R5
          have VC := hV.valid.cj i j hij hlt
          have hk1 : j ≤ i + 1 + k := by omega
          have hk2 : i + 1 + k ≤ j := by omega
          have hkn : k < p.n - (i + 1) := by omega
          obtain ⟨a8, z8, c8, kc8⟩ := KC2.out j hlt
          have K8 := Lib.hid kc8
          have C5 := Lib.hid c5
          have C8 := Lib.hid c8
          have hD : decide ((j : Int) < (p.n : Int)) = true := by simp; omega
          clear hk kc8 c5 c8
          go_wp2_with fail
          clear hD
          go_loopw [10] (fun t wr => ∃ l : Nat, j < l ∧ l ≤ p.n ∧ t = .int .i64 l ∧ ok2r p i j l ∧ Bx wr w.heap.size (Value.slice (some ⟨b1, o1, none⟩) p.n q1) (Value.slice (some ⟨b2, o2, none⟩) p.n q2) (Value.slice (some ⟨b3, o3, none⟩) p.n q3) ∧ Fx wr (w.heap.size + 1) ∧ Below w.heap.size w wr) (fun t _ => p.n - (intOf t).toNat)
          case atStart => exact ⟨j + 1, by omega, by omega, by go_num, ok2r_zero, hX, hF, hB⟩
          case round =>
            clear hX hF hB
            obtain ⟨l, hjl, hln, rfl, hok, hX, hF, hB⟩ := hrel
            have HOKR := Lib.hid hok
            clear hok
            by_cases hll : l < p.n
            · obtain ⟨k', hk'⟩ : ∃ k', l = i + 1 + k' := ⟨l - i - 1, by omega⟩
              obtain ⟨k3, hk3⟩ : ∃ k3, l = j + 1 + k3 := ⟨l - j - 1, by omega⟩
              obtain ⟨b4', o4', he4, a6, z6, c6, R6⟩ := K4.out k' (by omega)
              cases he4
              obtain ⟨b9, o9, rfl, a7, z7, c7, R7⟩ := K8.out k3 (by omega)
              rw [← hk'] at R6
              rw [← hk3] at R7
              have VC' := hV.valid.cj i l (by omega) hll
              have VJ := (hV.valid.cj j l hjl hll).mono (show i + 1 ≤ j + 1 by omega)
              have VZ := VJ.img hV.valid hin
              have hk1' : l ≤ i + 1 + k' := by omega
              have hk2' : i + 1 + k' ≤ l := by omega
              have hk1'' : l ≤ j + 1 + k3 := by omega
              have hk2'' : j + 1 + k3 ≤ l := by omega
              have hkn' : k' < p.n - (i + 1) := by omega
              have hkn'' : k3 < p.n - (j + 1) := by omega
              have lx := hX.lt
              have lf := hF.lt
              have m2 := hX.c2
              have e1 := below_cells hB _ _ K3.out
              have e2 := below_cells hB _ _ C5.out
              have e3 := below_cells hB _ _ c6
              have W2 : IntKind.i64.wrap ((j : Int) - i) = (k : Int) + 1 := by rw [IntWalk.i64_in _ (by omega)]; omega
              have W3 : IntKind.i64.wrap ((k : Int) + 1 - 1) = (k : Int) := by rw [IntWalk.i64_in _ (by omega)]; omega
              have W4 : IntKind.i64.wrap (k : Int) = (k : Int) := IntWalk.i64_in _ (by omega)
              have W5 : IntKind.i64.wrap ((l : Int) - i) = (k' : Int) + 1 := by rw [IntWalk.i64_in _ (by omega)]; omega
              have W6 : IntKind.i64.wrap ((k' : Int) + 1 - 1) = (k' : Int) := by rw [IntWalk.i64_in _ (by omega)]; omega
              have W7 : IntKind.i64.wrap (k' : Int) = (k' : Int) := IntWalk.i64_in _ (by omega)
              have H1 : (k : Int) < ((p.n - (i + 1) : Nat) : Int) := by omega
              have H2 : (k' : Int) < ((p.n - (i + 1) : Nat) : Int) := by omega
              have H3 : (i : Int) < (p.n : Int) := by omega
              have HHk := Lib.hid hk'
              have HHk3 := Lib.hid hk3
              have C6 := Lib.hid c6
              have C7 := Lib.hid c7
              clear hk' hk3 c6 c7
              go_wp2_with fail
              go_quiet (fail)
              rename_i nq
              have hX2 : Bx (wr.drewN nq) w.heap.size _ _ _ := hX
              have hF2 : Fx (wr.drewN nq) (w.heap.size + 1) := hF
              have hB2 := below_drewN hB nq
              clear hX hF hB m2 e1 e2 e3 W2 W3 W4 W5 W6 W7 H1 H2 lx lf
              generalize wr.drewN nq = w2 at *
              have lx := hX2.lt
              have lf := hF2.lt
              have m0 := hX2.c0
              have m1 := hX2.c1
              have m2 := hX2.c2
              have e1 := below_cells hB2 _ _ C8.out
              have e2 := below_cells hB2 _ _ C7.out
              have KEEP1 : Hid (∀ wx, Below w2.heap.size w2 wx → Below w2.heap.size w2 wx ∧ wx.cell? ⟨w.heap.size, 0, none⟩ = some (Value.slice (some ⟨b1, o1, none⟩) p.n q1) ∧ wx.cell? ⟨w.heap.size, 1, none⟩ = some (Value.slice (some ⟨b2, o2, none⟩) p.n q2) ∧ wx.cell? ⟨w.heap.size, 2, none⟩ = some (Value.slice (some ⟨b3, o3, none⟩) p.n q3) ∧ wx.cell? ⟨b3, o3 + j, none⟩ = some (.slice (some ⟨b9, o9, none⟩) (p.n - (j + 1)) z8) ∧ wx.cell? ⟨b9, o9 + k3, none⟩ = some (.slice a7 p.n z7)) := fun wx hb =>
                ⟨hb, below_cells hb _ _ m0, below_cells hb _ _ m1, below_cells hb _ _ m2, below_cells hb _ _ e1, below_cells hb _ _ e2⟩
              have HIMG : Hid (∀ wx, Below w.heap.size w wx → Calls Try.prog 191 #[.agg #[Value.slice (some ⟨b1, o1, none⟩) p.n q1, Value.slice (some ⟨b2, o2, none⟩) p.n q2, Value.slice (some ⟨b3, o3, none⟩) p.n q3], .int .i64 i, .slice a7 p.n z7] wx (RetInts wx (p.img i (p.C j l)))) := fun wx hb =>
                s_l08Image hV i (p.C j l) _ _ _ _ wx hin (HP.out.below hb) (R7.below hb) VJ
              have W1 : IntKind.i64.wrap ((l : Int) - j) = (k3 : Int) + 1 := by rw [IntWalk.i64_in _ (by omega)]; omega
              have W3 : IntKind.i64.wrap ((k3 : Int) + 1 - 1) = (k3 : Int) := by rw [IntWalk.i64_in _ (by omega)]; omega
              have W4 : IntKind.i64.wrap (k3 : Int) = (k3 : Int) := IntWalk.i64_in _ (by omega)
              have H1 : (k3 : Int) < ((p.n - (j + 1) : Nat) : Int) := by omega
              have H4 : (j : Int) < (p.n : Int) := by omega
              clear m0 m1 m2 e1 e2
              go_wp2_with fail
              go_region_held3 (fun wx => Below w2.heap.size w2 wx ∧ wx.cell? ⟨w.heap.size, 0, none⟩ = some (Value.slice (some ⟨b1, o1, none⟩) p.n q1) ∧ wx.cell? ⟨w.heap.size, 1, none⟩ = some (Value.slice (some ⟨b2, o2, none⟩) p.n q2) ∧ wx.cell? ⟨w.heap.size, 2, none⟩ = some (Value.slice (some ⟨b3, o3, none⟩) p.n q3) ∧ wx.cell? ⟨b3, o3 + j, none⟩ = some (.slice (some ⟨b9, o9, none⟩) (p.n - (j + 1)) z8) ∧ wx.cell? ⟨b9, o9 + k3, none⟩ = some (.slice a7 p.n z7))
                (first | exact KEEP1.out _ (Below.refl _ _).drew | exact KEEP1.out _ (below_size (And.left (by assumption)) (by assumption)))
                (first
                  | ((go_at_call 191); (with_reducible refine (HIMG.out _ (below_size hB2 (And.left (by assumption)))).mono ?_); (rintro e w3 ⟨u3, rfl, hI3, hB3⟩)))
              have hB4 : Below w2.heap.size w2 w3 := And.left (by assumption)
              have hX3 := hX2.below hB4 lx
              have hF3 := hF2.below hB4 lf
              have hB5 := below_size hB2 hB4
              have HR3 := Lib.hid hI3.rd
              obtain ⟨a3, z3, rfl, _, _⟩ := hI3.rd.formN VZ.len
              clear hI3 hB3 KEEP1 HIMG hX2 hF2 hB2 W1 W3 W4 H1 H4 lx lf hB4
              have lx := hX3.lt
              have lf := hF3.lt
              have m0 := hX3.c0
              have m1 := hX3.c1
              have m2 := hX3.c2
              have KEEP2 : Hid (∀ wx, Below w3.heap.size w3 wx → Below w3.heap.size w3 wx ∧ wx.cell? ⟨w.heap.size, 0, none⟩ = some (Value.slice (some ⟨b1, o1, none⟩) p.n q1) ∧ wx.cell? ⟨w.heap.size, 1, none⟩ = some (Value.slice (some ⟨b2, o2, none⟩) p.n q2) ∧ wx.cell? ⟨w.heap.size, 2, none⟩ = some (Value.slice (some ⟨b3, o3, none⟩) p.n q3)) := fun wx hb =>
                ⟨hb, below_cells hb _ _ m0, below_cells hb _ _ m1, below_cells hb _ _ m2⟩
              have HAT1 : Hid (∀ wx, Below w.heap.size w wx → Calls Try.prog 184 #[.agg #[Value.slice (some ⟨b1, o1, none⟩) p.n q1, Value.slice (some ⟨b2, o2, none⟩) p.n q2, Value.slice (some ⟨b3, o3, none⟩) p.n q3], .int .i64 ((i : Int) + 1), .slice a6 p.n z6, .slice a5 p.n z5] wx (RetInts wx (p.at (i + 1) (p.C i l) (p.C i j)))) := fun wx hb => by
                have := s_l08At hV (i + 1) (p.C i l) (p.C i j) _ _ _ _ _ wx hin (HP.out.below hb) (R6.below hb) (R5.below hb) VC' VC
                rwa [show (((i + 1 : Nat)) : Int) = (i : Int) + 1 by omega] at this
              have HAT2 : Hid (∀ wx, Below w3.heap.size w3 wx → Calls Try.prog 184 #[.agg #[Value.slice (some ⟨b1, o1, none⟩) p.n q1, Value.slice (some ⟨b2, o2, none⟩) p.n q2, Value.slice (some ⟨b3, o3, none⟩) p.n q3], .int .i64 ((i : Int) + 1), .slice a5 p.n z5, .slice a3 p.n z3] wx (RetInts wx (p.at (i + 1) (p.C i j) (p.img i (p.C j l))))) := fun wx hb => by
                have := s_l08At hV (i + 1) (p.C i j) (p.img i (p.C j l)) _ _ _ _ _ wx hin (HP.out.below (below_size hB5 hb)) (R5.below (below_size hB5 hb)) (HR3.out.below hb) VC VZ
                rwa [show (((i + 1 : Nat)) : Int) = (i : Int) + 1 by omega] at this
              obtain ⟨fb, hfb⟩ : ∃ fb, f2 p i j l = fb := ⟨_, rfl⟩
              have hff : fb = !(decide (p.at (i + 1) (p.C i l) (p.C i j) = p.at (i + 1) (p.C i j) (p.img i (p.C j l)))) := by rw [← hfb]; rfl
              have HSAME : Hid (∀ wx u v, Rd wx u (p.at (i + 1) (p.C i l) (p.C i j)) → Rd wx v (p.at (i + 1) (p.C i j) (p.img i (p.C j l))) → Calls Try.prog 126 #[u, v] wx (RetV wx (.bool (!fb)))) := fun wx u v h1 h2 => by
                refine (s_l01Same u v _ _ wx h1 h2 (by rw [(HG.out.at VC' VC).len, (HG.out.at VC VZ).len])).mono fun e w' h => ?_
                obtain ⟨h3, h4⟩ := h.below
                exact ⟨by rw [h3, hff, Bool.not_not], h4⟩
              have HFB := Lib.hid hfb
              have W1 : IntKind.i64.wrap ((i : Int) + 1) = (i : Int) + 1 := IntWalk.i64_in _ (by omega)
              clear m0 m1 m2 hff hfb
              go_wp2_with fail
              go_region_held3 (fun wx => Below w3.heap.size w3 wx ∧ wx.cell? ⟨w.heap.size, 0, none⟩ = some (Value.slice (some ⟨b1, o1, none⟩) p.n q1) ∧ wx.cell? ⟨w.heap.size, 1, none⟩ = some (Value.slice (some ⟨b2, o2, none⟩) p.n q2) ∧ wx.cell? ⟨w.heap.size, 2, none⟩ = some (Value.slice (some ⟨b3, o3, none⟩) p.n q3))
                (first | exact KEEP2.out _ (Below.refl _ _).drew | exact KEEP2.out _ (below_size (And.left (by assumption)) (by assumption)))
                (first
                  | ((go_at_call 184); (with_reducible refine (HAT1.out _ (below_size hB5 (And.left (by assumption)))).mono ?_); (rintro e w4 ⟨u4, rfl, hI4, hB4⟩))
                  | ((go_at_call 184); (with_reducible refine (HAT2.out _ (And.left (by assumption))).mono ?_); (rintro e w5 ⟨u5, rfl, hI5, hB6⟩))
                  | ((go_at_call 126); (with_reducible refine (HSAME.out _ _ _ (hI4.rd.below hB6) hI5.rd).mono ?_); (rintro e w6 ⟨rfl, hB7⟩)))
              have hB9 : Below w3.heap.size w3 w6 := And.left (by assumption)
              have hX6 := hX3.below hB9 lx
              have hF6 := hF3.below hB9 lf
              have hB8 := below_size hB5 hB9
              clear hI4 hI5 hB4 hB6 hB7 KEEP2 HAT1 HAT2 HSAME hX3 hF3 HR3 lx lf hB9 W1 hB5
              cases fb with
              | true =>
                have HL := Lib.hid (fvV_ne (lvF_2 HOK1.out HOK2.out hij HOKR.out hjl hll HFB.out) (by decide))
                have fc0 := hF6.c (o := 0) (by omega)
                have fc1 := hF6.c (o := 1) (by omega)
                have fc2 := hF6.c (o := 2) (by omega)
                have fc3 := hF6.c (o := 3) (by omega)
                have ff0 := hF6.fr 0
                have ff1 := hF6.fr 1
                have ff2 := hF6.fr 2
                have ff3 := hF6.fr 3
                have hW' := fset4 (b := w.heap.size + 1) hB8 (.int .i64 2) (.int .i64 i) (.int .i64 j) (.int .i64 l)
                clear hB8 hX6 hF6
                go_wp2_with fail
                refine bodyPost_ret (v := .agg #[.int .i64 2, .int .i64 i, .int .i64 j, .int .i64 l]) (by simp [results, Try.results183, go_sem, fc0, fc1, fc2, fc3]) rfl ?_
                exact ⟨by rw [HL.out], hW'⟩
              | false =>
                have HOKR2 := Lib.hid (ok2r_succ HOKR.out HFB.out)
                go_wp2_with fail
                go_roundw
                case rel => exact ⟨l + 1, by omega, by omega, by go_num, HOKR2.out, hX6, hF6, hB8⟩
                case measure => simp [intOf]; omega
            · obtain rfl : l = p.n := by omega
              have HOK3 := Lib.hid (ok2_succ HOK2.out HOKR.out)
              go_wp2_with fail
              go_roundw
              case rel => exact ⟨j + 1, by omega, by omega, by go_num, HOK3.out, hX, hF, hB⟩
              case measure => simp [intOf]; omega
        · obtain rfl : j = p.n := by omega
          have lx := hX.lt
          have lf := hF.lt
          have m0 := hX.c0
          have m1 := hX.c1
          have m2 := hX.c2
          obtain ⟨a5, z5, c5, R5⟩ := K2.out i hin
          have e1 := below_cells hB _ _ c5
          have VW := hV.valid.pow i hin
          go_wp2_with fail
          refine (s_l08Image hV i (p.P i) _ _ _ _ wr hin (HP.out.below hB) (R5.below hB) VW).mono ?_
          rintro e w2 ⟨u2, rfl, hI2, hB2⟩
          have hX2 := hX.below hB2 lx
          have hF2 := hF.below hB2 lf
          have hB3 := below_size hB hB2
          obtain ⟨fb, hfb⟩ : ∃ fb, f3 p i = fb := ⟨_, rfl⟩
          have hff : fb = !(decide (p.img i (p.P i) = p.P i)) := by rw [← hfb]; rfl
          have HFB := Lib.hid hfb
          have HSAME : Hid (∀ wx u v, Rd wx u (p.img i (p.P i)) → Rd wx v (p.P i) → Calls Try.prog 126 #[u, v] wx (RetV wx (.bool (!fb)))) := fun wx u v h1 h2 => by
            refine (s_l01Same u v _ _ wx h1 h2 (by rw [(VW.img hV.valid hin).len, VW.len])).mono fun e w' h => ?_
            obtain ⟨h3, h4⟩ := h.below
            exact ⟨by rw [h3, hff, Bool.not_not], h4⟩
          have HR2 := Lib.hid hI2.rd
          clear hI2 hB2 hX hF hB m0 m1 m2 e1 c5 hfb hff lx lf
          go_wp2_with fail
          refine (HSAME.out _ _ _ HR2.out (R5.below hB3)).mono ?_
          rintro e w4 ⟨rfl, hB4⟩
          have hX6 := hX2.below hB4 hX2.lt
          have hF6 := hF2.below hB4 hF2.lt
          have hB8 := below_size hB3 hB4
          clear HSAME HR2 hB4 hX2 hF2 hB3
          cases fb with
          | true =>
            have HL := Lib.hid (fvV_ne (lvF_3 HOK1.out HOK2.out HFB.out) (by decide))
            have fc0 := hF6.c (o := 0) (by omega)
            have fc1 := hF6.c (o := 1) (by omega)
            have fc2 := hF6.c (o := 2) (by omega)
            have fc3 := hF6.c (o := 3) (by omega)
            have ff0 := hF6.fr 0
            have ff1 := hF6.fr 1
            have ff2 := hF6.fr 2
            have ff3 := hF6.fr 3
            have hW' := fset4 (b := w.heap.size + 1) hB8 (.int .i64 3) (.int .i64 i) (.int .i64 0) (.int .i64 0)
            clear hB8 hX6 hF6
            go_wp2_with fail
            refine bodyPost_ret (v := .agg #[.int .i64 3, .int .i64 i, .int .i64 0, .int .i64 0]) (by simp [results, Try.results183, go_sem, fc0, fc1, fc2, fc3]) rfl ?_
            exact ⟨by rw [HL.out], hW'⟩
          | false =>
            have HF3 := HFB
            clear HFB
            obtain ⟨r, hr, hr7⟩ : ∃ r : Nat, p.r i = (r : Int) ∧ r ≤ 7 := ⟨(p.r i).toNat, by have := hV.rk i hin; omega, by have := hV.rk i hin; omega⟩
            have c1 := K1.out i hin
            rw [hr] at c1
            have C1 := Lib.hid c1
            have HRR := Lib.hid hr
            clear hr c1
            go_wp2_with fail
            go_loopw [15] (fun t wr => ∃ j : Nat, i < j ∧ j ≤ p.n ∧ t = .int .i64 j ∧ ok4 p i j ∧ Bx wr w.heap.size (Value.slice (some ⟨b1, o1, none⟩) p.n q1) (Value.slice (some ⟨b2, o2, none⟩) p.n q2) (Value.slice (some ⟨b3, o3, none⟩) p.n q3) ∧ Fx wr (w.heap.size + 1) ∧ Below w.heap.size w wr) (fun t _ => p.n - (intOf t).toNat)
            case atStart => exact ⟨i + 1, by omega, by omega, by go_num, ok4_zero, hX6, hF6, hB8⟩
            case round =>
              clear hX6 hF6 hB8
              obtain ⟨j, hij, hjn, rfl, hok, hX, hF, hB⟩ := hrel
              have HOK4 := Lib.hid hok
              clear hok
              by_cases hlt : j < p.n
              · have hD : decide ((j : Int) < (p.n : Int)) = true := by simp; omega
                have VU := VI.uv hV.valid (show i + 1 ≤ j by omega) hlt
                go_wp2_with fail
                refine (s_l07Unit p.n j _ hlt (by omega)).mono ?_
                rintro e w2 ⟨u2, rfl, hI2, hB2⟩
                have hX2 := hX.below hB2 hX.lt
                have hF2 := hF.below hB2 hF.lt
                have hB3 := below_size hB hB2
                have hR2 : Rd w2 u2 (p.uv j) := hI2.rd
                obtain ⟨a7, z7, rfl, _, _⟩ := hR2.formN VU.len
                have HRU := Lib.hid hR2
                clear hI2 hB2 hX hF hB
                go_wp2_with fail
                clear hD
                go_loopw [17, 18] (fun u t wr => ∃ l : Nat, l ≤ r ∧ t = .int .i64 l ∧ Rd wr u (itf (p.img i) l (p.uv j)) ∧ Below w2.heap.size w2 wr ∧ Bx wr w.heap.size (Value.slice (some ⟨b1, o1, none⟩) p.n q1) (Value.slice (some ⟨b2, o2, none⟩) p.n q2) (Value.slice (some ⟨b3, o3, none⟩) p.n q3) ∧ Fx wr (w.heap.size + 1) ∧ Below w.heap.size w wr) (fun _ t _ => r - (intOf t).toNat)
                case atStart => exact ⟨0, Nat.zero_le _, rfl, hR2, Below.refl _ _, hX2, hF2, hB3⟩
                case round =>
                  clear hR2 hX2 hF2 hB3
                  obtain ⟨l, hlr, rfl, hR, hBB, hX, hF, hB⟩ := hrel
                  have VL := VU.iimg hV.valid hin l
                  obtain ⟨a8, z8, rfl, _, _⟩ := hR.formN VL.len
                  have lx := hX.lt
                  have lf := hF.lt
                  have m0 := hX.c0
                  have m1 := hX.c1
                  have m2 := hX.c2
                  have e1 := below_cells hB _ _ C1.out
                  by_cases hll : l < r
                  · go_wp2_with fail
                    refine (s_l08Image hV i _ _ _ _ _ wr hin (HP.out.below hB) hR VL).mono ?_
                    rintro e w4 ⟨u4, rfl, hI4, hB4⟩
                    have hX4 := hX.below hB4 lx
                    have hF4 := hF.below hB4 lf
                    have hB5 := below_size hB hB4
                    have hBB4 := hBB.trans (hB4.mono hBB.size)
                    have hR4 := hI4.rd
                    clear hI4 hB4 hX hF hB hBB hR m0 m1 m2 e1
                    go_wp2_with fail
                    go_roundw
                    case rel => exact ⟨l + 1, by omega, by go_num, hR4, hBB4, hX4, hF4, hB5⟩
                    case measure => simp [intOf]; omega
                  · obtain rfl : l = r := by omega
                    have KEEP2 : Hid (∀ wx, Below wr.heap.size wr wx → Below wr.heap.size wr wx ∧ wx.cell? ⟨w.heap.size, 0, none⟩ = some (Value.slice (some ⟨b1, o1, none⟩) p.n q1) ∧ wx.cell? ⟨w.heap.size, 1, none⟩ = some (Value.slice (some ⟨b2, o2, none⟩) p.n q2) ∧ wx.cell? ⟨w.heap.size, 2, none⟩ = some (Value.slice (some ⟨b3, o3, none⟩) p.n q3)) := fun wx hb =>
                      ⟨hb, below_cells hb _ _ m0, below_cells hb _ _ m1, below_cells hb _ _ m2⟩
                    have HAT1 : Hid (∀ wx, Below wr.heap.size wr wx → Calls Try.prog 184 #[.agg #[Value.slice (some ⟨b1, o1, none⟩) p.n q1, Value.slice (some ⟨b2, o2, none⟩) p.n q2, Value.slice (some ⟨b3, o3, none⟩) p.n q3], .int .i64 ((i : Int) + 1), .slice a5 p.n z5, .slice a8 p.n z8] wx (RetInts wx (p.at (i + 1) (p.P i) (itf (p.img i) l (p.uv j))))) := fun wx hb => by
                      have := s_l08At hV (i + 1) (p.P i) (itf (p.img i) l (p.uv j)) _ _ _ _ _ wx hin (HP.out.below (below_size hB hb)) (R5.below (below_size hB hb)) (hR.below hb) VW VL
                      rwa [show (((i + 1 : Nat)) : Int) = (i : Int) + 1 by omega] at this
                    have HAT2 : Hid (∀ wx, Below wr.heap.size wr wx → Calls Try.prog 184 #[.agg #[Value.slice (some ⟨b1, o1, none⟩) p.n q1, Value.slice (some ⟨b2, o2, none⟩) p.n q2, Value.slice (some ⟨b3, o3, none⟩) p.n q3], .int .i64 ((i : Int) + 1), .slice a7 p.n z7, .slice a5 p.n z5] wx (RetInts wx (p.at (i + 1) (p.uv j) (p.P i)))) := fun wx hb => by
                      have := s_l08At hV (i + 1) (p.uv j) (p.P i) _ _ _ _ _ wx hin (HP.out.below (below_size hB hb)) (HRU.out.below (hBB.trans (hb.mono hBB.size))) (R5.below (below_size hB hb)) VU VW
                      rwa [show (((i + 1 : Nat)) : Int) = (i : Int) + 1 by omega] at this
                    obtain ⟨fb, hfb⟩ : ∃ fb, f4 p i j = fb := ⟨_, rfl⟩
                    have hff : fb = !(decide (p.at (i + 1) (p.P i) (itf (p.img i) l (p.uv j)) = p.at (i + 1) (p.uv j) (p.P i))) := by rw [← hfb]; unfold f4; rw [HRR.out, Int.toNat_natCast]
                    have HSAME : Hid (∀ wx u v, Rd wx u (p.at (i + 1) (p.P i) (itf (p.img i) l (p.uv j))) → Rd wx v (p.at (i + 1) (p.uv j) (p.P i)) → Calls Try.prog 126 #[u, v] wx (RetV wx (.bool (!fb)))) := fun wx u v h1 h2 => by
                      refine (s_l01Same u v _ _ wx h1 h2 (by rw [(HG.out.at VW VL).len, (HG.out.at VU VW).len])).mono fun e w' h => ?_
                      obtain ⟨h3, h4⟩ := h.below
                      exact ⟨by rw [h3, hff, Bool.not_not], h4⟩
                    have HFB := Lib.hid hfb
                    have W1 : IntKind.i64.wrap ((i : Int) + 1) = (i : Int) + 1 := IntWalk.i64_in _ (by omega)
                    have HBH := Lib.hid hB
                    clear hff hfb
                    go_wp2_with fail
                    clear m0 m1 m2 e1
                    go_region_held3 (fun wx => Below wr.heap.size wr wx ∧ wx.cell? ⟨w.heap.size, 0, none⟩ = some (Value.slice (some ⟨b1, o1, none⟩) p.n q1) ∧ wx.cell? ⟨w.heap.size, 1, none⟩ = some (Value.slice (some ⟨b2, o2, none⟩) p.n q2) ∧ wx.cell? ⟨w.heap.size, 2, none⟩ = some (Value.slice (some ⟨b3, o3, none⟩) p.n q3))
                      (first | exact KEEP2.out _ (Below.refl _ _).drew | exact KEEP2.out _ (below_size (And.left (by assumption)) (by assumption)))
                      (first
                        | ((go_at_call 184); (with_reducible refine (HAT1.out _ (And.left (by assumption))).mono ?_); (rintro e w4 ⟨u4, rfl, hI4, hB4⟩))
                        | ((go_at_call 184); (with_reducible refine (HAT2.out _ (And.left (by assumption))).mono ?_); (rintro e w5 ⟨u5, rfl, hI5, hB6⟩))
                        | ((go_at_call 126); (with_reducible refine (HSAME.out _ _ _ (hI4.rd.below hB6) hI5.rd).mono ?_); (rintro e w6 ⟨rfl, hB7⟩)))
                    have hB9 : Below wr.heap.size wr w6 := And.left (by assumption)
                    have hX6 := hX.below hB9 lx
                    have hF6 := hF.below hB9 lf
                    have hB8 := below_size HBH.out hB9
                    clear hI4 hI5 hB4 hB6 hB7 KEEP2 HAT1 HAT2 HSAME hX hF hR lx lf hB9 W1 hB hBB HBH
                    cases fb with
                    | true =>
                      have HL := Lib.hid (fvV_ne (lvF_4 HOK1.out HOK2.out HF3.out HOK4.out hij hlt HFB.out) (by decide))
                      have fc0 := hF6.c (o := 0) (by omega)
                      have fc1 := hF6.c (o := 1) (by omega)
                      have fc2 := hF6.c (o := 2) (by omega)
                      have fc3 := hF6.c (o := 3) (by omega)
                      have ff0 := hF6.fr 0
                      have ff1 := hF6.fr 1
                      have ff2 := hF6.fr 2
                      have ff3 := hF6.fr 3
                      have hW' := fset4 (b := w.heap.size + 1) hB8 (.int .i64 4) (.int .i64 i) (.int .i64 j) (.int .i64 0)
                      clear hB8 hX6 hF6
                      go_wp2_with fail
                      refine bodyPost_ret (v := .agg #[.int .i64 4, .int .i64 i, .int .i64 j, .int .i64 0]) (by simp [results, Try.results183, go_sem, fc0, fc1, fc2, fc3]) rfl ?_
                      exact ⟨by rw [HL.out], hW'⟩
                    | false =>
                      have HOK5 := Lib.hid (ok4_succ HOK4.out HFB.out)
                      go_wp2_with fail
                      go_roundw
                      case rel => exact ⟨j + 1, by omega, by omega, by go_num, HOK5.out, hX6, hF6, hB8⟩
                      case measure => simp [intOf]; omega
              · obtain rfl : j = p.n := by omega
                have HL := Lib.hid (fvV_zero (lvF_0 HOK1.out HOK2.out HF3.out HOK4.out))
                have fc0 := hF.c (o := 0) (by omega)
                have fc1 := hF.c (o := 1) (by omega)
                have fc2 := hF.c (o := 2) (by omega)
                have fc3 := hF.c (o := 3) (by omega)
                have ff0 := hF.fr 0
                have ff1 := hF.fr 1
                have ff2 := hF.fr 2
                have ff3 := hF.fr 3
                have hW' := fset4 (b := w.heap.size + 1) hB (.int .i64 0) (.int .i64 0) (.int .i64 0) (.int .i64 0)
                clear hB hX hF
                go_wp2_with fail
                refine bodyPost_ret (v := .agg #[.int .i64 0, .int .i64 0, .int .i64 0, .int .i64 0]) (by simp [results, Try.results183, go_sem, fc0, fc1, fc2, fc3]) rfl ?_
                exact ⟨by rw [HL.out], hW'⟩
end Go.Proofs.Ythnpndheaailjaa
