/-
  The reference's products: l08Image, l08At, l08Repeat.
-/
import Derived.Test.YthnpndheaailjaaEls
import Derived.Deep.RegionHeld3
import Derived.IntWalk
namespace Go.Proofs.Ythnpndheaailjaa
set_option linter.unusedVariables false
set_option linter.unusedSimpArgs false
set_option maxRecDepth 100000
open Go.RowKit

--== helpers
def IM (p : Pres) (i : Nat) (l : List Nat) : List Int := l.foldl (fun u j => p.at (i + 1) u (p.C i j)) p.zv
theorem IM_snoc (p : Pres) (i : Nat) (l : List Nat) (j : Nat) : IM p i (l ++ [j]) = p.at (i + 1) (IM p i l) (p.C i j) := by simp [IM]
theorem IM_all (p : Pres) (i : Nat) (x : List Int) : IM p i (lw x) = p.img i x := rfl
theorem IM_VI {p : Pres} (hp : Valid p) {i : Nat} (hi : i < p.n) {l : List Nat} (hl : ∀ k ∈ l, i < k ∧ k < p.n) : VI p (i + 1) (IM p i l) :=
  fold_VI (VI.at hp _ hi) (fun k hk => hp.cj i k (hl k hk).1 (hl k hk).2) _ (VI.zv hp _)
theorem mem_ltTo2 {x : List Int} {i k : Nat} (hk : k ∈ ltTo x i) : k < i ∧ 0 < x.getD k 0 := by
  unfold ltTo lwAt at hk
  obtain ⟨t, ht, hk⟩ := List.mem_flatMap.1 hk
  obtain ⟨h1, rfl⟩ := List.mem_replicate.1 hk
  exact ⟨List.mem_range.1 ht, by omega⟩
def AtC (p : Pres) (d : Nat) : Prop := ∀ (i : Nat) (a b : List Int) (v1 v2 v3 va vb : Value) (w : World), i ≤ p.n → p.n ≤ i + d → RdP w v1 v2 v3 p → Rd w va a → Rd w vb b → VI p i a → VI p i b →
  Calls Try.prog 184 #[.agg #[v1, v2, v3], .int .i64 i, va, vb] w (RetInts w (p.at i a b))
def ImgC (p : Pres) (d : Nat) : Prop := ∀ (i : Nat) (x : List Int) (v1 v2 v3 vx : Value) (w : World), i < p.n → p.n ≤ i + 1 + d → RdP w v1 v2 v3 p → Rd w vx x → VI p (i + 1) x →
  Calls Try.prog 191 #[.agg #[v1, v2, v3], .int .i64 i, vx] w (RetInts w (p.img i x))
--== spec.l08Image
set_option maxHeartbeats 4000000 in
theorem img_of_at {p : Pres} {d : Nat} (hV : ValidP p) (hat : AtC p d) : ImgC p d := by
  intro i x v1 v2 v3 vx w hin hid hp hx kx
  obtain ⟨i0, hi, hz0, hz1, hz2⟩ := info_parts Try.info2
  have hn6 := hV.n6
  have HP := Lib.hid hp
  obtain ⟨p1, q1, rfl, _, _⟩ := hp.1.formN (n := p.n) rfl
  obtain ⟨p2, q2, rfl, _, _⟩ := hp.2.1.formN hV.pl
  obtain ⟨p3, q3, rfl, _, _⟩ := hp.2.2.formN hV.cl
  have hl3 := hV.cl
  obtain ⟨b3, o3, r3, rfl, k3, RC⟩ := hp.2.2.at (j := i) (by omega)
  have hcl := hV.clen i hin
  obtain ⟨a3, z3, rfl, _, _⟩ := RC.formN (n := p.n - (i + 1)) (by omega)
  obtain ⟨ao, cap, rfl, _, _⟩ := hx.formN kx.len
  have HX := Lib.hid hx
  have HK := Lib.hid kx
  have HCL := Lib.hid hcl
  have g0 := below_alloc w (Obj.cells #[Value.slice p1 p.n q1, Value.slice p2 p.n q2, Value.slice (some ⟨b3, o3, none⟩) p.n q3] 32)
  have x0 := Bx.new w (Value.slice p1 p.n q1) (Value.slice p2 p.n q2) (Value.slice (some ⟨b3, o3, none⟩) p.n q3)
  clear hx kx hcl hl3 hp
  go_enter Try.func191, Try.ntmps191
  go_wp2_with (at_make; refine wp_mkInts _ rfl _ _ rfl i0 Try.underlying22 hi hz0 hz1 hz2 _ _ _ _ p.n rfl rfl rfl rfl (by omega) ?_)
  intro w1 hI hB hlt
  have z1 := hB.size
  have x1 := x0.below hB (by simp)
  have hB1 := below_from g0 hB (by omega)
  have hI1 : Ints w1 w.heap.size _ p.zv := hI.mono (by omega)
  clear hI x0 hB g0 hlt z1
  have HST : Hid (IM p i (ltTo x (i + 1)) = p.zv) := by
    show _ = _; rw [ltTo_nil (fun t ht => HK.out.zero t ht)]; rfl
  go_wp2_with fail
  go_loopw [8, 9] (fun u t wr => ∃ k : Nat, k ≤ p.n - (i + 1) ∧ t = .int .i64 ((i : Int) + 1 + k) ∧ Ints wr w.heap.size u (IM p i (ltTo x (i + 1 + k))) ∧ Bx wr w.heap.size (Value.slice p1 p.n q1) (Value.slice p2 p.n q2) (Value.slice (some ⟨b3, o3, none⟩) p.n q3) ∧ Below w.heap.size w wr) (fun _ t _ => p.n - (intOf t).toNat)
  case atStart => exact ⟨0, Nat.zero_le _, by go_num, by rw [Nat.add_zero, HST.out]; exact hI1, x1, hB1⟩
  case round =>
    clear hI1 x1 hB1
    obtain ⟨k, hk, rfl, hI, hX, hB⟩ := hrel
    have hVl0 : VI p (i + 1) (IM p i (ltTo x (i + 1 + k))) := IM_VI hV.valid hin (fun t ht => by
      have h1 := mem_ltTo2 ht
      refine ⟨?_, by omega⟩
      by_cases h : i < t
      · exact h
      · have := HK.out.zero t (by omega); omega)
    obtain ⟨au, cu, rfl, _, _⟩ := hI.rd.formN hVl0.len
    by_cases hlt : k < p.n - (i + 1)
    · have hik : i + 1 + k < p.n := by omega
      obtain ⟨m1, hm1, hm7⟩ : ∃ m1 : Nat, x.getD (i + 1 + k) 0 = (m1 : Int) ∧ m1 ≤ 10 := by
        have h1 := HK.out.lo _ hik
        have h2 := HK.out.hi _ hik
        have h3 := (hV.rk _ hik).2
        exact ⟨(x.getD (i + 1 + k) 0).toNat, by omega, by omega⟩
      have HS := Lib.hid (ltTo_succ hm1)
      obtain ⟨b6, o6, rfl, hcell0⟩ := HX.out.at (show i + 1 + k < x.length by rw [HK.out.len]; exact hik)
      rw [hm1] at hcell0
      clear hm1
      have hkc : k < (p.conj.getD i []).length := by have := HCL.out; omega
      obtain ⟨b4, o4, r4, rfl, k4, RC4⟩ := RC.at hkc
      have HCe : Hid ((p.conj.getD i []).getD k [] = p.C i (i + 1 + k)) := by
        show _ = _; unfold Pres.C; rw [show i + 1 + k - i - 1 = k by omega]
      have hVI := hV.valid.cj i (i + 1 + k) (by omega) hik
      obtain ⟨a5, z5, rfl, _, _⟩ := RC4.formN (n := p.n) (by rw [HCe.out]; exact hVI.len)
      have HVl : Hid (∀ l : Nat, VI p (i + 1) (IM p i (ltTo x (i + 1 + k) ++ List.replicate l (i + 1 + k)))) := fun l =>
        IM_VI hV.valid hin (fun t ht => by
          rcases List.mem_append.1 ht with ht | ht
          · have h1 := mem_ltTo2 ht
            refine ⟨?_, by omega⟩
            by_cases h : i < t
            · exact h
            · have := HK.out.zero t (by omega); omega
          · obtain ⟨_, rfl⟩ := List.mem_replicate.1 ht; omega)
      clear hVl0
      have hD : decide ((i : Int) + 1 + k < (p.n : Int)) = true := by simp; omega
      go_wp2_with fail
      clear hD
      go_loopw [8, 10] (fun u t wr2 => ∃ l : Nat, l ≤ m1 ∧ t = .int .i64 l ∧ Ints wr2 w.heap.size u (IM p i (ltTo x (i + 1 + k) ++ List.replicate l (i + 1 + k))) ∧ Bx wr2 w.heap.size (Value.slice p1 p.n q1) (Value.slice p2 p.n q2) (Value.slice (some ⟨b3, o3, none⟩) p.n q3) ∧ Below w.heap.size w wr2) (fun _ t _ => m1 - (intOf t).toNat)
      case atStart => exact ⟨0, Nat.zero_le _, rfl, by simpa using hI, hX, hB⟩
      case round =>
        clear hI hX hB
        obtain ⟨l, hl, rfl, hI, hX, hB⟩ := hrel
        have hcell := below_cells hB _ _ hcell0
        obtain ⟨au2, cu2, rfl, _, _⟩ := hI.rd.formN (HVl.out l).len
        by_cases hlm : l < m1
        · have HN : Hid (IM p i (ltTo x (i + 1 + k) ++ List.replicate (l + 1) (i + 1 + k)) = p.at (i + 1) (IM p i (ltTo x (i + 1 + k) ++ List.replicate l (i + 1 + k))) (p.C i (i + 1 + k))) := by
            show _ = _
            rw [List.replicate_succ', ← List.append_assoc, IM_snoc]
          have lx := hX.lt
          have K3 := below_cells hB _ _ k3
          have K4 := below_cells hB _ _ k4
          have m0 := hX.c0
          have m1' := hX.c1
          have m2 := hX.c2
          have HRP := Lib.hid (HP.out.below hB)
          have HRI := Lib.hid hI.rd
          have HRC := Lib.hid (show Rd wr (.slice a5 p.n z5) (p.C i (i + 1 + k)) by rw [← HCe.out]; exact RC4.below hB)
          have KEEP : Hid (∀ wx, Below wr.heap.size wr wx → Below wr.heap.size wr wx ∧ wx.cell? ⟨w.heap.size, 0, none⟩ = some (Value.slice p1 p.n q1) ∧ wx.cell? ⟨w.heap.size, 1, none⟩ = some (Value.slice p2 p.n q2) ∧ wx.cell? ⟨w.heap.size, 2, none⟩ = some (Value.slice (some ⟨b3, o3, none⟩) p.n q3) ∧ wx.cell? ⟨b3, o3 + i, none⟩ = some (.slice (some ⟨b4, o4, none⟩) (p.n - (i + 1)) z3) ∧ wx.cell? ⟨b4, o4 + k, none⟩ = some (.slice a5 p.n z5)) := fun wx hb =>
            ⟨hb, below_cells hb _ _ m0, below_cells hb _ _ m1', below_cells hb _ _ m2, below_cells hb _ _ K3, below_cells hb _ _ K4⟩
          have W1 : IntKind.i64.wrap ((i : Int) + 1) = (i : Int) + 1 := IntWalk.i64_in _ (by omega)
          have W2 : IntKind.i64.wrap ((i : Int) + 1 + k - i) = (k : Int) + 1 := by rw [IntWalk.i64_in _ (by omega)]; omega
          have W3 : IntKind.i64.wrap ((k : Int) + 1 - 1) = (k : Int) := by rw [IntWalk.i64_in _ (by omega)]; omega
          have W4 : IntKind.i64.wrap (k : Int) = (k : Int) := IntWalk.i64_in _ (by omega)
          have hkr : (k : Int) < ((p.n - (i + 1) : Nat) : Int) := by omega
          have hk0 : (0 : Int) ≤ (k : Int) := by omega
          have hin' : (i : Int) < (p.n : Int) := by omega
          have HAT : Hid (∀ wx, Below wr.heap.size wr wx → Calls Try.prog 184 #[.agg #[Value.slice p1 p.n q1, Value.slice p2 p.n q2, Value.slice (some ⟨b3, o3, none⟩) p.n q3], .int .i64 ((i : Int) + 1), .slice au2 p.n cu2, .slice a5 p.n z5] wx (RetInts wx (p.at (i + 1) (IM p i (ltTo x (i + 1 + k) ++ List.replicate l (i + 1 + k))) (p.C i (i + 1 + k))))) := fun wx hb => by
            have := hat (i + 1) _ _ _ _ _ _ _ wx hin hid (HRP.out.below hb) (HRI.out.below hb) (HRC.out.below hb) (HVl.out l) hVI
            rwa [show (((i + 1 : Nat)) : Int) = (i : Int) + 1 by omega] at this
          clear hcell0 hI hVI m0 m1' m2 K3 K4
          go_wp2_with fail
          go_region_held3 (fun wx => Below wr.heap.size wr wx ∧ wx.cell? ⟨w.heap.size, 0, none⟩ = some (Value.slice p1 p.n q1) ∧ wx.cell? ⟨w.heap.size, 1, none⟩ = some (Value.slice p2 p.n q2) ∧ wx.cell? ⟨w.heap.size, 2, none⟩ = some (Value.slice (some ⟨b3, o3, none⟩) p.n q3) ∧ wx.cell? ⟨b3, o3 + i, none⟩ = some (.slice (some ⟨b4, o4, none⟩) (p.n - (i + 1)) z3) ∧ wx.cell? ⟨b4, o4 + k, none⟩ = some (.slice a5 p.n z5))
            (first | exact KEEP.out _ (Below.refl _ _).drew | exact KEEP.out _ (below_size (And.left (by assumption)) (by assumption)))
            (first
              | ((go_at_call 184); (refine (HAT.out _ (And.left (by assumption))).mono ?_); (rintro e w2 ⟨u2, rfl, hI2, hB2⟩)))
          have hB3 : Below wr.heap.size wr w2 := And.left (by assumption)
          have hI3 : Ints w2 w.heap.size u2 _ := hI2.mono (by have := hB.size; simp; omega)
          have hX3 := hX.below hB3 lx
          have hB4 := below_size hB hB3
          clear hI2 hB2 hB3 KEEP HAT HRP HRI HRC hX hB W1 W2 W3 W4
          go_wp2_with fail
          go_roundw
          case rel => exact ⟨l + 1, by omega, by go_num, by rw [HN.out]; exact hI3, hX3, hB4⟩
          case measure => simp [intOf]; omega
        · obtain rfl : l = m1 := by omega
          go_wp2_with fail
          go_roundw
          case rel => exact ⟨k + 1, by omega, by go_num, by rw [← Nat.add_assoc, HS.out]; exact hI, hX, hB⟩
          case measure => simp [intOf]; omega
    · obtain rfl : k = p.n - (i + 1) := by omega
      have e1 : i + 1 + (p.n - (i + 1)) = x.length := by rw [HK.out.len]; omega
      have HI : Hid (Ints wr w.heap.size (.slice au p.n cu) (p.img i x)) := by
        show Ints _ _ _ _
        rw [e1, ltTo_all, IM_all] at hI; exact hI
      clear hI e1
      go_wp2_with fail
      go_ret
      exact ⟨_, rfl, HI.out, hB⟩
--== spec.l08At
set_option maxHeartbeats 1000000 in
theorem at_end {p : Pres} (hV : ValidP p) (a b : List Int) (v1 v2 v3 va vb : Value) (w : World) (hp : RdP w v1 v2 v3 p) :
    Calls Try.prog 184 #[.agg #[v1, v2, v3], .int .i64 p.n, va, vb] w (RetInts w (p.at p.n a b)) := by
  obtain ⟨i0, hi, hz0, hz1, hz2⟩ := info_parts Try.info2
  have hn6 := hV.n6
  rw [at_top p p.n (Nat.le_refl _)]
  obtain ⟨p1, q1, rfl, _, _⟩ := hp.1.formN (n := p.n) rfl
  obtain ⟨p2, q2, rfl, _, _⟩ := hp.2.1.formN hV.pl
  obtain ⟨p3, q3, rfl, _, _⟩ := hp.2.2.formN hV.cl
  have g0 := below_alloc w (Obj.cells #[Value.slice p1 p.n q1, Value.slice p2 p.n q2, Value.slice p3 p.n q3] 32)
  clear hp
  go_enter Try.func184, Try.ntmps184
  go_wp2_with (at_make; refine wp_mkInts _ rfl _ _ rfl i0 Try.underlying22 hi hz0 hz1 hz2 _ _ _ _ p.n rfl rfl rfl rfl (by omega) ?_)
  intro w1 hI hB hlt
  have hB1 := below_from g0 hB (by simp)
  have hI1 : Ints w1 w.heap.size _ p.zv := hI.mono (by simp)
  clear hI hB g0
  go_wp2_with fail
  go_ret
  exact ⟨_, rfl, hI1, hB1⟩
set_option maxHeartbeats 4000000 in
theorem at_of_img {p : Pres} {d : Nat} (hV : ValidP p) (hat : AtC p d) (himg : ImgC p d) : AtC p (d + 1) := by
  intro i a b v1 v2 v3 va vb w hin hid hp ha hb ka kb
  by_cases hie : i = p.n
  · subst hie; exact at_end hV a b v1 v2 v3 va vb w hp
  have hin' : i < p.n := by omega
  clear hin hie
  have hn6 := hV.n6
  have HP := Lib.hid hp
  obtain ⟨b1, o1, h1e⟩ : ∃ b1 o1, ∃ q1, v1 = .slice (some ⟨b1, o1, none⟩) p.n q1 ∧ w.cell? ⟨b1, o1 + i, none⟩ = some (.int .i64 (p.r i)) := by
    obtain ⟨p1, q1, rfl, _, _⟩ := hp.1.formN (n := p.n) rfl
    obtain ⟨b1, o1, rfl, k1⟩ := hp.1.at (j := i) hin'
    exact ⟨b1, o1, q1, rfl, k1⟩
  obtain ⟨q1, rfl, k1⟩ := h1e
  obtain ⟨p2, q2, rfl, _, _⟩ := hp.2.1.formN hV.pl
  obtain ⟨p3, q3, rfl, _, _⟩ := hp.2.2.formN hV.cl
  have hpl := hV.pl
  obtain ⟨b2, o2, r2, rfl, k2, RP⟩ := hp.2.1.at (j := i) (by omega)
  have hPi := hV.valid.pow i hin'
  obtain ⟨a2, z2, rfl, _, _⟩ := RP.formN (n := p.n) hPi.len
  obtain ⟨ga, ca, rfl, _, _⟩ := ha.formN ka.len
  obtain ⟨gb, cb, rfl, _, _⟩ := hb.formN kb.len
  obtain ⟨ba, oa, rfl, kca⟩ := ha.at (j := i) (by rw [ka.len]; exact hin')
  obtain ⟨bb, ob, rfl, kcb⟩ := hb.at (j := i) (by rw [kb.len]; exact hin')
  have hA0 := ka.lo i hin'
  have hA1 := ka.hi i hin'
  have hrk := hV.rk i hin'
  obtain ⟨m, hm, hm7⟩ : ∃ m : Nat, b.getD i 0 = (m : Int) ∧ (m : Int) < p.r i := ⟨(b.getD i 0).toNat, by have := kb.lo i hin'; omega, by have := kb.lo i hin'; have := kb.hi i hin'; omega⟩
  obtain ⟨A, HA⟩ := nam (a.getD i 0)
  obtain ⟨r, Hr⟩ := nam (p.r i)
  have hVI1 := (ka.clear hV.valid).iimg hV.valid hin'
  have hVI2 := kb.clear hV.valid
  have hVM := VI.mid hV.valid hin' ka kb
  have HMid : Hid (p.mid i a b = p.at (i + 1) (itf (p.img i) m (a.set i 0)) (b.set i 0)) := by show _ = _; unfold Pres.mid; rw [hm, Int.toNat_natCast]
  have HLo : Hid (¬ r ≤ A + m → p.at i a b = (p.mid i a b).set i (A + m)) := fun h => by rw [at_lo hin' (by rw [HA.out, hm, Hr.out]; exact h), HA.out, hm]
  have HHi : Hid (r ≤ A + m → p.at i a b = (p.at (i + 1) (p.P i) (p.mid i a b)).set i (A + m - r)) := fun h => by rw [at_hi hin' (by rw [HA.out, hm, Hr.out]; exact h), HA.out, hm, Hr.out]
  rw [hm] at kcb
  rw [HA.out] at kca hA0 hA1
  rw [Hr.out] at k1 hrk hm7 hA1
  have HKA := Lib.hid ka
  have HKB := Lib.hid kb
  have HRA := Lib.hid ha
  have HRB := Lib.hid hb
  have HPL := Lib.hid hpl
  have g0 := below_alloc w (Obj.cells #[Value.slice (some ⟨b1, o1, none⟩) p.n q1, Value.slice (some ⟨b2, o2, none⟩) p.n q2, Value.slice p3 p.n q3] 32)
  have x0 := Bx.new w (Value.slice (some ⟨b1, o1, none⟩) p.n q1) (Value.slice (some ⟨b2, o2, none⟩) p.n q2) (Value.slice p3 p.n q3)
  clear hm ka kb ha hb hp hpl
  go_enter Try.func184, Try.ntmps184
  go_wp2_with fail
  refine (s_l01Own _ a _ (HRA.out.below g0) (by rw [HKA.out.len]; omega)).mono ?_
  rintro e w1 ⟨u1, rfl, hI1, hB1⟩
  have z1 : w.heap.size < w1.heap.size := by have := hB1.size; simp at this; omega
  have g1 := below_size g0 hB1
  have x1 := x0.below hB1 (by simp)
  obtain ⟨g, cg, rfl, hg1, hg2, _⟩ := hI1.open (by rw [HKA.out.len]; omega)
  rw [HKA.out.len] at hI1 ⊢
  have hI1' : Ints w1 w.heap.size _ a := hI1.mono (by simp)
  have hgw : w.heap.size < g := by simp at hg1; omega
  clear hI1 hB1 g0 x0 hg1
  go_wp2_with fail
  refine (s_l01Own _ b _ (HRB.out.below g1) (by rw [HKB.out.len]; omega)).mono ?_
  rintro e w2 ⟨u2, rfl, hI2, hB2⟩
  have g2 := below_size g1 hB2
  have x2 := x1.below hB2 z1
  have hI1b := hI1'.below hB2
  obtain ⟨gg, cgg, rfl, hgg1, hgg2, _⟩ := hI2.open (by rw [HKB.out.len]; omega)
  rw [HKB.out.len] at hI2 ⊢
  have hI2' : Ints w2 w.heap.size _ b := hI2.mono (by omega)
  have hgne : g ≠ gg := by omega
  have hs2 := g2.size
  have hro1 := hI1b.row (by rw [HKA.out.len]; omega)
  have hro2 := hI2'.row (by rw [HKB.out.len]; omega)
  have f1 := hro1.2.2.2.2.2.2 i
  have f2 := hro2.2.2.2.2.2.2 i
  have c1 := hro1.2.2.2.2.2.1 i (by rw [HKA.out.len]; omega)
  have c2 := hro2.2.2.2.2.2.1 i (by rw [HKB.out.len]; omega)
  obtain ⟨hL3, hC3⟩ := hI1b.set (by rw [HKA.out.len]) i 0
  have hR3 := hI2'.chg hC3 (fun q hq => by simp only [Value.ownBlock, Option.some.injEq] at hq; omega)
  obtain ⟨hR4, hC4⟩ := hR3.set (by rw [HKB.out.len]) i 0
  have hL4 := hL3.chg hC4 (fun q hq => by simp only [Value.ownBlock, Option.some.injEq] at hq; omega)
  have x4 := (x2.other (c := g) (by omega) i (.int .i64 0)).other (c := gg) (by omega) i (.int .i64 0)
  have g4 := (g2.setCell (p := ⟨g, i, none⟩) (by show w.heap.size ≤ g; omega) (.int .i64 0)).setCell (p := ⟨gg, i, none⟩) (by show w.heap.size ≤ gg; omega) (.int .i64 0)
  clear hI1' hI2 hI2' hI1b hB2 g1 x1 x2 hro1 hro2 hC3 hC4 hL3 hR3
  go_wp2_with fail
  clear f1 f2 c1 c2
  generalize (w2.setCell ⟨g, i, none⟩ (.int .i64 0)).setCell ⟨gg, i, none⟩ (.int .i64 0) = w4 at *
  go_loopw [10, 12] (fun u t wr => ∃ k : Nat, k ≤ m ∧ t = .int .i64 k ∧ Ints wr w.heap.size u (itf (p.img i) k (a.set i 0)) ∧ Ints wr w.heap.size (.slice (some ⟨gg, 0, none⟩) p.n cgg) (b.set i 0) ∧ Bx wr w.heap.size (Value.slice (some ⟨b1, o1, none⟩) p.n q1) (Value.slice (some ⟨b2, o2, none⟩) p.n q2) (Value.slice p3 p.n q3) ∧ Below w.heap.size w wr) (fun _ t _ => m - (intOf t).toNat)
  case atStart => exact ⟨0, Nat.zero_le _, rfl, hL4, hR4, x4, g4⟩
  case round =>
    clear hL4 hR4 x4 g4 hs2 g2
    obtain ⟨k, hk, rfl, hL, hR, hX, hB⟩ := hrel
    have lx := hX.lt
    obtain ⟨au, cu, rfl, _, _⟩ := hL.rd.formN (hVI1 k).len
    have kb' := below_cells hB _ _ kcb
    have m0 := hX.c0
    have m1 := hX.c1
    have m2 := hX.c2
    by_cases hkm : k < m
    · go_wp2_with fail
      refine (himg i _ _ _ _ _ _ hin' (by omega) (HP.out.below hB) hL.rd (hVI1 k)).mono ?_
      rintro e w5 ⟨u5, rfl, hI5, hB5⟩
      have hR5 := hR.below hB5
      have hX5 := hX.below hB5 lx
      have hB6 := below_size hB hB5
      have hI6 : Ints w5 w.heap.size _ _ := hI5.mono hB.size
      clear hL hR hX hB hI5 hB5 m0 m1 m2 kb'
      go_wp2_with fail
      go_roundw
      case rel => exact ⟨k + 1, by omega, by go_num, hI6, hR5, hX5, hB6⟩
      case measure => simp [intOf]; omega
    · obtain rfl : k = m := by omega
      have HAT := hat (i + 1) _ _ _ _ _ _ _ wr hin' (by omega) (HP.out.below hB) hL.rd hR.rd (hVI1 k) hVI2
      rw [show (((i + 1 : Nat)) : Int) = (i : Int) + 1 by omega, ← HMid.out] at HAT
      have HATh := Lib.hid HAT
      clear HAT
      go_wp2_with fail
      refine HATh.out.mono ?_
      rintro e w5 ⟨u5, rfl, hI5, hB5⟩
      have hX5 := hX.below hB5 lx
      have hB6 := below_size hB hB5
      have hI6 : Ints w5 w.heap.size _ _ := hI5.mono hB.size
      obtain ⟨a6, c6, rfl, _, _⟩ := hI6.rd.formN hVM.len
      clear hL hR hX hB hI5 hB5 HATh kb' lx HMid m0 m1 m2
      have m0 := hX5.c0
      have m1 := hX5.c1
      have m2 := hX5.c2
      have lx := hX5.lt
      have ka' := below_cells hB6 _ _ kca
      have kb' := below_cells hB6 _ _ kcb
      have W1 : IntKind.i64.wrap (A + k) = A + k := IntWalk.i64_in _ (by omega)
      go_wp2_with fail
      go_quiet (fail)
      rename_i nq
      have hI7 : Ints (w5.drewN nq) w.heap.size _ _ := hI6
      have hX7 : Bx (w5.drewN nq) w.heap.size _ _ _ := hX5
      have hB7 := below_drewN hB6 nq
      clear ka' kb' W1 m0 m1 m2 lx hI6 hX5 hB6
      generalize w5.drewN nq = w7 at *
      have k1' := below_cells hB7 _ _ k1
      have k2' := below_cells hB7 _ _ k2
      have m0 := hX7.c0
      have m1 := hX7.c1
      have m2 := hX7.c2
      have lx := hX7.lt
      by_cases hcr : r ≤ A + k
      case' pos =>
        have HF := Lib.hid (HHi.out (by omega))
        have hVI9 := VI.at hV.valid _ hin' _ _ hPi hVM
        have HAT : Hid (∀ wx, Below w7.heap.size w7 wx → Calls Try.prog 184 #[.agg #[Value.slice (some ⟨b1, o1, none⟩) p.n q1, Value.slice (some ⟨b2, o2, none⟩) p.n q2, Value.slice p3 p.n q3], .int .i64 ((i : Int) + 1), .slice a2 p.n z2, .slice a6 p.n c6] wx (RetInts wx (p.at (i + 1) (p.P i) (p.mid i a b)))) := fun wx hb => by
          have := hat (i + 1) (p.P i) (p.mid i a b) (Value.slice (some ⟨b1, o1, none⟩) p.n q1) (Value.slice (some ⟨b2, o2, none⟩) p.n q2) (Value.slice p3 p.n q3) (.slice a2 p.n z2) (.slice a6 p.n c6) wx hin' (by omega) (HP.out.below (below_size hB7 hb)) (RP.below (below_size hB7 hb)) (hI7.rd.below hb) hPi hVM
          rwa [show (((i + 1 : Nat)) : Int) = (i : Int) + 1 by omega] at this
        have KEEP : Hid (∀ wx, Below w7.heap.size w7 wx → Below w7.heap.size w7 wx ∧ wx.cell? ⟨w.heap.size, 0, none⟩ = some (Value.slice (some ⟨b1, o1, none⟩) p.n q1) ∧ wx.cell? ⟨w.heap.size, 1, none⟩ = some (Value.slice (some ⟨b2, o2, none⟩) p.n q2) ∧ wx.cell? ⟨w.heap.size, 2, none⟩ = some (Value.slice p3 p.n q3) ∧ wx.cell? ⟨b2, o2 + i, none⟩ = some (.slice a2 p.n z2)) := fun wx hb =>
          ⟨hb, below_cells hb _ _ m0, below_cells hb _ _ m1, below_cells hb _ _ m2, below_cells hb _ _ k2'⟩
        go_wp2_with fail
        clear k1' k2' m0 m1 m2
        have W1 : IntKind.i64.wrap ((i : Int) + 1) = (i : Int) + 1 := IntWalk.i64_in _ (by omega)
        have hii : (i : Int) < (p.n : Int) := by omega
        go_region_held3 (fun wx => Below w7.heap.size w7 wx ∧ wx.cell? ⟨w.heap.size, 0, none⟩ = some (Value.slice (some ⟨b1, o1, none⟩) p.n q1) ∧ wx.cell? ⟨w.heap.size, 1, none⟩ = some (Value.slice (some ⟨b2, o2, none⟩) p.n q2) ∧ wx.cell? ⟨w.heap.size, 2, none⟩ = some (Value.slice p3 p.n q3) ∧ wx.cell? ⟨b2, o2 + i, none⟩ = some (.slice a2 p.n z2))
          (first | exact KEEP.out _ (Below.refl _ _).drew | exact KEEP.out _ (below_size (And.left (by assumption)) (by assumption)))
          (first
            | ((go_at_call 184); (refine (HAT.out _ (And.left (by assumption))).mono ?_); (rintro e w8 ⟨u8, rfl, hI8, hB8⟩)))
        have hB9 : Below w7.heap.size w7 w8 := And.left (by assumption)
        have hI9 : Ints w8 w.heap.size u8 _ := hI8.mono (by have := hB7.size; simp; omega)
        have hB10 := below_size hB7 hB9
        obtain ⟨a9, c9, rfl, _, _⟩ := hI9.rd.formN hVI9.len
        clear hI8 hB8 hB9 KEEP HAT W1 hX7 hB7 hI7 hii
        have hlo : 0 ≤ A + k - r ∧ A + k - r < r := by omega
        generalize A + k - r = cc at *
        generalize p.at (i + 1) (p.P i) (p.mid i a b) = M at *
      case' neg =>
        have HF := Lib.hid (HLo.out (by omega))
        have hI9 := hI7
        have hB10 := hB7
        have hVI9 := hVM
        go_wp2_with fail
        clear k1' k2' m0 m1 m2 hX7 hB7 hI7
        have hlo : 0 ≤ A + k ∧ A + k < r := by omega
        generalize A + k = cc at *
        generalize p.mid i a b = M at *
      all_goals
        try go_wp2_with fail
        refine (s_l01Own _ M _ hI9.rd (by rw [hVI9.len]; omega)).mono ?_
        rintro e w10 ⟨u10, rfl, hI10, hB11⟩
        have hB12 := below_size hB10 hB11
        have hI11 : Ints w10 w.heap.size _ _ := hI10.mono hB10.size
        obtain ⟨g10, c10, rfl, hg10, _⟩ := hI11.open (by rw [hVI9.len]; omega)
        rw [hVI9.len] at hI11 ⊢
        have hro := hI11.row (by rw [hVI9.len]; omega)
        have f10 := hro.2.2.2.2.2.2 i
        have c10' := hro.2.2.2.2.2.1 i (by rw [hVI9.len]; omega)
        obtain ⟨hI12, hC12⟩ := hI11.set (by rw [hVI9.len]) i cc
        have hB13 := hB12.setCell (p := ⟨g10, i, none⟩) hg10 (.int .i64 cc)
        rw [← HF.out] at hI12
        clear hro hI9 hB10 hI10 hB11 hI11 hC12 hB12
        go_wp2_with fail
        go_ret
        exact ⟨_, rfl, hI12, hB13⟩
--== both
theorem s_both {p : Pres} (hV : ValidP p) (d : Nat) : AtC p d ∧ ImgC p d := by
  induction d with
  | zero =>
    have h : AtC p 0 := fun i a b v1 v2 v3 va vb w h1 h2 hp _ _ _ _ => by
      obtain rfl : i = p.n := by omega
      exact at_end hV a b v1 v2 v3 va vb w hp
    exact ⟨h, img_of_at hV h⟩
  | succ d ih =>
    have h := at_of_img hV ih.1 ih.2
    exact ⟨h, img_of_at hV h⟩
theorem s_l08At {p : Pres} (hV : ValidP p) (i : Nat) (a b : List Int) (v1 v2 v3 va vb : Value) (w : World) (hi : i ≤ p.n) (hp : RdP w v1 v2 v3 p) (ha : Rd w va a) (hb : Rd w vb b) (ka : VI p i a) (kb : VI p i b) :
    Calls Try.prog 184 #[.agg #[v1, v2, v3], .int .i64 i, va, vb] w (RetInts w (p.at i a b)) := (s_both hV p.n).1 i a b v1 v2 v3 va vb w hi (by omega) hp ha hb ka kb
theorem s_l08Image {p : Pres} (hV : ValidP p) (i : Nat) (x : List Int) (v1 v2 v3 vx : Value) (w : World) (hi : i < p.n) (hp : RdP w v1 v2 v3 p) (hx : Rd w vx x) (kx : VI p (i + 1) x) :
    Calls Try.prog 191 #[.agg #[v1, v2, v3], .int .i64 i, vx] w (RetInts w (p.img i x)) := (s_both hV p.n).2 i x v1 v2 v3 vx w hi (by omega) hp hx kx
end Go.Proofs.Ythnpndheaailjaa
