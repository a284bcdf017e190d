/-
  The program's products, inverses, powers, conjugates and images of elements.
-/
import Derived.Test.YthnpndheaailjaaTim
namespace Go.Proofs.Ythnpndheaailjaa
set_option linter.unusedVariables false
set_option linter.unusedSimpArgs false
set_option maxRecDepth 100000
open Go.RowKit

--== any owned vector
def RetTV (w : World) (B : Nat) (v : Value) (xs : List Int) (e : Ending) (w' : World) : Prop := e = .returned (.tuple #[]) ∧ Ints w' B v xs ∧ ChgS (fun k => v.ownBlock = some k) w w'
theorem Chg.own {w w' : World} {g : Nat} (h : Chg g (g + 1) w w') {n cap : Nat} : ChgS (fun k => (Value.slice (some ⟨g, 0, none⟩) n cap).ownBlock = some k) w w' :=
  ⟨h.os, h.tape, h.output, h.size, fun k hk hn => h.block k hk (by
    have : k ≠ g := fun e => hn (by subst e; rfl)
    omega)⟩
theorem ChgS.chg1 {w w' : World} {g n cap : Nat} (h : Chg g (g + 1) w w') : ChgS (fun k => (Value.slice (some ⟨g, 0, none⟩) n cap).ownBlock = some k) w w' := h.own
theorem Chg.toS {w w' : World} {v : Value} {g : Nat} (hv : v.ownBlock = some g) (h : Chg g (g + 1) w w') : ChgS (fun k => v.ownBlock = some k) w w' :=
  ⟨h.os, h.tape, h.output, h.size, fun k hk hn => h.block k hk (by
    have : k ≠ g := fun e => hn (by subst e; exact hv)
    omega)⟩
theorem Ints.chgS {w w' : World} {B : Nat} {v : Value} {xs : List Int} {S : Nat → Prop} (h : Ints w B v xs) (hc : ChgS S w w') (hd : ∀ g, v.ownBlock = some g → ¬ S g) : Ints w' B v xs :=
  own_of_block h fun g hg => hc.block g (own_lt h hg).2 (hd g hg)
theorem VI.empty {p : Pres} {s : Nat} {x : List Int} (h : VI p s x) (h0 : p.n = 0) : x = [] := List.eq_nil_of_length_eq_zero (by rw [h.len, h0])
--== impl.timesVector, any vector
set_option maxHeartbeats 1000000 in
theorem i_tv {w0 : World} {vp : Value} {p : Pres} {s : Nat} (hp : PtrP w0 vp p) (hV : ValidP p) (hG : GT p s) (B : Nat) (f : List Int) (vf v : Value) (e : List Int) (w : World) (hf : VI p s f)
    (hr : ∀ w', ChgS (fun k => v.ownBlock = some k) w w' → Rd w' vf f) (he : VI p s e) (hI : Ints w B v e) (hB : w0.heap.size ≤ B) (hb : Below w0.heap.size w0 w) : Calls Try.prog 188 #[vp, v, vf] w (RetTV w B v (p.at s e f)) := by
  by_cases hn : p.n = 0
  · obtain rfl := he.empty hn
    have h1 := (hG.at he hf).empty hn
    rw [h1]
    obtain rfl := hf.empty hn
    obtain ⟨ao, capf, rfl, _, _⟩ := (hr w (ChgS.refl _ _)).form
    have HR := Lib.hid hr
    have HI := Lib.hid hI
    clear hr hI he hf h1 hn
    go_enter Try.func188, Try.ntmps188
    go_wp2_with fail
    go_loop [10] (fun i => i = .int .i64 0) (fun i => 0)
    case atStart => exact rfl
    case round =>
      subst hrel
      go_wp2_with fail
      refine bodyPost_ret (v := .tuple #[]) (by simp [results, Try.results188, go_sem]) rfl ?_
      exact ⟨rfl, HI.out, ChgS.refl _ _⟩
  · obtain ⟨g, cap, rfl, hg1, hg2, _⟩ := hI.open (by rw [he.len]; omega)
    have hl := he.len
    rw [hl] at hI hr ⊢
    exact (i_timesVector hp hV hG B f vf e g cap w hf (fun u hu => hr u hu.own) he hI (by omega) hb).mono fun _ _ ⟨h1, h2, h3⟩ => ⟨h1, h2, h3.own⟩
--== impl.timesGenerator, any vector
theorem i_tg {w0 : World} {vp : Value} {p : Pres} {s : Nat} (hp : PtrP w0 vp p) (hV : ValidP p) (hG : GT p s) (B j : Nat) (v : Value) (e : List Int) (w : World) (h1 : s ≤ j) (h2 : j < p.n) (he : VI p s e)
    (hI : Ints w B v e) (hB : w0.heap.size ≤ B) (hb : Below w0.heap.size w0 w) : Calls Try.prog 195 #[vp, v, .int .i64 j] w (RetTV w B v (p.at s e (p.uv j))) := by
  obtain ⟨g, cap, rfl, hg1, hg2, _⟩ := hI.open (by rw [he.len]; omega)
  have hl := he.len
  rw [hl] at hI ⊢
  exact (i_timesGenerator hp hV hG B j e g cap w h1 h2 he hI (by omega) hb).mono fun _ _ ⟨h1, h2, h3⟩ => ⟨h1, h2, h3.own⟩
--== impl.multiply
theorem tv_new {w w1 w2 : World} {v : Value} {xs : List Int} (hI : Ints w1 w.heap.size v xs) (hb : Below w.heap.size w w1) (hc : ChgS (fun k => v.ownBlock = some k) w1 w2) : Below w.heap.size w w2 :=
  hb.trans (hc.below (fun k hk => (hI.lt k hk).1) hb.size)
theorem rd_new {w w1 : World} {v u : Value} {xs ys : List Int} (hI : Ints w1 w.heap.size v xs) (hb : Below w.heap.size w w1) (hr : Rd w u ys) : ∀ w', ChgS (fun k => v.ownBlock = some k) w1 w' → Rd w' u ys :=
  fun _ hc => hr.below (tv_new hI hb hc)
set_option maxHeartbeats 1000000 in
theorem i_multiply (vp va vb : Value) (p : Pres) (s : Nat) (a b : List Int) (w : World) (hp : PtrP w vp p) (hV : ValidP p) (hG : GT p s) (ha : Rd w va a) (hb : Rd w vb b) (ka : VI p s a) (kb : VI p s b) :
    Calls Try.prog 196 #[vp, va, vb] w (RetInts w (p.at s a b)) := by
  have hn6 := hV.n6
  go_enter Try.func196, Try.ntmps196
  go_wp2_with fail
  refine (f_Clone _ a _ ha (by rw [ka.len]; omega)).mono ?_
  rintro e w1 ⟨u, rfl, hI, hB⟩
  go_wp2_with fail
  refine (i_tv hp hV hG w.heap.size b _ u a _ kb (rd_new hI hB hb) ka hI (Nat.le_refl _) hB).mono ?_
  rintro e w2 ⟨rfl, hI2, hC⟩
  have hB2 := tv_new hI hB hC
  clear hI hC hB
  go_wp2_with fail
  go_ret
  exact ⟨_, rfl, hI2, hB2⟩
--== impl.power
set_option maxHeartbeats 1000000 in
theorem i_power (vp va : Value) (p : Pres) (s : Nat) (a : List Int) (k : Nat) (w : World) (hp : PtrP w vp p) (hV : ValidP p) (hG : GT p s) (ha : Rd w va a) (ka : VI p s a) (hk : k ≤ 4611686018427387904) :
    Calls Try.prog 192 #[vp, va, .int .i64 k] w (RetInts w (pw (p.at s) p.zv a k)) := by
  obtain ⟨i0, hi, hz0, hz1, hz2⟩ := info_parts Try.info2
  have hn6 := hV.n6
  obtain ⟨ao, cap, rfl, _, _⟩ := ha.formN ka.len
  go_enter Try.func192, Try.ntmps192
  go_wp2_with (at_make; refine wp_mkInts _ rfl _ _ rfl i0 Try.underlying22 hi hz0 hz1 hz2 _ _ _ _ p.n rfl rfl rfl rfl (by omega) ?_)
  intro w1 hI hB hlt
  have hI1 : Ints w1 w.heap.size (.slice (some ⟨w.heap.size, 0, none⟩) p.n p.n) p.zv := hI
  clear hI
  go_wp2_with fail
  go_loopw [12] (fun i wr => ∃ j : Nat, j ≤ k ∧ i = .int .i64 j ∧ Ints wr w.heap.size (.slice (some ⟨w.heap.size, 0, none⟩) p.n p.n) (pw (p.at s) p.zv a j) ∧ Below w.heap.size w wr) (fun i _ => k - (intOf i).toNat)
  case atStart => exact ⟨0, Nat.zero_le _, rfl, hI1, hB⟩
  case round =>
    clear hI1 hB hlt
    obtain ⟨j, hj, rfl, hI, hB⟩ := hrel
    by_cases hjk : j < k
    · go_wp2_with fail
      refine (i_tv hp hV hG w.heap.size a _ _ _ _ ka (rd_new hI hB ha) (hG.pw ka j) hI (Nat.le_refl _) hB).mono ?_
      rintro e w2 ⟨rfl, hI2, hC⟩
      have hB2 := tv_new hI hB hC
      clear hI hC hB
      go_wp2_with fail
      go_roundw
      case rel => exact ⟨j + 1, by omega, by go_num, hI2, hB2⟩
      case measure => simp [intOf]; omega
    · obtain rfl : j = k := by omega
      go_wp2_with fail
      go_ret
      exact ⟨_, rfl, hI, hB⟩
--== impl.imageBy
theorem img_TG {p : Pres} {i : Nat} (hi : i < p.n) {x : List Int} (hx : VI p (i + 1) x) : TG p (i + 1) i p.zv (lw (x.drop (i + 1))) = p.img i x := by
  have hl : i < x.length := by rw [hx.len]; exact hi
  have e1 : lw x = bh x i := by
    rw [lw_parts x hl, ltTo_nil (fun t ht => hx.zero t (by omega)), show lwAt x i = [] by (unfold lwAt; rw [hx.zero i (by omega)]; rfl)]; rfl
  unfold Pres.img imgM
  rw [e1, bh_drop, pr, List.foldl_map]; rfl
set_option maxHeartbeats 2000000 in
theorem i_imageBy (vp vx : Value) (p : Pres) (i : Nat) (x : List Int) (w : World) (hp : PtrP w vp p) (hV : ValidP p) (hG : GT p (i + 1)) (hin : i < p.n) (hx : Rd w vx x) (kx : VI p (i + 1) x) :
    Calls Try.prog 193 #[vp, .int .i64 i, vx] w (RetInts w (p.img i x)) := by
  obtain ⟨i0, hi, hz0, hz1, hz2⟩ := info_parts Try.info2
  have HIm := Lib.hid (img_TG hin kx)
  have hn6 := hV.n6
  have HP := Lib.hid hp
  obtain ⟨pb, v1, v2, v3, rfl, c1, c2, c3, R1, R2, R3⟩ := hp
  obtain ⟨p3, q3, rfl, _, _⟩ := R3.form
  have hl3 := hV.cl
  obtain ⟨b3, o3, r3, rfl, k3, RC⟩ := R3.at (j := i) (by omega)
  have hcl := hV.clen i hin
  obtain ⟨a3, z3, rfl, _, _⟩ := RC.formN (n := p.n - (i + 1)) (by omega)
  have hiq : i < p.conj.length := by omega
  obtain ⟨ao, cap, rfl, _, _⟩ := hx.formN kx.len
  have HX := Lib.hid hx
  have HK := Lib.hid kx
  have HCL := Lib.hid hcl
  have KEEP : Hid (∀ wx, Below w.heap.size w wx → wx.cell? ⟨pb, 2, none⟩ = some (.slice (some ⟨b3, o3, none⟩) p.conj.length q3) ∧ wx.cell? ⟨b3, o3 + i, none⟩ = some (.slice a3 (p.n - (i + 1)) z3)) := fun wx hb =>
    ⟨below_cells hb _ _ c3, below_cells hb _ _ k3⟩
  clear hx kx hcl hl3 c1 c2 c3 k3 R1 R2 R3
  go_enter Try.func193, Try.ntmps193
  go_wp2_with (at_make; refine wp_mkInts _ rfl _ _ rfl i0 Try.underlying22 hi hz0 hz1 hz2 _ _ _ _ p.n rfl rfl rfl rfl (by omega) ?_)
  intro w1 hI hB hlt
  have hI1 : Ints w1 w.heap.size (.slice (some ⟨w.heap.size, 0, none⟩) p.n p.n) p.zv := hI
  obtain ⟨K1, K2⟩ := KEEP.out _ hB
  clear hI
  go_wp2_with fail
  clear K1 K2
  go_loopw [21] (fun t wr => ∃ k : Nat, k ≤ p.n - (i + 1) ∧ t = .int .i64 k ∧ Ints wr w.heap.size (.slice (some ⟨w.heap.size, 0, none⟩) p.n p.n) (TG p (i + 1) i p.zv (ltTo (x.drop (i + 1)) k)) ∧ Below w.heap.size w wr) (fun t _ => p.n - (intOf t).toNat)
  case atStart => exact ⟨0, Nat.zero_le _, rfl, hI1, hB⟩
  case round =>
    clear hI1 hB hlt
    obtain ⟨k, hk, rfl, hI, hB⟩ := hrel
    by_cases hlt : k < p.n - (i + 1)
    · have hik : i + 1 + k < p.n := by omega
      obtain ⟨m1, hm1, hm7⟩ : ∃ m1 : Nat, x.getD (i + 1 + k) 0 = (m1 : Int) ∧ m1 ≤ 10 := by
        have h1 := HK.out.lo _ hik
        have h2 := HK.out.hi _ hik
        have h3 := (hV.rk _ hik).2
        exact ⟨(x.getD (i + 1 + k) 0).toNat, by omega, by omega⟩
      have HS := Lib.hid (ltTo_succ (x := x.drop (i + 1)) (i := k) (m := m1) (by rw [drop_getD]; exact hm1))
      obtain ⟨b6, o6, rfl, hcell⟩ := Rd.at (HX.out.below hB) (show i + 1 + k < x.length by rw [HK.out.len]; exact hik)
      rw [hm1] at hcell
      clear hm1
      have hkc : k < (p.conj.getD i []).length := by have := HCL.out; omega
      obtain ⟨b4, o4, r4, rfl, k4, RC4⟩ := RC.at hkc
      have HCe : Hid ((p.conj.getD i []).getD k [] = p.C i (i + 1 + k)) := by
        show _ = _; unfold Pres.C; rw [show i + 1 + k - i - 1 = k by omega]
      have hVI := hG.vd.cj i (i + 1 + k) (by omega) hik
      obtain ⟨a5, z5, rfl, _, _⟩ := RC4.formN (n := p.n) (by rw [HCe.out]; exact hVI.len)
      have K7 := below_cells hB _ _ k4
      have HVl : Hid (∀ l : Nat, VI p (i + 1) (TG p (i + 1) i p.zv (ltTo (x.drop (i + 1)) k ++ List.replicate l k))) := fun l =>
        hG.tgl' (VI.zv hG.vd _) (fun t ht => by
          rcases List.mem_append.1 ht with ht | ht
          · have := mem_ltTo' ht; omega
          · obtain ⟨_, rfl⟩ := List.mem_replicate.1 ht; omega)
      go_wp2_with fail
      go_loopw [33] (fun t wr2 => ∃ l : Nat, l ≤ m1 ∧ t = .int .i64 l ∧ Ints wr2 w.heap.size (.slice (some ⟨w.heap.size, 0, none⟩) p.n p.n) (TG p (i + 1) i p.zv (ltTo (x.drop (i + 1)) k ++ List.replicate l k)) ∧ Below w.heap.size w wr2) (fun t _ => m1 - (intOf t).toNat)
      case atStart => exact ⟨0, Nat.zero_le _, rfl, by simpa using hI, hB⟩
      case round =>
        clear hI hB hcell K7
        obtain ⟨l, hl, rfl, hI, hB⟩ := hrel
        by_cases hlm : l < m1
        · have HN : Hid (TG p (i + 1) i p.zv (ltTo (x.drop (i + 1)) k ++ List.replicate (l + 1) k) = p.at (i + 1) (TG p (i + 1) i p.zv (ltTo (x.drop (i + 1)) k ++ List.replicate l k)) (p.C i (i + 1 + k))) := by
            show _ = _
            rw [List.replicate_succ', ← List.append_assoc, TG_snoc]
          go_wp2_with fail
          refine (i_tv HP.out hV hG w.heap.size (p.C i (i + 1 + k)) _ _ _ _ hVI (rd_new hI hB (by rw [← HCe.out]; exact RC4)) (HVl.out l) hI (Nat.le_refl _) hB).mono ?_
          rintro e' w6 ⟨rfl, hI6, hC6⟩
          have hB6 := tv_new hI hB hC6
          clear hI hB hC6
          go_wp2_with fail
          go_roundw
          case rel => exact ⟨l + 1, by omega, by go_num, by rw [HN.out]; exact hI6, hB6⟩
          case measure => simp [intOf]; omega
        · obtain rfl : l = m1 := by omega
          go_wp2_with fail
          go_roundw
          case rel => exact ⟨k + 1, by omega, by go_num, by rw [HS.out]; exact hI, hB⟩
          case measure => simp [intOf]; omega
    · obtain rfl : k = p.n - (i + 1) := by omega
      go_wp2_with fail
      go_ret
      refine ⟨_, rfl, ?_, hB⟩
      have e1 : (x.drop (i + 1)).length = p.n - (i + 1) := by rw [List.length_drop, HK.out.len]
      rw [← e1, ltTo_all, HIm.out] at hI
      exact hI
--== impl.invert
def cellInt (w : World) (a : Addr) : Int := match w.cell? a with | some (.int _ n) => n | _ => 0
def leftOf (r : Int) (w : World) (a : Addr) : Nat := if cellInt w a = 0 then 0 else (r - cellInt w a).toNat
theorem leftOf_eq {r n : Int} {w : World} {a : Addr} (h : w.cell? a = some (.int .i64 n)) : leftOf r w a = if n = 0 then 0 else (r - n).toNat := by
  have : cellInt w a = n := by unfold cellInt; rw [h]
  unfold leftOf; rw [this]
theorem rd_cell {w : World} {b off n cap : Nat} {xs : List Int} (h : Rd w (.slice (some ⟨b, off, none⟩) n cap) xs) {j : Nat} (hj : j < xs.length) : w.cell? ⟨b, off + j, none⟩ = some (.int .i64 (xs.getD j 0)) := by
  obtain ⟨b', off', he, hc⟩ := h.at hj
  cases he; exact hc
set_option maxHeartbeats 2000000 in
theorem i_invert (vp va : Value) (p : Pres) (s : Nat) (a : List Int) (w : World) (hp : PtrP w vp p) (hV : ValidP p) (hG : GT p s) (ha : Rd w va a) (ka : VI p s a) :
    Calls Try.prog 187 #[vp, va] w (RetInts w (p.inv s a)) := by
  obtain ⟨i0, hi, hz0, hz1, hz2⟩ := info_parts Try.info2
  have hn6 := hV.n6
  have KA := Lib.hid ka
  obtain ⟨ao, cap, rfl, _, _⟩ := ha.formN ka.len
  clear ka
  go_enter Try.func187, Try.ntmps187
  go_wp2_with fail
  refine (f_Clone _ a _ ha (by rw [KA.out.len]; omega)).mono ?_
  rintro e w1 ⟨u, rfl, hI1, hB1⟩
  obtain ⟨au, cu, rfl, _, _⟩ := hI1.rd.formN KA.out.len
  have hlt1 := hI1.lt
  have hs1 := hB1.size
  go_wp2_with (at_make; refine wp_mkInts _ rfl _ _ rfl i0 Try.underlying22 hi hz0 hz1 hz2 _ _ _ _ p.n rfl rfl rfl rfl (by omega) ?_)
  intro w2 hJ hB hlt
  have hI2 := hI1.below hB
  have hB2 := below_size hB1 hB
  have hJ2 : Ints w2 w1.heap.size (.slice (some ⟨w1.heap.size, 0, none⟩) p.n p.n) p.zv := hJ
  have HLT := Lib.hid hlt1
  clear hI1 hB1 hJ hB hlt hlt1
  go_wp2_with fail
  go_loopw [15] (fun t wr => ∃ i : Nat, i ≤ p.n ∧ t = .int .i64 i ∧ (∃ u, VI p s u ∧ (∀ k, k < i → (p.at s a u).getD k 0 = 0) ∧ Ints wr w.heap.size (.slice au p.n cu) (p.at s a u) ∧ Ints wr w1.heap.size (.slice (some ⟨w1.heap.size, 0, none⟩) p.n p.n) u) ∧ Below w.heap.size w wr) (fun t _ => p.n - (intOf t).toNat)
  case atStart => exact ⟨0, Nat.zero_le _, rfl, ⟨p.zv, VI.zv hG.vd _, fun k hk => by omega, by rw [hG.G.oner KA.out]; exact hI2, hJ2⟩, hB2⟩
  case round =>
    clear hI2 hJ2 hB2
    obtain ⟨i, hik, rfl, ⟨u, hu, hz, hI, hJ⟩, hB⟩ := hrel
    by_cases hlt : i < p.n
    · have hr := hV.rk i hlt
      obtain ⟨b6, o6, rfl, hcell⟩ := Rd.at hI.rd (show i < (p.at s a u).length by rw [(hG.at KA.out hu).len]; exact hlt)
      have hb6 := HLT.out b6 rfl
      have HU : Hid (∃ u, VI p s u ∧ (∀ k, k < i → (p.at s a u).getD k 0 = 0) ∧ Ints wr w.heap.size (.slice (some ⟨b6, o6, none⟩) p.n cu) (p.at s a u) ∧ Ints wr w1.heap.size (.slice (some ⟨w1.heap.size, 0, none⟩) p.n p.n) u) := ⟨u, hu, hz, hI, hJ⟩
      clear hcell hI hJ hu hz u
      go_wp2_with fail
      go_loopw [22] (fun _ wr2 => (∃ u, VI p s u ∧ (∀ k, k < i → (p.at s a u).getD k 0 = 0) ∧ Ints wr2 w.heap.size (.slice (some ⟨b6, o6, none⟩) p.n cu) (p.at s a u) ∧ Ints wr2 w1.heap.size (.slice (some ⟨w1.heap.size, 0, none⟩) p.n p.n) u) ∧ Below w.heap.size w wr2) (fun _ wr2 => leftOf (p.r i) wr2 ⟨b6, o6 + i, none⟩)
      case atStart => exact ⟨HU.out, hB⟩
      case round =>
        clear HU hB
        obtain ⟨⟨u, hu, hz, hI, hJ⟩, hB⟩ := hrel
        have hau := hG.at KA.out hu
        have hcell := rd_cell hI.rd (j := i) (by rw [hau.len]; exact hlt)
        have h0 := hau.lo i hlt
        have h1 := hau.hi i hlt
        have hsz := hB.size
        obtain ⟨c, Hc⟩ := nam ((p.at s a u).getD i 0)
        rw [Hc.out] at hcell h0 h1
        by_cases hc : c = 0
        · subst hc
          have Hu := Lib.hid hu
          have Hz := Lib.hid hz
          clear hu hz hau
          go_wp2_with fail
          go_roundw
          case rel => exact ⟨i + 1, by omega, by go_num, ⟨u, Hu.out, fun k hk => by
            by_cases h : k = i
            · subst h; exact Hc.out
            · exact Hz.out k (by omega), hI, hJ⟩, hB⟩
          case measure => simp [intOf]; omega
        · have hsi : s ≤ i := by
            by_cases h : s ≤ i
            · exact h
            · have := hau.zero i (by omega); rw [Hc.out] at this; exact absurd this hc
          have D1 : (c == 0) = false := by simpa using hc
          have D2 : (c != 0) = true := by simpa using hc
          obtain ⟨s1, s2⟩ := hG.step hsi hlt hau hz
          rw [Hc.out] at s2
          have HM := Lib.hid (leftOf_eq (r := p.r i) hcell)
          have hass := hG.G.assoc KA.out hu (hG.uv hsi hlt)
          have hu' := hG.at hu (hG.uv hsi hlt)
          have Hu := Lib.hid hu
          have Hau := Lib.hid hau
          have S1 := Lib.hid s1
          have S2 := Lib.hid s2
          have HA := Lib.hid hass
          have Hu' := Lib.hid hu'
          have HC0 := Lib.hid hc
          clear hc hz hu hau s1 s2 hass hu'
          go_wp2_with fail
          refine (i_tg hp hV hG w.heap.size i _ _ _ hsi hlt Hau.out hI (Nat.le_refl _) hB).mono ?_
          rintro e w3 ⟨rfl, hI3, hC3⟩
          have hJ3 := hJ.chgS hC3 (fun g hg h => by have := hJ.lt g hg; simp only [Value.ownBlock] at h; cases h; omega)
          have hB3 := hB.trans (hC3.below (fun k hk => by simp only [Value.ownBlock] at hk; cases hk; omega) hsz)
          have hsz3 := hB3.size
          clear hI hJ hB hC3 hcell
          go_wp2_with fail
          refine (i_tg hp hV hG w1.heap.size i _ _ _ hsi hlt Hu.out hJ3 hs1 hB3).mono ?_
          rintro e w4 ⟨rfl, hJ4, hC4⟩
          have hI4 := hI3.chgS hC4 (fun g hg h => by have := HLT.out g hg; simp only [Value.ownBlock] at h; cases h; omega)
          have hB4 := hB3.trans (hC4.below (fun k hk => by simp only [Value.ownBlock] at hk; cases hk; omega) hsz3)
          rw [HA.out] at hI4
          have hcell4 := Lib.hid (rd_cell hI4.rd (j := i) (by rw [(hG.at KA.out Hu'.out).len]; exact hlt))
          clear hJ3 hI3 hB3 hC4
          go_wp2_with fail
          go_roundw
          case rel => exact ⟨⟨_, Hu'.out, by rw [← HA.out]; exact S1.out, hI4, hJ4⟩, hB4⟩
          case measure =>
            have e1 := leftOf_eq (r := p.r i) hcell4.out
            rw [HM.out, e1, ← HA.out, S2.out]
            have := HC0.out
            rw [if_neg this]
            by_cases hcr : c + 1 = p.r i
            · rw [if_pos hcr]; simp; omega
            · rw [if_neg hcr, if_neg (by omega)]; omega
    · obtain rfl : i = p.n := by omega
      have hau := hG.at KA.out hu
      have hin : u = p.inv s a := hG.inv_eq KA.out hu (VI.top ⟨hau.len, hau.lo, hau.hi, hz⟩)
      rw [hin] at hJ
      have HJ : Hid (Ints wr w.heap.size (.slice (some ⟨w1.heap.size, 0, none⟩) p.n p.n) (p.inv s a)) := hJ.mono hs1
      clear hI hJ hu hz hau hin
      go_wp2_with fail
      go_ret
      exact ⟨_, rfl, HJ.out, hB⟩
--== impl.conjugate
set_option maxHeartbeats 1000000 in
theorem i_conjugate (vp va vb : Value) (p : Pres) (s : Nat) (a b : List Int) (w : World) (hp : PtrP w vp p) (hV : ValidP p) (hG : GT p s) (ha : Rd w va a) (hb : Rd w vb b) (ka : VI p s a) (kb : VI p s b) :
    Calls Try.prog 194 #[vp, va, vb] w (RetInts w (p.at s (p.inv s b) (p.at s a b))) := by
  go_enter Try.func194, Try.ntmps194
  go_wp2_with fail
  refine (i_invert _ _ p s b _ hp hV hG hb kb).mono ?_
  rintro e w1 ⟨u, rfl, hI, hB⟩
  go_wp2_with fail
  refine (i_multiply _ _ _ p s a b _ (hp.below hB) hV hG (ha.below hB) (hb.below hB) ka kb).mono ?_
  rintro e w2 ⟨u2, rfl, hI2, hB2⟩
  have hB3 := below_size hB hB2
  go_wp2_with fail
  refine (i_multiply _ _ _ p s _ _ _ (hp.below hB3) hV hG (hI.below hB2).rd hI2.rd (hG.inv kb) (hG.at ka kb)).mono ?_
  rintro e w4 ⟨u4, rfl, hI4, hB4⟩
  have hB5 := below_size hB3 hB4
  have hI5 := hI4.mono hB3.size
  clear hI hI2 hB hB2 hB3 hB4 hI4
  go_wp2_with fail
  go_ret
  exact ⟨_, rfl, hI5, hB5⟩
end Go.Proofs.Ythnpndheaailjaa
