/-
  Homomorphisms: both sides.
-/
import Derived.Test.YthnpndheaailjaaPto
import Derived.Test.YthnpndheaailjaaRwd
namespace Go.Proofs.Ythnpndheaailjaa
set_option linter.unusedVariables false
set_option linter.unusedSimpArgs false
set_option maxRecDepth 100000
open Go.RowKit

/-! ### plain -/
noncomputable def relZ (t : Pres) (L R : List (List Int)) : Bool := R.all fun r => zeroB (evTo t L r r.length)
noncomputable def homB (s t : Pres) (L : List (List Int)) : Bool := conB s && (conB t && (decide (L.length = s.n) && (allT t L && relZ t L (relL s))))
theorem relZ_no {t : Pres} {L R : List (List Int)} {j : Nat} (hj : j < R.length) (h : zeroB (evTo t L (R.getD j []) (R.getD j []).length) = false) : relZ t L R = false :=
  List.all_eq_false.2 ⟨_, getL_mem hj, by rw [h]; exact Bool.false_ne_true⟩
theorem relZ_of {t : Pres} {L R : List (List Int)} (h2 : ∀ j, j < R.length → zeroB (evTo t L (R.getD j []) (R.getD j []).length) = true) : relZ t L R = true := by
  refine List.all_eq_true.2 fun v hv => ?_
  obtain ⟨k, hk, rfl⟩ := List.mem_iff_getElem.1 hv
  have := h2 k hk
  rwa [List.getD_eq_getElem?_getD, List.getElem?_eq_getElem hk] at this
theorem homB_1 {s t : Pres} {L : List (List Int)} (h : conB s = false) : homB s t L = false := by simp [homB, h]
theorem homB_2 {s t : Pres} {L : List (List Int)} (h : conB t = false) : homB s t L = false := by simp [homB, h]
theorem homB_3 {s t : Pres} {L : List (List Int)} (h : ¬ L.length = s.n) : homB s t L = false := by unfold homB; rw [decide_eq_false h]; simp
theorem homB_4 {s t : Pres} {L : List (List Int)} (h : allT t L = false) : homB s t L = false := by simp [homB, h]
theorem homB_e {s t : Pres} {L : List (List Int)} (h : elsB t L = false) : homB s t L = false := by
  rw [elsB_allT] at h
  cases h1 : conB t with
  | false => exact homB_2 h1
  | true => rw [h1, Bool.true_and] at h; exact homB_4 h
theorem homB_5 {s t : Pres} {L : List (List Int)} (h1 : conB s = true) (h2 : conB t = true) (h3 : L.length = s.n) (h4 : allT t L = true) : homB s t L = relZ t L (relL s) := by
  unfold homB; rw [h1, h2, decide_eq_true h3, h4]; rfl
theorem allT_VI {t : Pres} {L : List (List Int)} (h : allT t L = true) : ∀ j, j < L.length → VI t 0 (L.getD j []) := fun j hj => tail_VI (List.all_eq_true.1 h _ (getL_mem hj))

/-! ### seven cells -/
section
variable {T : TypeId} {w w' : World} {b : Nat} {u0 u1 u2 u3 u4 u5 u6 : Value}
def Hx (T : TypeId) (w : World) (b : Nat) (u0 u1 u2 u3 u4 u5 u6 : Value) : Prop := w.heap[b]? = some (.cells #[u0, u1, u2, u3, u4, u5, u6] T (0, 0))
theorem Hx.lt (h : Hx T w b u0 u1 u2 u3 u4 u5 u6) : b < w.heap.size := (Array.getElem?_eq_some_iff.1 h).1
theorem Hx.cs (h : Hx T w b u0 u1 u2 u3 u4 u5 u6) : w.cell? ⟨b, 0, none⟩ = some u0 ∧ w.cell? ⟨b, 1, none⟩ = some u1 ∧ w.cell? ⟨b, 2, none⟩ = some u2 ∧ w.cell? ⟨b, 3, none⟩ = some u3 ∧ w.cell? ⟨b, 4, none⟩ = some u4 ∧ w.cell? ⟨b, 5, none⟩ = some u5 ∧ w.cell? ⟨b, 6, none⟩ = some u6 := by
  unfold Hx at h
  refine ⟨?_, ?_, ?_, ?_, ?_, ?_, ?_⟩ <;> simp [World.cell?, h]
theorem Hx.fr (h : Hx T w b u0 u1 u2 u3 u4 u5 u6) (o : Nat) : w.frozen? ⟨b, o, none⟩ = false := by unfold Hx at h; simp [World.frozen?, h]
theorem Hx.below {B : Nat} (h : Hx T w b u0 u1 u2 u3 u4 u5 u6) (hb : Below B w w') (hB : b < B) : Hx T w' b u0 u1 u2 u3 u4 u5 u6 := (hb.block b hB).trans h
theorem Hx.new (T : TypeId) (w : World) (u0 u1 u2 u3 u4 u5 u6 : Value) : Hx T (w.alloc (.cells #[u0, u1, u2, u3, u4, u5, u6] T)) w.heap.size u0 u1 u2 u3 u4 u5 u6 := heap_alloc_new w _
end
/-- seven values that read as a homomorphism's parts -/
def RdH (w : World) (u0 u1 u2 u3 u4 u5 u6 : Value) (s t : Pres) (L : List (List Int)) : Prop := RdP w u0 u1 u2 s ∧ RdP w u3 u4 u5 t ∧ Rd2 w u6 L
theorem RdH.below {w w' : World} {u0 u1 u2 u3 u4 u5 u6 : Value} {s t : Pres} {L : List (List Int)} (h : RdH w u0 u1 u2 u3 u4 u5 u6 s t L) (hb : Below w.heap.size w w') : RdH w' u0 u1 u2 u3 u4 u5 u6 s t L := ⟨h.1.below hb, h.2.1.below hb, h.2.2.below hb⟩
theorem RdH.forms {w : World} {u0 u1 u2 u3 u4 u5 u6 : Value} {s t : Pres} {L : List (List Int)} (h : RdH w u0 u1 u2 u3 u4 u5 u6 s t L) :
    (∃ a c, u0 = .slice a s.n c) ∧ (∃ a c, u1 = .slice a s.powers.length c) ∧ (∃ a c, u2 = .slice a s.conj.length c) ∧ (∃ a c, u3 = .slice a t.n c) ∧ (∃ a c, u4 = .slice a t.powers.length c) ∧ (∃ a c, u5 = .slice a t.conj.length c) ∧ ∃ a c, u6 = .slice a L.length c := by
  obtain ⟨⟨h1, h2, h3⟩, ⟨h4, h5, h6⟩, h7⟩ := h
  obtain ⟨a1, c1, e1, _⟩ := h1.formN (n := s.n) rfl
  obtain ⟨a2, c2, e2, _⟩ := h2.form
  obtain ⟨a3, c3, e3, _⟩ := h3.form
  obtain ⟨a4, c4, e4, _⟩ := h4.formN (n := t.n) rfl
  obtain ⟨a5, c5, e5, _⟩ := h5.form
  obtain ⟨a6, c6, e6, _⟩ := h6.form
  obtain ⟨a7, c7, e7, _⟩ := h7.form
  exact ⟨⟨_, _, e1⟩, ⟨_, _, e2⟩, ⟨_, _, e3⟩, ⟨_, _, e4⟩, ⟨_, _, e5⟩, ⟨_, _, e6⟩, ⟨_, _, e7⟩⟩
--== impl.respects
set_option maxHeartbeats 2000000 in
theorem i_respects {t : Pres} (hV : ValidP t) (hG : GT t 0) (vr vq vi : Value) (R L : List (List Int)) (w : World) (hr : Rd2 w vr R) (hq : PtrO w vq t) (hl : Rd2 w vi L)
    (hR : ∀ j, j < R.length → wordB (L.length : Int) (R.getD j []) = true) (hL : ∀ j, j < L.length → VI t 0 (L.getD j [])) (hn : L.length ≤ 6) (hn2 : R.length ≤ 1000000) :
    Calls Try.prog 153 #[vr, vq, vi] w (RetV w (.bool (relZ t L R))) := by
  have HQ := Lib.hid hq
  have HL := Lib.hid hl
  have HRr := Lib.hid hr
  have HR := Lib.hid hR
  have HK := Lib.hid hL
  obtain ⟨ar, cr, rfl, _, _⟩ := hr.form
  obtain ⟨al, cl, rfl, _, _⟩ := hl.form
  clear hq hl hr hR hL
  go_enter Try.func153, Try.ntmps153
  go_wp2_with fail
  go_loopw [11] (fun i wr => ∃ k : Nat, k ≤ R.length ∧ i = .int .i64 k ∧ (∀ j, j < k → zeroB (evTo t L (R.getD j []) (R.getD j []).length) = true) ∧ Below w.heap.size w wr) (fun i _ => R.length - (intOf i).toNat)
  case atStart => exact ⟨0, Nat.zero_le _, rfl, fun j hj => by omega, Below.refl _ _⟩
  case round =>
    obtain ⟨k, hk, rfl, hall, hB⟩ := hrel
    have HA := Lib.hid hall
    clear hall
    by_cases hlk : k < R.length
    · obtain ⟨bz, oz, r, rfl, hcz, hrz⟩ := (HRr.out.below hB).at hlk
      have HWd := Lib.hid (HR.out k hlk)
      have HF : Hid (zeroB (evTo t L (R.getD k []) (R.getD k []).length) = false → relZ t L R = false) := fun h => relZ_no hlk h
      obtain ⟨rk, hrk⟩ : ∃ rk, R.getD k [] = rk := ⟨_, rfl⟩
      have HRK := Lib.hid hrk
      rw [hrk] at HWd HF hrz
      clear hrk
      have HZ := Lib.hid hrz
      obtain ⟨az, cz, rfl, _, _⟩ := hrz.form
      have hev := o_evaluate hV hG _ _ _ rk L wr (HQ.out.below hB) HZ.out (HL.out.below hB) HWd.out HK.out hn
      have HEV := Lib.hid hev
      obtain ⟨fb, hfb⟩ : ∃ fb, zeroB (evTo t L rk rk.length) = fb := ⟨_, rfl⟩
      have HFB := Lib.hid hfb
      obtain ⟨z, hze⟩ : ∃ z, evTo t L rk rk.length = z := ⟨_, rfl⟩
      rw [hze] at HFB hfb HF HEV
      have HZE := Lib.hid hze
      clear hze
      clear hev hrz
      go_wp2_with fail
      refine HEV.out.mono ?_
      rintro e w4 ⟨u4, rfl, hI4, hb⟩
      have hB4 := below_size hB hb
      have HI4 := Lib.hid hI4.rd
      obtain ⟨a4, c4, rfl, _, _⟩ := hI4.form
      clear hI4 hb HEV
      go_wp2_with fail
      refine (i_isZero _ _ w4 HI4.out).mono ?_
      rintro e w' ⟨rfl, rfl⟩
      rw [hfb]
      clear hfb
      cases fb with
      | false =>
        have HX := Lib.hid (HF.out HFB.out)
        go_wp2_with fail
        go_ret
        exact ⟨ret_bool HX.out.symm, hB4⟩
      | true =>
        go_wp2_with fail
        go_roundw
        case rel => exact ⟨k + 1, by omega, by go_num, fun j hj => by
          by_cases h : j = k
          · subst h; rw [HRK.out, HZE.out]; exact HFB.out
          · exact HA.out j (by omega), hB4⟩
        case measure => simp [intOf]; omega
    · obtain rfl : k = R.length := by omega
      have HX := Lib.hid (relZ_of HA.out)
      go_wp2_with fail
      go_ret
      exact ⟨ret_bool HX.out.symm, hB⟩
--== spec.l16Relators
set_option maxHeartbeats 4000000 in
theorem s_l16Relators {s t : Pres} (hs : validB s = true) (hV : ValidP t) (hG : GT t 0) (u0 u1 u2 u3 u4 u5 vi : Value) (L : List (List Int)) (w : World) (h1 : RdP w u0 u1 u2 s) (h2 : RdP w u3 u4 u5 t) (hl : Rd2 w vi L)
    (hR : ∀ j, j < (relL s).length → wordB (L.length : Int) ((relL s).getD j []) = true) (hL : ∀ j, j < L.length → VI t 0 (L.getD j [])) (hn : L.length ≤ 6) :
    Calls Try.prog 104 #[.agg #[u0, u1, u2], .agg #[u3, u4, u5], vi] w (RetV w (.bool (relZ t L (relL s)))) := by
  obtain ⟨⟨a0, c0, rfl⟩, ⟨a1, c1, rfl⟩, ⟨a2, c2, rfl⟩, ⟨a3, c3, rfl⟩, ⟨a4, c4, rfl⟩, ⟨a5, c5, rfl⟩, ⟨a6, c6, rfl⟩⟩ := RdH.forms ⟨h1, h2, hl⟩
  have H1 := Lib.hid h1
  have H2 := Lib.hid h2
  have HL := Lib.hid hl
  have HR := Lib.hid hR
  have HK := Lib.hid hL
  have g0 := Lib.hid (below_allocs2 w (Obj.cells #[Value.slice a0 s.n c0, Value.slice a1 s.powers.length c1, Value.slice a2 s.conj.length c2] 32) (Obj.cells #[Value.slice a3 t.n c3, Value.slice a4 t.powers.length c4, Value.slice a5 t.conj.length c5] 32))
  have x0 := Bx.new (w.alloc (Obj.cells #[Value.slice a0 s.n c0, Value.slice a1 s.powers.length c1, Value.slice a2 s.conj.length c2] 32)) (Value.slice a3 t.n c3) (Value.slice a4 t.powers.length c4) (Value.slice a5 t.conj.length c5)
  rw [show (w.alloc (Obj.cells #[Value.slice a0 s.n c0, Value.slice a1 s.powers.length c1, Value.slice a2 s.conj.length c2] 32)).heap.size = w.heap.size + 1 by simp] at x0
  have X0 := Lib.hid x0
  clear h1 h2 hl hR hL x0
  go_enter Try.func104, Try.ntmps104
  go_wp2_with fail
  refine (s_l07Relators _ _ _ s _ (H1.out.below g0.out) hs).mono ?_
  rintro e w1 ⟨u, rfl, hO, hb⟩
  have HO := Lib.hid (O2.rd hO)
  have gB := Lib.hid (below_size g0.out hb)
  have X1 := Lib.hid (X0.out.below hb X0.out.lt)
  obtain ⟨ar, cr, rfl, _, _⟩ := HO.out.form
  clear hO hb
  go_wp2_with fail
  go_loopw [8] (fun i wr => ∃ k : Nat, k ≤ (relL s).length ∧ i = .int .i64 k ∧ (∀ j, j < k → zeroB (evTo t L ((relL s).getD j []) ((relL s).getD j []).length) = true) ∧ Below w1.heap.size w1 wr) (fun i _ => (relL s).length - (intOf i).toNat)
  case atStart => exact ⟨0, Nat.zero_le _, rfl, fun j hj => by omega, Below.refl _ _⟩
  case round =>
    obtain ⟨k, hk, rfl, hall, hB⟩ := hrel
    have HA := Lib.hid hall
    have HBW := Lib.hid hB
    have gW := Lib.hid (below_size gB.out hB)
    clear hall
    by_cases hlk : k < (relL s).length
    · obtain ⟨bz, oz, r, rfl, hcz, hrz⟩ := (HO.out.below hB).at hlk
      have HWd := Lib.hid (HR.out k hlk)
      have HF : Hid (zeroB (evTo t L ((relL s).getD k []) ((relL s).getD k []).length) = false → relZ t L (relL s) = false) := fun h => relZ_no hlk h
      obtain ⟨az, cz, hze, _, _⟩ := hrz.form
      obtain ⟨nz, hnz⟩ : ∃ nz, ((relL s).getD k []).length = nz := ⟨_, rfl⟩
      rw [hnz] at hze
      subst hze
      obtain ⟨fb, hfb⟩ : ∃ fb, zeroB (evTo t L ((relL s).getD k []) ((relL s).getD k []).length) = fb := ⟨_, rfl⟩
      have HFB := Lib.hid hfb
      have hX := X1.out.below hB X1.out.lt
      have m0 := hX.c0
      have m1 := hX.c1
      have m2 := hX.c2
      have HEV : Hid (∀ wx, Below wr.heap.size wr wx → Calls Try.prog 150 #[.agg #[Value.slice a3 t.n c3, Value.slice a4 t.powers.length c4, Value.slice a5 t.conj.length c5], .slice az nz cz, .slice a6 L.length c6] wx (RetInts wx (evTo t L ((relL s).getD k []) ((relL s).getD k []).length))) := fun wx hb =>
        s_l10Eval hV hG _ _ _ _ _ ((relL s).getD k []) L wx (H2.out.below (below_size gW.out hb)) (hrz.below hb) (HL.out.below (below_size gW.out hb)) HWd.out HK.out hn
      have KEEP : Hid (∀ wx, Below wr.heap.size wr wx → Below wr.heap.size wr wx ∧ wx.cell? ⟨w.heap.size + 1, 0, none⟩ = some (Value.slice a3 t.n c3) ∧ wx.cell? ⟨w.heap.size + 1, 1, none⟩ = some (Value.slice a4 t.powers.length c4) ∧ wx.cell? ⟨w.heap.size + 1, 2, none⟩ = some (Value.slice a5 t.conj.length c5) ∧ wx.cell? ⟨bz, oz + k, none⟩ = some (Value.slice az nz cz)) := fun wx hb =>
        ⟨hb, below_cells hb _ _ m0, below_cells hb _ _ m1, below_cells hb _ _ m2, below_cells hb _ _ hcz⟩
      have hk0 : (0 : Int) ≤ (k : Int) := by omega
      have hk1 : (k : Int) < ((relL s).length : Int) := by omega
      clear hrz hcz m0 m1 m2 hX hB hnz
      obtain ⟨z, hze⟩ : ∃ z, evTo t L ((relL s).getD k []) ((relL s).getD k []).length = z := ⟨_, rfl⟩
      rw [hze] at HFB hfb HF HEV
      have HZE := Lib.hid hze
      clear hze
      go_wp2_with fail
      go_region_held3 (fun wx => Below wr.heap.size wr wx ∧ wx.cell? ⟨w.heap.size + 1, 0, none⟩ = some (Value.slice a3 t.n c3) ∧ wx.cell? ⟨w.heap.size + 1, 1, none⟩ = some (Value.slice a4 t.powers.length c4) ∧ wx.cell? ⟨w.heap.size + 1, 2, none⟩ = some (Value.slice a5 t.conj.length c5) ∧ wx.cell? ⟨bz, oz + k, none⟩ = some (Value.slice az nz cz))
        (first | exact KEEP.out _ (Below.refl _ _).drew | exact KEEP.out _ (below_size (And.left (by assumption)) (by assumption)) | assumption)
        (first
          | ((go_at_call 150); (with_reducible refine (HEV.out _ (And.left (by assumption))).mono ?_); (rintro e w2 ⟨u2, rfl, hI2, hB2⟩); (obtain ⟨az2, cz2, rfl, _, _⟩ := hI2.form))
          | ((go_at_call 149); (with_reducible refine (s_l01Zero _ _ _ hI2.rd).mono ?_); (rintro e w3 ⟨rfl, rfl⟩)))
      have hB3 : Below wr.heap.size wr w2 := And.left (by assumption)
      have hB4 := below_size gW.out hB3
      have hB5 := below_size HBW.out hB3
      (try rw [hfb])
      clear hB2 hB3 KEEP HEV hI2 hk0 hk1 hfb
      cases fb with
      | false =>
        have HX := Lib.hid (HF.out HFB.out)
        go_wp2_with fail
        go_ret
        exact ⟨ret_bool HX.out.symm, hB4⟩
      | true =>
        go_wp2_with fail
        go_roundw
        case rel => exact ⟨k + 1, by omega, by go_num, fun j hj => by
          by_cases h : j = k
          · subst h; rw [HZE.out]; exact HFB.out
          · exact HA.out j (by omega), hB5⟩
        case measure => simp [intOf]; omega
    · obtain rfl : k = (relL s).length := by omega
      have HX := Lib.hid (relZ_of HA.out)
      go_wp2_with fail
      go_ret
      exact ⟨ret_bool HX.out.symm, gW.out⟩
end Go.Proofs.Ythnpndheaailjaa
