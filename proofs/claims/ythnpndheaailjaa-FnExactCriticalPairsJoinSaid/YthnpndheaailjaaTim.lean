/-
  The program's products in place: timesGenerator, timesVector.
-/
import Derived.Test.YthnpndheaailjaaTriv
import Derived.Test.YthnpndheaailjaaPer
import Derived.Outline
namespace Go.Proofs.Ythnpndheaailjaa
set_option linter.unusedVariables false
set_option linter.unusedSimpArgs false
set_option maxRecDepth 100000
open Go.RowKit

--== plain
/-- v reads as xs, whatever is written to block g -/
def RdA (w : World) (g : Nat) (v : Value) (xs : List Int) : Prop := ∀ w', Chg g (g + 1) w w' → Rd w' v xs
theorem Chg.refl1 (g : Nat) (w : World) : Chg g (g + 1) w w := Chg.refl _ _ _
theorem Chg.then1 {g : Nat} {a b c : World} (h : Chg g (g + 1) a b) (k : Chg g (g + 1) b c) : Chg g (g + 1) a c := h.trans k (Nat.le_refl _) (Nat.le_refl _) (Nat.le_refl _) (Nat.le_refl _)
theorem RdA.now {w : World} {g : Nat} {v : Value} {xs : List Int} (h : RdA w g v xs) : Rd w v xs := h w (Chg.refl1 _ _)
theorem RdA.chg {w w' : World} {g : Nat} {v : Value} {xs : List Int} (h : RdA w g v xs) (hc : Chg g (g + 1) w w') : RdA w' g v xs := fun u hu => h u (hc.then1 hu)
theorem below_chg1 {w0 w w' : World} {g : Nat} (h : Below w0.heap.size w0 w) (hc : Chg g (g + 1) w w') (hg : w0.heap.size ≤ g) : Below w0.heap.size w0 w' := h.trans (hc.below hg h.size)
theorem RdA.of {w0 w : World} {g : Nat} {v : Value} {xs : List Int} (h : Rd w0 v xs) (hb : Below w0.heap.size w0 w) (hg : w0.heap.size ≤ g) : RdA w g v xs := fun _ hu => h.below (below_chg1 hb hu hg)
theorem RdA.own {w : World} {B g : Nat} {v : Value} {xs : List Int} (h : Ints w B v xs) (hd : ∀ k, v.ownBlock = some k → k ≠ g) : RdA w g v xs := fun _ hu => (h.chg hu fun k hk => by have := hd k hk; omega).rd
theorem Chg.drewN {lo hi : Nat} {w w' : World} (h : Chg lo hi w w') (n : Nat) : Chg lo hi w (w'.drewN n) := ⟨h.os, h.tape, h.output, h.size, h.block⟩

def TV (p : Pres) (s : Nat) (e : List Int) (l : List Nat) : List Int := l.foldl (fun u k => p.at s u (p.uv k)) e
theorem TV_nil (p : Pres) (s : Nat) (e : List Int) : TV p s e [] = e := rfl
theorem TV_snoc (p : Pres) (s : Nat) (e : List Int) (l : List Nat) (j : Nat) : TV p s e (l ++ [j]) = p.at s (TV p s e l) (p.uv j) := by simp [TV]
theorem GT.tvl {p : Pres} {s : Nat} (h : GT p s) {e : List Int} (he : VI p s e) {l : List Nat} (hl : ∀ k ∈ l, s ≤ k ∧ k < p.n) : VI p s (TV p s e l) :=
  fold_closed h.G p.uv l (fun k hk => h.uv (hl k hk).1 (hl k hk).2) e he
theorem mem_ltTo {p : Pres} {s i : Nat} {f : List Int} (hf : VI p s f) (hi : i ≤ p.n) {k : Nat} (hk : k ∈ ltTo f i) : s ≤ k ∧ k < p.n := by
  unfold ltTo lwAt at hk
  obtain ⟨t, ht, hk⟩ := List.mem_flatMap.1 hk
  obtain ⟨h1, rfl⟩ := List.mem_replicate.1 hk
  have := List.mem_range.1 ht
  refine ⟨?_, by omega⟩
  by_cases hs : s ≤ k
  · exact hs
  · have := hf.zero k (by omega); omega

def RetG (w : World) (B g cap n : Nat) (xs : List Int) (e : Ending) (w' : World) : Prop := e = .returned (.tuple #[]) ∧ Ints w' B (.slice (some ⟨g, 0, none⟩) n cap) xs ∧ Chg g (g + 1) w w'
--== impl.timesVector
def GenC (w0 : World) (vp : Value) (p : Pres) (s d : Nat) : Prop := ∀ (B j : Nat) (e : List Int) (g cap : Nat) (w : World), s ≤ j → j < p.n → p.n ≤ j + d → VI p s e →
  Ints w B (.slice (some ⟨g, 0, none⟩) p.n cap) e → w0.heap.size ≤ g → Below w0.heap.size w0 w → Calls Try.prog 195 #[vp, .slice (some ⟨g, 0, none⟩) p.n cap, .int .i64 j] w (RetG w B g cap p.n (p.at s e (p.uv j)))
def VecC (w0 : World) (vp : Value) (p : Pres) (s d : Nat) : Prop := ∀ (B : Nat) (f : List Int) (vf : Value) (e : List Int) (g cap : Nat) (w : World), VI p s f → (∀ k, k + d < p.n → f.getD k 0 = 0) → RdA w g vf f → VI p s e →
  Ints w B (.slice (some ⟨g, 0, none⟩) p.n cap) e → w0.heap.size ≤ g → Below w0.heap.size w0 w → Calls Try.prog 188 #[vp, .slice (some ⟨g, 0, none⟩) p.n cap, vf] w (RetG w B g cap p.n (p.at s e f))
set_option maxHeartbeats 2000000 in
theorem vec_of_gen {w0 : World} {vp : Value} {p : Pres} {s d : Nat} (hV : ValidP p) (hG : GT p s) (hgen : GenC w0 vp p s d) : VecC w0 vp p s d := by
  intro B f vf e g cap w hf hz hr he hI hg0 hb0
  have HT := Lib.hid (hG.tv he hf)
  have hn6 := hV.n6
  obtain ⟨ao, capf, rfl, hc1, hc2⟩ := hr.now.form
  have hl := hf.len
  rw [hl] at hr hc1 ⊢
  have HR := Lib.hid hr
  have HE := Lib.hid he
  have HF := Lib.hid hf
  have HZ := Lib.hid hz
  have HL := Lib.hid hl
  clear hr he hz hl
  go_enter Try.func188, Try.ntmps188
  go_wp2_with fail
  go_loopw [10] (fun i wr => ∃ j : Nat, j ≤ p.n ∧ i = .int .i64 j ∧ Ints wr B (.slice (some ⟨g, 0, none⟩) p.n cap) (TV p s e (ltTo f j)) ∧ Chg g (g + 1) w wr) (fun i _ => p.n - (intOf i).toNat)
  case atStart => exact ⟨0, Nat.zero_le _, rfl, hI, Chg.refl1 _ _⟩
  case round =>
    clear hI
    obtain ⟨j, hj, rfl, hI, hC⟩ := hrel
    by_cases hlt : j < p.n
    · obtain ⟨b, off, rfl, hcell⟩ := Rd.at (HR.out wr hC) (show j < f.length by rw [HL.out]; exact hlt)
      obtain ⟨m, hm, hm7⟩ : ∃ m : Nat, f.getD j 0 = (m : Int) ∧ m ≤ 10 := ⟨(f.getD j 0).toNat, by have := hf.lo j hlt; omega, by have := hf.hi j hlt; have := (hV.rk j hlt).2; omega⟩
      rw [hm] at hcell
      have HS := Lib.hid (ltTo_succ hm)
      have HJ : Hid (0 < m → s ≤ j ∧ p.n ≤ j + d) := fun h0 => by
        refine ⟨?_, ?_⟩
        · by_cases h : s ≤ j
          · exact h
          · have := HF.out.zero j (by omega); omega
        · by_cases h : p.n ≤ j + d
          · exact h
          · have := HZ.out j (by omega); omega
      have HQ : Hid (∀ k, VI p s (TV p s e (ltTo f j ++ List.replicate k j)) ∨ m = 0) := fun k => by
        by_cases h : m = 0
        · exact .inr h
        · refine .inl (hG.tvl HE.out fun t ht => ?_)
          rcases List.mem_append.1 ht with ht | ht
          · exact mem_ltTo HF.out (by omega) ht
          · obtain ⟨_, rfl⟩ := List.mem_replicate.1 ht; exact ⟨(HJ.out (by omega)).1, hlt⟩
      clear hm
      go_wp2_with fail
      go_loopw [16] (fun i wr2 => ∃ k : Nat, k ≤ m ∧ i = .int .i64 k ∧ Ints wr2 B (.slice (some ⟨g, 0, none⟩) p.n cap) (TV p s e (ltTo f j ++ List.replicate k j)) ∧ Chg g (g + 1) w wr2) (fun i _ => m - (intOf i).toNat)
      case atStart => exact ⟨0, Nat.zero_le _, rfl, by simpa using hI, hC⟩
      case round =>
        clear hI hC hcell
        obtain ⟨k, hk, rfl, hI, hC⟩ := hrel
        by_cases hkm : k < m
        · have hv : VI p s (TV p s e (ltTo f j ++ List.replicate k j)) := by
            rcases HQ.out k with h | h
            · exact h
            · omega
          have hj2 := HJ.out (by omega)
          have HN : Hid (TV p s e (ltTo f j ++ List.replicate (k + 1) j) = p.at s (TV p s e (ltTo f j ++ List.replicate k j)) (p.uv j)) := by
            show _ = _
            rw [List.replicate_succ', ← List.append_assoc, TV_snoc]
          go_wp2_with fail
          refine (hgen B j _ g cap _ hj2.1 hlt hj2.2 hv hI hg0 (below_chg1 hb0 hC hg0)).mono ?_
          rintro e' w1 ⟨rfl, hI1, hC1⟩
          have hC2 := hC.then1 hC1
          clear hv hj2
          go_wp2_with fail
          go_roundw
          case rel => exact ⟨k + 1, by omega, by go_num, by rw [HN.out]; exact hI1, hC2⟩
          case measure => simp [intOf]; omega
        · obtain rfl : k = m := by omega
          go_wp2_with fail
          go_roundw
          case rel => exact ⟨j + 1, by omega, by go_num, by rw [HS.out]; exact hI, hC⟩
          case measure => simp [intOf]; omega
    · obtain rfl : j = p.n := by omega
      go_wp2_with fail
      refine bodyPost_ret (v := .tuple #[]) (by simp [results, Try.results188, go_sem]) rfl ?_
      refine ⟨rfl, ?_, hC⟩
      have := HT.out
      rw [← HL.out, ltTo_all, show TV p s e (lw f) = p.at s e f from this, HL.out] at hI
      exact hI
--== rows
theorem Ints.row {w : World} {B g n cap : Nat} {xs : List Int} (h : Ints w B (.slice (some ⟨g, 0, none⟩) n cap) xs) (hx : 0 < xs.length) :
    n = xs.length ∧ n ≤ cap ∧ cap ≤ 9223372036854775807 ∧ B ≤ g ∧ g < w.heap.size ∧ (∀ j, j < xs.length → w.cell? ⟨g, j, none⟩ = some (.int .i64 (xs.getD j 0))) ∧ ∀ j, w.frozen? ⟨g, j, none⟩ = false := by
  obtain ⟨g', cap', he, h1, h2, h3, h4, h5, h6⟩ := h.open hx
  simp only [Value.slice.injEq, Option.some.injEq, Addr.mk.injEq, and_true, true_and] at he
  obtain ⟨rfl, rfl, rfl⟩ := he
  exact ⟨rfl, h3, h4, h1, h2, h5, h6⟩
theorem Rd.suf {w : World} {b off n cap : Nat} {xs : List Int} (h : Rd w (.slice (some ⟨b, off, none⟩) n cap) xs) (k : Nat) (hk : k ≤ n) : Rd w (.slice (some ⟨b, off + k, none⟩) (n - k) (cap - k)) (xs.drop k) := by
  obtain ⟨ao, cap', he, h1, h2, h3, h4⟩ := h
  simp only [Value.slice.injEq] at he
  obtain ⟨rfl, rfl, rfl⟩ := he
  refine ⟨some ⟨b, off + k, none⟩, cap - k, by simp, by simp; omega, by omega, fun h => by (cases h), ?_⟩
  rcases h4 with h4 | ⟨b', off', he, h4⟩
  · exact .inl (by simp; omega)
  · cases he
    refine .inr ⟨_, _, rfl, fun j hj => ?_⟩
    simp only [List.length_drop] at hj
    rw [Nat.add_assoc, h4 (k + j) (by omega)]
    simp [List.getD_eq_getElem?_getD, List.getElem?_drop]
/-- the same where nothing is left -/
theorem Rd.suf0 {w : World} {ad : Addr} {xs : List Int} (h : xs.length = 0) : Rd w (.slice (some ad) 0 0) xs := by
  obtain rfl : xs = [] := List.eq_nil_of_length_eq_zero h
  exact ⟨some ad, 0, rfl, by simp, by simp, fun h => by (cases h), .inl rfl⟩
def TG (p : Pres) (s j : Nat) (e : List Int) (l : List Nat) : List Int := l.foldl (fun u k => p.at s u (p.C j (j + 1 + k))) e
theorem TG_snoc (p : Pres) (s j : Nat) (e : List Int) (l : List Nat) (k : Nat) : TG p s j e (l ++ [k]) = p.at s (TG p s j e l) (p.C j (j + 1 + k)) := by simp [TG]
theorem GT.tgl {p : Pres} {s j : Nat} (h : GT p s) (hj : s ≤ j) {e : List Int} (he : VI p s e) {l : List Nat} (hl : ∀ k ∈ l, j + 1 + k < p.n) : VI p s (TG p s j e l) :=
  fold_closed h.G (fun k => p.C j (j + 1 + k)) l (fun k hk => (h.vd.cj j _ (by omega) (hl k hk)).mono (by omega)) e he
theorem GT.tgl' {p : Pres} {j : Nat} (h : GT p (j + 1)) {e : List Int} (he : VI p (j + 1) e) {l : List Nat} (hl : ∀ k ∈ l, j + 1 + k < p.n) : VI p (j + 1) (TG p (j + 1) j e l) :=
  fold_closed h.G (fun k => p.C j (j + 1 + k)) l (fun k hk => h.vd.cj j _ (by omega) (hl k hk)) e he
theorem mem_ltTo' {x : List Int} {i k : Nat} (hk : k ∈ ltTo x i) : k < i := by
  unfold ltTo lwAt at hk
  obtain ⟨t, ht, hk⟩ := List.mem_flatMap.1 hk
  obtain ⟨h1, rfl⟩ := List.mem_replicate.1 hk
  exact List.mem_range.1 ht
theorem drop_getD (e : List Int) (j k : Nat) : (e.drop j).getD k 0 = e.getD (j + k) 0 := by simp [List.getD_eq_getElem?_getD, List.getElem?_drop]
--== impl.timesGenerator
set_option maxHeartbeats 4000000 in
theorem gen_of_vec {w0 : World} {vp : Value} {p : Pres} {s d : Nat} (hp : PtrP w0 vp p) (hV : ValidP p) (hG : GT p s) (hvec : VecC w0 vp p s d) : GenC w0 vp p s (d + 1) := by
  intro B j e g cap w hsj hjn hjd he hI hg0 hb0
  have hn6 := hV.n6
  obtain ⟨pb, v1, v2, v3, rfl, c1, c2, c3, R1, R2, R3⟩ := hp
  obtain ⟨p1, q1, rfl, _, _⟩ := R1.form
  obtain ⟨p2, q2, rfl, _, _⟩ := R2.form
  obtain ⟨p3, q3, rfl, _, _⟩ := R3.form
  have hl2 := hV.pl
  have hl3 := hV.cl
  obtain ⟨b1, o1, rfl, k1⟩ := R1.at (j := j) hjn
  obtain ⟨b2, o2, r2, rfl, k2, RP⟩ := R2.at (j := j) (by omega)
  obtain ⟨b3, o3, r3, rfl, k3, RC⟩ := R3.at (j := j) (by omega)
  have hcl := hV.clen j hjn
  obtain ⟨a2, z2, rfl, _, _⟩ := RP.formN (hG.vd.pow j hjn).len
  obtain ⟨a3, z3, rfl, _, _⟩ := RC.formN (n := p.n - (j + 1)) (by omega)
  obtain ⟨m, hm⟩ : ∃ m, p.n = j + 1 + m := ⟨p.n - (j + 1), by omega⟩
  have hel := he.len
  have hrk := hV.rk j hjn
  have hc0 := he.lo j hjn
  have hc1 := he.hi j hjn
  have hjo : j < p.orders.length := hjn
  have hjp : j < p.powers.length := by omega
  have hjq : j < p.conj.length := by omega
  have hjc : j + 1 ≤ cap := by have := (hI.row (by omega)).2.1; omega
  have HI := Lib.hid hI
  have hrd := hI.rd
  have HRest : Hid ((j + 1 = cap → ∀ ad, Rd w (.slice (some ad) (p.n - (j + 1)) 0) (e.drop (j + 1))) ∧ Rd w (.slice (some ⟨g, j + 1, none⟩) (p.n - (j + 1)) (cap - (j + 1))) (e.drop (j + 1))) := by
    refine ⟨fun h ad => ?_, ?_⟩
    · have h2 := (hI.row (by omega)).2.1
      rw [show p.n - (j + 1) = 0 by omega]
      exact Rd.suf0 (by simp; omega)
    · have := hrd.suf (j + 1) (by omega); rwa [Nat.zero_add] at this
  have hlr : (e.drop (j + 1)).length = p.n - (j + 1) := by simp; omega
  have hgw := (hI.row (by omega)).2.2.2.2.1
  have HM := Lib.hid hm
  have HEL := Lib.hid hel
  have HL2 := Lib.hid hl2
  have HL3 := Lib.hid hl3
  have HCL := Lib.hid hcl
  have HLR := Lib.hid hlr
  have HE := Lib.hid he
  clear hI hrd hm hel hl2 hl3 hcl hlr he
  have KEEP : Hid (∀ wx, Below w0.heap.size w0 wx → wx.cell? ⟨pb, 0, none⟩ = some (.slice (some ⟨b1, o1, none⟩) p.orders.length q1) ∧ wx.cell? ⟨pb, 1, none⟩ = some (.slice (some ⟨b2, o2, none⟩) p.powers.length q2) ∧
      wx.cell? ⟨pb, 2, none⟩ = some (.slice (some ⟨b3, o3, none⟩) p.conj.length q3) ∧ wx.cell? ⟨b1, o1 + j, none⟩ = some (.int .i64 (p.r j)) ∧ wx.cell? ⟨b2, o2 + j, none⟩ = some (.slice a2 p.n z2) ∧
      wx.cell? ⟨b3, o3 + j, none⟩ = some (.slice a3 (p.n - (j + 1)) z3)) := fun wx hb =>
    ⟨below_cells hb _ _ c1, below_cells hb _ _ c2, below_cells hb _ _ c3, below_cells hb _ _ k1, below_cells hb _ _ k2, below_cells hb _ _ k3⟩
  by_cases hcap : j + 1 = cap
  all_goals
    first
    | ((have hcap2 : cap ≤ j + 1 := by omega); (have HCap := Lib.hid hcap); clear hcap
       go_enter Try.func195, Try.ntmps195
       go_wp2_with fail
       refine (f_Clone _ (e.drop (j + 1)) _ (HRest.out.1 HCap.out _) (by rw [HLR.out]; omega)).mono ?_
       clear hcap2 HCap)
    | ((have hcap2 : j + 1 < cap := by omega); clear hcap
       go_enter Try.func195, Try.ntmps195
       go_wp2_with fail
       refine (f_Clone _ (e.drop (j + 1)) _ HRest.out.2 (by rw [HLR.out]; omega)).mono ?_
       clear hcap2)
  all_goals
    rintro e' w1 ⟨u, rfl, hIr, hB⟩
    obtain ⟨au, cu, rfl, _, _⟩ := hIr.form
    have hI1 := HI.out.below hB
    have hC1 := Chg.of_below hB g (g + 1)
    rw [HLR.out] at hIr ⊢
    clear hB
    go_wp2_with fail
    go_loopw [17] (fun i wr => ∃ k : Nat, k ≤ p.n - (j + 1) ∧ i = .int .i64 k ∧ Ints wr B (.slice (some ⟨g, 0, none⟩) p.n cap) (clr e j k) ∧ Chg g (g + 1) w wr ∧ Ints wr w.heap.size (.slice au (p.n - (j + 1)) cu) (e.drop (j + 1))) (fun i _ => p.n - (intOf i).toNat)
    case atStart => exact ⟨0, Nat.zero_le _, rfl, by rw [clr_zero]; exact hI1, hC1, hIr⟩
    case round =>
      clear hI1 hC1 hIr
      obtain ⟨k, hk, rfl, hI, hC, hIr⟩ := hrel
      have hro := hI.row (by rw [clr_len, HEL.out]; omega)
      have hgr := hro.2.2.2.2.1
      have hfz := hro.2.2.2.2.2.2
      by_cases hlt : k < p.n - (j + 1)
      · have hcc := hro.2.2.2.2.2.1 (j + 1 + k) (by rw [clr_len, HEL.out]; omega)
        have hff := hfz (j + 1 + k)
        obtain ⟨hI2, hC2⟩ := hI.set (by rw [clr_len, HEL.out]) (j + 1 + k) 0
        rw [clr_succ] at hI2
        have hIr2 := hIr.chg hC2 (fun q hq => by have := hIr.lt q hq; omega)
        clear hro hfz
        go_wp2_with fail
        go_roundw
        case rel => exact ⟨k + 1, by omega, by go_num, hI2, hC.then1 hC2, hIr2⟩
        case measure => simp [intOf]; omega
      · obtain rfl : k = p.n - (j + 1) := by omega
        rw [clr_all (by rw [HEL.out]; omega)] at hI hro
        have hcc := hro.2.2.2.2.2.1 j (by rw [hd_len, HEL.out]; omega)
        have hff := hfz j
        obtain ⟨c, Hc⟩ := nam (e.getD j 0)
        obtain ⟨r, Hr⟩ := nam (p.r j)
        have hcd : (hd e j).getD j 0 = e.getD j 0 := by rw [hd_getD, if_neg (by omega)]
        rw [hcd, Hc.out] at hcc
        obtain ⟨hI2, hC2⟩ := hI.set (by rw [hd_len, HEL.out]) j (c + 1)
        have hIr2 := hIr.chg hC2 (fun q hq => by have := hIr.lt q hq; omega)
        have hC3 := hC.then1 hC2
        have hro2 := hI2.row (by rw [List.length_set, hd_len, HEL.out]; omega)
        have hfz2 := hro2.2.2.2.2.2.2 j
        have hcc2 := hro2.2.2.2.2.2.1 j (by rw [List.length_set, hd_len, HEL.out]; omega)
        rw [vset_self (by rw [hd_len, HEL.out]; omega)] at hcc2
        have K := KEEP.out _ (below_chg1 hb0 hC3 hg0)
        rw [Hr.out] at K
        obtain ⟨K1, K2, K3, K4, K5, K6⟩ := K
        rw [Hc.out] at hc0 hc1
        rw [Hr.out] at hrk hc1
        clear hro hcd hfz hro2 hC hC2
        go_wp2_with fail
        generalize wr.setCell ⟨g, j, none⟩ (.int .i64 (c + 1)) = w3 at *
        have lpb : pb < g := Nat.lt_of_lt_of_le (World.block_lt_of_cell? w0 _ c1) hg0
        have lb2 : b2 < g := Nat.lt_of_lt_of_le (World.block_lt_of_cell? w0 _ k2) hg0
        have n1 : pb ≠ g := by omega
        have n2 : b2 ≠ g := by omega
        have hl2d : ((hd e j).set j (c + 1)).length = p.n := by rw [List.length_set, hd_len, HEL.out]
        by_cases hcr : c + 1 = r
        case' pos =>
             have D1 : (c + 1 == r) = true := by simpa using hcr
             obtain ⟨hv1, hfin⟩ := hG.tg_hi hsj hjn HE.out (by rw [Hc.out, Hr.out]; exact hcr)
             have HCR := Lib.hid hcr
             clear hcr
             go_quiet (fail)
             rename_i nq
             clear D1 K1 K2 K3 K4 K5 K6
             have hI3 : Ints (w3.drewN nq) B _ _ := hI2
             have hIr3 : Ints (w3.drewN nq) w.heap.size _ _ := hIr2
             have hro3 := hI3.row (by rw [hl2d]; omega)
             have hff3 := hro3.2.2.2.2.2.2 j
             have hcc3 := hro3.2.2.2.2.2.1 j (by rw [hl2d]; omega)
             rw [vset_self (by rw [hd_len, HEL.out]; omega)] at hcc3
             clear hro3
             have hC5 := hC3.drewN nq
             have K := KEEP.out _ (below_chg1 hb0 hC5 hg0)
             rw [Hr.out] at K
             obtain ⟨K1, K2, K3, K4, K5, K6⟩ := K
             clear hI2 hC3 hIr2
             generalize w3.drewN nq = w4 at *
             obtain ⟨hI4, hC4⟩ := hI3.set hl2d.symm j 0
             rw [List.set_set] at hI4
             have hIr4 := hIr3.chg hC4 (fun q hq => by have := hIr3.lt q hq; omega)
             have hC6 := hC5.then1 hC4
             have HFin := Lib.hid hfin
             clear hI3 hIr3 hC4 hC5 hfin
             go_wp2_with fail
             refine (hvec B (p.P j) _ _ g cap _ ((hG.vd.pow j hjn).mono (by omega)) (fun k hk => (hG.vd.pow j hjn).zero k (by omega)) (RdA.of RP (below_chg1 hb0 hC6 hg0) hg0) hv1 hI4 hg0 (below_chg1 hb0 hC6 hg0)).mono ?_
             rintro e' w5 ⟨rfl, hI5, hC7⟩
             have hC8 := hC6.then1 hC7
             have hIr5 := hIr4.chg hC7 (fun q hq => by have := hIr4.lt q hq; omega)
             have hv2 := hG.at hv1 ((hG.vd.pow j hjn).mono (show s ≤ j + 1 by omega))
             clear hI4 hIr4 hC6 hC7 hv1 HCR hff3 hcc3 K1 K2 K3 K4 K5 K6
             generalize p.at s ((hd e j).set j 0) (p.P j) = e2 at *
        case' neg =>
             have D1 : (c + 1 == r) = false := by simpa using hcr
             obtain ⟨hv2, hfin⟩ := hG.tg_lo hsj hjn HE.out (by rw [Hc.out, Hr.out]; omega)
             clear hcr
             go_quiet (fail)
             rename_i nq
             clear D1 K1 K2 K3 K4 K5 K6
             have hI5 : Ints (w3.drewN nq) B _ _ := hI2
             have hIr5 : Ints (w3.drewN nq) w.heap.size _ _ := hIr2
             have hC8 := hC3.drewN nq
             rw [Hc.out] at hfin hv2
             have HFin := Lib.hid hfin
             clear hI2 hC3 hIr2 hfin
             generalize w3.drewN nq = w5 at *
             generalize (hd e j).set j (c + 1) = e2 at *
        all_goals
          clear hcc hff hfz2 hcc2 hl2d
          go_wp2_with fail
          go_loopw [60] (fun i wr => ∃ k : Nat, k ≤ p.n - (j + 1) ∧ i = .int .i64 k ∧ Ints wr B (.slice (some ⟨g, 0, none⟩) p.n cap) (TG p s j e2 (ltTo (e.drop (j + 1)) k)) ∧ Chg g (g + 1) w wr ∧ Ints wr w.heap.size (.slice au (p.n - (j + 1)) cu) (e.drop (j + 1))) (fun i _ => p.n - (intOf i).toNat)
          case atStart => exact ⟨0, Nat.zero_le _, rfl, hI5, hC8, hIr5⟩
          case round =>
            clear hI5 hC8 hIr5
            obtain ⟨k, hk, rfl, hI, hC, hIr⟩ := hrel
            by_cases hlt : k < p.n - (j + 1)
            · have hjk : j + 1 + k < p.n := by omega
              obtain ⟨b6, o6, rfl, hcell⟩ := Rd.at hIr.rd (show k < (e.drop (j + 1)).length by rw [HLR.out]; exact hlt)
              obtain ⟨m1, hm1, hm7⟩ : ∃ m1 : Nat, (e.drop (j + 1)).getD k 0 = (m1 : Int) ∧ m1 ≤ 10 := by
                rw [drop_getD]
                have h1 := HE.out.lo _ hjk
                have h2 := HE.out.hi _ hjk
                have h3 := (hV.rk _ hjk).2
                exact ⟨(e.getD (j + 1 + k) 0).toNat, by omega, by omega⟩
              rw [hm1] at hcell
              have HS := Lib.hid (ltTo_succ hm1)
              clear hm1
              have hkc : k < (p.conj.getD j []).length := by have := HCL.out; have := HM.out; omega
              obtain ⟨b4, o4, r4, rfl, k4, RC4⟩ := RC.at hkc
              have HCe : Hid ((p.conj.getD j []).getD k [] = p.C j (j + 1 + k)) := by
                show _ = _; unfold Pres.C; rw [show j + 1 + k - j - 1 = k by omega]
              have hVI := hG.vd.cj j (j + 1 + k) (by omega) hjk
              obtain ⟨a5, z5, rfl, _, _⟩ := RC4.formN (n := p.n) (by rw [HCe.out]; exact hVI.len)
              have lb3 : b3 < g := Nat.lt_of_lt_of_le (World.block_lt_of_cell? w0 _ k3) hg0
              have lb4 : b4 < g := Nat.lt_of_lt_of_le (World.block_lt_of_cell? w0 _ k4) hg0
              have HVl : Hid (∀ l : Nat, VI p s (TG p s j e2 (ltTo (e.drop (j + 1)) k ++ List.replicate l k))) := fun l =>
                hG.tgl hsj hv2 (fun t ht => by
                  rcases List.mem_append.1 ht with ht | ht
                  · have := mem_ltTo' ht; omega
                  · obtain ⟨_, rfl⟩ := List.mem_replicate.1 ht; omega)
              go_wp2_with fail
              go_loopw [66] (fun i wr2 => ∃ l : Nat, l ≤ m1 ∧ i = .int .i64 l ∧ Ints wr2 B (.slice (some ⟨g, 0, none⟩) p.n cap) (TG p s j e2 (ltTo (e.drop (j + 1)) k ++ List.replicate l k)) ∧ Chg g (g + 1) w wr2 ∧ Ints wr2 w.heap.size (.slice (some ⟨b6, o6, none⟩) (p.n - (j + 1)) cu) (e.drop (j + 1))) (fun i _ => m1 - (intOf i).toNat)
              case atStart => exact ⟨0, Nat.zero_le _, rfl, by simpa using hI, hC, hIr⟩
              case round =>
                clear hI hC hIr hcell
                obtain ⟨l, hl, rfl, hI, hC, hIr⟩ := hrel
                by_cases hlm : l < m1
                · have hbel := below_chg1 hb0 hC hg0
                  obtain ⟨K1, K2, K3, K4, K5, K6⟩ := KEEP.out _ hbel
                  have K7 := below_cells hbel _ _ k4
                  have HN : Hid (TG p s j e2 (ltTo (e.drop (j + 1)) k ++ List.replicate (l + 1) k) = p.at s (TG p s j e2 (ltTo (e.drop (j + 1)) k ++ List.replicate l k)) (p.C j (j + 1 + k))) := by
                    show _ = _
                    rw [List.replicate_succ', ← List.append_assoc, TG_snoc]
                  go_wp2_with fail
                  refine (hvec B (p.C j (j + 1 + k)) _ _ g cap _ (hVI.mono (by omega)) (fun t ht => hVI.zero t (by omega)) (RdA.of (by rw [← HCe.out]; exact RC4) hbel hg0) (HVl.out l) hI hg0 hbel).mono ?_
                  rintro e' w6 ⟨rfl, hI6, hC6⟩
                  have hC7 := hC.then1 hC6
                  have hIr6 := hIr.chg hC6 (fun q hq => by have := hIr.lt q hq; omega)
                  clear K1 K2 K3 K4 K5 K6 K7 hbel hI hC hIr
                  go_wp2_with fail
                  go_roundw
                  case rel => exact ⟨l + 1, by omega, by go_num, by rw [HN.out]; exact hI6, hC7, hIr6⟩
                  case measure => simp [intOf]; omega
                · obtain rfl : l = m1 := by omega
                  go_wp2_with fail
                  go_roundw
                  case rel => exact ⟨k + 1, by omega, by go_num, by rw [HS.out]; exact hI, hC, hIr⟩
                  case measure => simp [intOf]; omega
            · obtain rfl : k = p.n - (j + 1) := by omega
              go_wp2_with fail
              refine bodyPost_ret (v := .tuple #[]) (by simp [results, Try.results195, go_sem]) rfl ?_
              refine ⟨rfl, ?_, hC⟩
              rw [← HLR.out, ltTo_all] at hI
              rw [← HFin.out]
              exact hI
--== both
theorem i_times {w0 : World} {vp : Value} {p : Pres} {s : Nat} (hp : PtrP w0 vp p) (hV : ValidP p) (hG : GT p s) (d : Nat) : GenC w0 vp p s d ∧ VecC w0 vp p s d := by
  induction d with
  | zero =>
    have h : GenC w0 vp p s 0 := fun B j e g cap w h1 h2 h3 => by omega
    exact ⟨h, vec_of_gen hV hG h⟩
  | succ d ih =>
    have h := gen_of_vec hp hV hG ih.2
    exact ⟨h, vec_of_gen hV hG h⟩
theorem i_timesGenerator {w0 : World} {vp : Value} {p : Pres} {s : Nat} (hp : PtrP w0 vp p) (hV : ValidP p) (hG : GT p s) (B j : Nat) (e : List Int) (g cap : Nat) (w : World) (h1 : s ≤ j) (h2 : j < p.n) (he : VI p s e)
    (hI : Ints w B (.slice (some ⟨g, 0, none⟩) p.n cap) e) (hg : w0.heap.size ≤ g) (hb : Below w0.heap.size w0 w) : Calls Try.prog 195 #[vp, .slice (some ⟨g, 0, none⟩) p.n cap, .int .i64 j] w (RetG w B g cap p.n (p.at s e (p.uv j))) :=
  (i_times hp hV hG p.n).1 B j e g cap w h1 h2 (by omega) he hI hg hb
theorem i_timesVector {w0 : World} {vp : Value} {p : Pres} {s : Nat} (hp : PtrP w0 vp p) (hV : ValidP p) (hG : GT p s) (B : Nat) (f : List Int) (vf : Value) (e : List Int) (g cap : Nat) (w : World) (hf : VI p s f) (hr : RdA w g vf f) (he : VI p s e)
    (hI : Ints w B (.slice (some ⟨g, 0, none⟩) p.n cap) e) (hg : w0.heap.size ≤ g) (hb : Below w0.heap.size w0 w) : Calls Try.prog 188 #[vp, .slice (some ⟨g, 0, none⟩) p.n cap, vf] w (RetG w B g cap p.n (p.at s e f)) :=
  (i_times hp hV hG p.n).2 B f vf e g cap w hf (fun k hk => by omega) hr he hI hg hb
end Go.Proofs.Ythnpndheaailjaa
