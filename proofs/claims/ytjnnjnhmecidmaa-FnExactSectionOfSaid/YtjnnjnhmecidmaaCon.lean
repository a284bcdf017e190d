/-
  Multiplying by generators, inverses, powers and faults in the tails of a presentation: no program in sight.
-/
import Derived.Test.YtjnnjnhmecidmaaExt
import Derived.Test.YtjnnjnhmecidmaaValid
namespace Go.Proofs.Ytjnnjnhmecidmaa
set_option linter.unusedVariables false
set_option linter.unusedSimpArgs false
set_option maxRecDepth 100000

/-! ### vectors by index -/
theorem rmap_getD (n t : Nat) (f : Nat → Int) : ((List.range n).map f).getD t 0 = if t < n then f t else 0 := by
  rw [List.getD_eq_getElem?_getD, List.getElem?_map]
  by_cases h : t < n
  · rw [List.getElem?_range h, if_pos h]; rfl
  · rw [List.getElem?_eq_none (by simpa using Nat.le_of_not_lt h), if_neg h]; rfl
theorem getD_out {x : List Int} {t : Nat} (h : x.length ≤ t) : x.getD t 0 = 0 := by
  rw [List.getD_eq_getElem?_getD, List.getElem?_eq_none h]; rfl
/-- e with zeros at j+1 .. j+k -/
def clr (e : List Int) (j k : Nat) : List Int := (List.range e.length).map fun t => if j < t ∧ t ≤ j + k then 0 else e.getD t 0
theorem clr_len (e : List Int) (j k : Nat) : (clr e j k).length = e.length := by simp [clr]
theorem clr_getD (e : List Int) (j k t : Nat) : (clr e j k).getD t 0 = if j < t ∧ t ≤ j + k then 0 else e.getD t 0 := by
  unfold clr
  rw [rmap_getD]
  by_cases h : t < e.length
  · rw [if_pos h]
  · rw [if_neg h]; split
    · rfl
    · exact (getD_out (by omega)).symm
theorem clr_zero (e : List Int) (j : Nat) : clr e j 0 = e := vext (clr_len _ _ _) fun t _ => by rw [clr_getD, if_neg (by omega)]
theorem clr_succ (e : List Int) (j k : Nat) : (clr e j k).set (j + 1 + k) 0 = clr e j (k + 1) := by
  refine vext (by rw [List.length_set, clr_len, clr_len]) fun t _ => ?_
  rw [vset, clr_len, clr_getD, clr_getD]
  by_cases h : t < e.length
  · by_cases h1 : j + 1 + k = t
    · rw [if_pos ⟨h1, h⟩, if_pos (by omega)]
    · rw [if_neg (fun hh => h1 hh.1)]
      by_cases h2 : j < t ∧ t ≤ j + k
      · rw [if_pos h2, if_pos (by omega)]
      · rw [if_neg h2, if_neg (by omega)]
  · have := getD_out (x := e) (t := t) (by omega)
    rw [if_neg (fun hh => h hh.2)]
    split <;> split <;> omega
/-- zeros behind j -/
def hd (e : List Int) (j : Nat) : List Int := clr e j e.length
theorem hd_len (e : List Int) (j : Nat) : (hd e j).length = e.length := clr_len _ _ _
theorem hd_getD (e : List Int) (j t : Nat) : (hd e j).getD t 0 = if j < t then 0 else e.getD t 0 := by
  unfold hd
  rw [clr_getD]
  by_cases h : j < t
  · rw [if_pos h]
    by_cases h1 : t ≤ j + e.length
    · rw [if_pos ⟨h, h1⟩]
    · rw [if_neg (fun hh => h1 hh.2)]; exact getD_out (by omega)
  · rw [if_neg h, if_neg (fun hh => h hh.1)]
theorem clr_all {e : List Int} {j k : Nat} (h : e.length ≤ j + 1 + k) : clr e j k = hd e j := by
  refine vext (by rw [clr_len, hd_len]) fun t ht => ?_
  rw [clr_len] at ht
  rw [clr_getD, hd_getD]
  by_cases h1 : j < t
  · rw [if_pos h1, if_pos (by omega)]
  · rw [if_neg h1, if_neg (fun hh => h1 hh.1)]
/-- zeros up to j -/
def tl (e : List Int) (j : Nat) : List Int := (List.range e.length).map fun t => if t ≤ j then 0 else e.getD t 0
theorem tl_len (e : List Int) (j : Nat) : (tl e j).length = e.length := by simp [tl]
theorem tl_getD (e : List Int) (j t : Nat) : (tl e j).getD t 0 = if t ≤ j then 0 else e.getD t 0 := by
  unfold tl
  rw [rmap_getD]
  by_cases h : t < e.length
  · rw [if_pos h]
  · rw [if_neg h]; split
    · rfl
    · exact (getD_out (by omega)).symm

/-! ### letters -/
def ltTo (x : List Int) (i : Nat) : List Nat := (List.range i).flatMap (lwAt x)
theorem ltTo_all (x : List Int) : ltTo x x.length = lw x := rfl
theorem ltTo_succ {x : List Int} {i m : Nat} (h : x.getD i 0 = (m : Int)) : ltTo x (i + 1) = ltTo x i ++ List.replicate m i := by
  unfold ltTo; rw [List.range_succ, List.flatMap_append]; simp only [List.flatMap_cons, List.flatMap_nil, List.append_nil, lwAt, h, Int.toNat_natCast]
theorem ltTo_congr {x y : List Int} {i : Nat} (h : ∀ t, t < i → x.getD t 0 = y.getD t 0) : ltTo x i = ltTo y i :=
  flatMap_congr fun t ht => by unfold lwAt; rw [h t (List.mem_range.1 ht)]
theorem ltTo_nil {x : List Int} {i : Nat} (h : ∀ t, t < i → x.getD t 0 = 0) : ltTo x i = [] := by
  unfold ltTo; rw [List.flatMap_eq_nil_iff]; intro t ht; unfold lwAt; rw [h t (List.mem_range.1 ht)]; rfl
/-- the letters behind j -/
def bh (x : List Int) (j : Nat) : List Nat := (List.range' (j + 1) (x.length - j - 1)).flatMap (lwAt x)
theorem lw_parts (x : List Int) {j : Nat} (hj : j < x.length) : lw x = ltTo x j ++ (lwAt x j ++ bh x j) := by
  unfold lw ltTo bh
  rw [range_split x.length j hj, List.flatMap_append, List.flatMap_cons]
theorem bh_nil {x : List Int} {j : Nat} (h : ∀ t, j < t → x.getD t 0 = 0) : bh x j = [] := by
  unfold bh; rw [List.flatMap_eq_nil_iff]; intro t ht
  obtain ⟨k, _, rfl⟩ := List.mem_range'.1 ht
  unfold lwAt; rw [h _ (by omega)]; rfl
theorem bh_congr {x y : List Int} {j : Nat} (hl : x.length = y.length) (h : ∀ t, j < t → x.getD t 0 = y.getD t 0) : bh x j = bh y j := by
  unfold bh; rw [hl]
  exact flatMap_congr fun t ht => by
    obtain ⟨k, _, rfl⟩ := List.mem_range'.1 ht
    unfold lwAt; rw [h _ (by omega)]
theorem bh_drop (x : List Int) (j : Nat) : bh x j = (lw (x.drop (j + 1))).map fun k => j + 1 + k := by
  unfold bh lw
  rw [List.length_drop, List.map_flatMap, show x.length - (j + 1) = x.length - j - 1 by omega, List.range'_eq_map_range, List.flatMap_map]
  exact flatMap_congr fun k _ => by
    show lwAt x (j + 1 + k) = _
    unfold lwAt
    rw [List.map_replicate]
    congr 2
    simp [List.getD_eq_getElem?_getD, List.getElem?_drop]
theorem lw_hd {e : List Int} {j : Nat} (hj : j < e.length) (c : Int) : lw ((hd e j).set j c) = ltTo e j ++ List.replicate c.toNat j := by
  rw [lw_parts _ (j := j) (by rw [List.length_set, hd_len]; exact hj), bh_nil, List.append_nil]
  · congr 1
    · exact ltTo_congr fun t ht => by rw [vset_ne (by omega), hd_getD, if_neg (by omega)]
    · unfold lwAt; rw [vset_self (by rw [hd_len]; exact hj)]
  · intro t ht; rw [vset_ne (by omega), hd_getD, if_pos ht]
theorem lw_tl {e : List Int} {j : Nat} (hj : j < e.length) : lw (tl e j) = bh e j := by
  rw [lw_parts _ (j := j) (by rw [tl_len]; exact hj), ltTo_nil, show lwAt (tl e j) j = [] by (unfold lwAt; rw [tl_getD, if_pos (Nat.le_refl _)]; rfl)]
  · exact bh_congr (tl_len _ _) fun t ht => by rw [tl_getD, if_neg (by omega)]
  · intro t ht; rw [tl_getD, if_pos (by omega)]

section
variable {p : Pres} {s : Nat}
theorem VI.hd {e : List Int} {j : Nat} (hp : Valid p) (h : VI p s e) : VI p s (hd e j) := by
  refine ⟨by rw [hd_len]; exact h.len, fun k hk => ?_, fun k hk => ?_, fun k hk => ?_⟩
  · rw [hd_getD]; split
    · omega
    · exact h.lo k hk
  · rw [hd_getD]; split
    · have := hp.ord k hk; omega
    · exact h.hi k hk
  · rw [hd_getD]; split
    · rfl
    · exact h.zero k hk
theorem VI.tl {e : List Int} {j : Nat} (hp : Valid p) (h : VI p s e) : VI p (j + 1) (tl e j) := by
  refine ⟨by rw [tl_len]; exact h.len, fun k hk => ?_, fun k hk => ?_, fun k hk => ?_⟩
  · rw [tl_getD]; split
    · omega
    · exact h.lo k hk
  · rw [tl_getD]; split
    · have := hp.ord k hk; omega
    · exact h.hi k hk
  · rw [tl_getD, if_pos (by omega)]
theorem VI.put {e : List Int} {j : Nat} (h : VI p s e) (hj : s ≤ j) {c : Int} (h0 : 0 ≤ c) (h1 : c < p.r j) : VI p s (e.set j c) := by
  refine ⟨by rw [List.length_set]; exact h.len, fun k hk => ?_, fun k hk => ?_, fun k hk => ?_⟩
  · rw [vset]; split
    · exact h0
    · exact h.lo k hk
  · rw [vset]; split
    · next hh => rw [← hh.1]; exact h1
    · exact h.hi k hk
  · rw [vset_ne (by omega)]; exact h.zero k hk

/-- the tails from s on are groups -/
structure GT (p : Pres) (s : Nat) : Prop where
  vd : Valid p
  le : s ≤ p.n
  g : ∀ t, s ≤ t → t ≤ p.n → p.G t
theorem GT.of (hp : Valid p) (hs : s ≤ p.n) (hL : ∀ i, s ≤ i → i < p.n → LevelOK p i) : GT p s := ⟨hp, hs, G_all hp s hL⟩
theorem GT.G (h : GT p s) : p.G s := h.g s (Nat.le_refl _) h.le
theorem GT.up (h : GT p s) {t : Nat} (h1 : s ≤ t) (h2 : t ≤ p.n) : GT p t := ⟨h.vd, h2, fun u hu hn => h.g u (by omega) hn⟩
theorem GT.at (h : GT p s) {a b : List Int} (ha : VI p s a) (hb : VI p s b) : VI p s (p.at s a b) := h.G.cl ha hb
theorem GT.uv (h : GT p s) {j : Nat} (h1 : s ≤ j) (h2 : j < p.n) : VI p s (p.uv j) := VI.uv h.vd h1 h2
theorem GT.vec (h : GT p s) {x : List Int} (hx : VI p s x) : pr (p.at s) p.zv p.uv (lw x) = x := vec_pr h.vd h.g s h.le (Nat.le_refl _) x hx

/-- the program's product: letter by letter -/
theorem GT.tv (h : GT p s) {a f : List Int} (ha : VI p s a) (hf : VI p s f) : (lw f).foldl (fun u k => p.at s u (p.uv k)) a = p.at s a f := by
  have hu : ∀ j ∈ lw f, VI p s (p.uv j) := fun j hj => by have := hf.mem hj; exact h.uv this.1 this.2
  rw [pr_from h.G p.uv (lw f) hu a ha, h.vec hf]
theorem GT.swap (h : GT p s) {j : Nat} (hj : s ≤ j) (hn : j < p.n) {x : List Int} (hx : VI p (j + 1) x) : p.at s x (p.uv j) = p.at s (p.uv j) (p.img j x) := by
  have hu := VI.uv h.vd (Nat.le_refl j) hn
  have hi := hx.img h.vd hn
  have G1 := h.g (j + 1) (by omega) hn
  have hr := h.vd.ord j hn
  rw [at_subs h.vd j hj (by omega) _ _ (hx.mono (by omega)) hu, at_subs h.vd j hj (by omega) _ _ hu (hi.mono (by omega))]
  have e1 : (p.uv j).getD j 0 = 1 := vset_self (by rw [p.zv_len]; exact hn)
  have e2 := hx.zero j (by omega)
  have e3 := hi.zero j (by omega)
  have e4 : (p.uv j).set j 0 = p.zv := by unfold Pres.uv; rw [List.set_set, zv_set]
  rw [at_lo hn (by rw [e1, e2]; omega), at_lo hn (by rw [e1, e3]; omega)]
  unfold Pres.mid
  rw [e1, e2, e3, e4, hx.same, hi.same]
  show (p.at (j + 1) (p.img j x) p.zv).set j (0 + 1) = (p.at (j + 1) p.zv (p.img j x)).set j (1 + 0)
  rw [G1.oner hi, G1.onel hi]; rfl
theorem GT.pw_sub (h : GT p s) {j : Nat} (hj : s ≤ j) (hn : j < p.n) (k : Nat) : pw (p.at s) p.zv (p.uv j) k = pw (p.at j) p.zv (p.uv j) k := by
  have hu := VI.uv h.vd (Nat.le_refl j) hn
  induction k with
  | zero => rfl
  | succ k ih =>
    show p.at s _ _ = p.at j _ _
    rw [ih, at_subs h.vd j hj (by omega) _ _ (pw_closed (h.g j hj (by omega)) hu k) hu]
theorem GT.pw_r (h : GT p s) {j : Nat} (hj : s ≤ j) (hn : j < p.n) : pw (p.at s) p.zv (p.uv j) (p.r j).toNat = p.P j := by
  have hr := h.vd.ord j hn
  have G1 := h.g (j + 1) (by omega) hn
  obtain ⟨k, hk⟩ : ∃ k : Nat, p.r j = k + 1 := ⟨(p.r j - 1).toNat, by omega⟩
  rw [h.pw_sub hj hn, show (p.r j).toNat = k + 1 by omega]
  show p.at j (pw _ _ _ k) (p.uv j) = _
  rw [pw_uv h.vd hn G1 k (by omega)]
  have e0 : (p.zv.set j (k : Int)).getD j 0 = k := vset_self (by rw [p.zv_len]; exact hn)
  have e1 : (p.uv j).getD j 0 = 1 := vset_self (by rw [p.zv_len]; exact hn)
  have e4 : (p.uv j).set j 0 = p.zv := by unfold Pres.uv; rw [List.set_set, zv_set]
  rw [at_hi hn (by rw [e0, e1]; omega)]
  unfold Pres.mid
  rw [e0, e1, e4, List.set_set, zv_set]
  have e5 : itf (p.img j) (1 : Int).toNat p.zv = p.zv := itf_zv p j 1
  rw [e5, G1.onel G1.one, G1.oner (h.vd.pow j hn), show (k : Int) + 1 - p.r j = 0 by omega, (h.vd.pow j hn).same]

/-- the program's product with a generator -/
def tgF (p : Pres) (s : Nat) (e2 e : List Int) (j : Nat) : List Int := (lw (e.drop (j + 1))).foldl (fun u k => p.at s u (p.C j (j + 1 + k))) e2
theorem GT.tg_any (h : GT p s) {e e2 : List Int} {j : Nat} (hj : s ≤ j) (hn : j < p.n) (he : VI p s e) (h2 : VI p s e2)
    (H : e2 = p.at s (pr (p.at s) p.zv p.uv (ltTo e j)) (pw (p.at s) p.zv (p.uv j) ((e.getD j 0).toNat + 1))) : tgF p s e2 e j = p.at s e (p.uv j) := by
  have hg := h.uv hj hn
  have hx := he.tl (j := j) h.vd
  have hxs := hx.mono (show s ≤ j + 1 by omega)
  have hlen : j < e.length := by rw [he.len]; exact hn
  have hmem : ∀ t ∈ ltTo e j, VI p s (p.uv t) := fun t ht => by
    have : t ∈ lw e := by rw [lw_parts e hlen]; exact List.mem_append_left _ ht
    have := he.mem this
    exact h.uv this.1 this.2
  have hA := pr_closed h.G hmem
  have hbm : ∀ t ∈ bh e j, j + 1 ≤ t ∧ t < p.n := fun t ht => by rw [← lw_tl hlen] at ht; exact hx.mem ht
  have hbu : ∀ t ∈ bh e j, VI p s (p.uv t) := fun t ht => h.uv (by have := hbm t ht; omega) (hbm t ht).2
  have hbc : ∀ t ∈ bh e j, VI p s (p.C j t) := fun t ht => (h.vd.cj j t (by have := hbm t ht; omega) (hbm t ht).2).mono (by omega)
  have hr : ∀ t ∈ lwAt e j, VI p s (p.uv t) := fun t ht => by obtain ⟨_, rfl⟩ := List.mem_replicate.1 ht; exact hg
  -- e in three parts
  have e0 : e = p.at s (pr (p.at s) p.zv p.uv (ltTo e j)) (p.at s (pw (p.at s) p.zv (p.uv j) (e.getD j 0).toNat) (tl e j)) := by
    have h1 := h.vec he
    rw [lw_parts e hlen, pr_append h.G hmem (fun t ht => by rcases List.mem_append.1 ht with ht | ht; exact hr t ht; exact hbu t ht), pr_append h.G hr hbu] at h1
    rw [show pr (p.at s) p.zv p.uv (lwAt e j) = pw (p.at s) p.zv (p.uv j) (e.getD j 0).toNat from pr_replicate _ _ _, ← lw_tl hlen, h.vec hxs] at h1
    exact h1.symm
  have hpw := pw_closed h.G hg (e.getD j 0).toNat
  have himg := (hx.img h.vd hn).mono (show s ≤ j + 1 by omega)
  have e1 : p.at s e (p.uv j) = p.at s e2 (p.img j (tl e j)) := by
    conv => lhs; rw [e0]
    rw [h.G.assoc hA (h.at hpw hxs) hg, h.G.assoc hpw hxs hg, h.swap hj hn hx, ← h.G.assoc hpw hg himg, ← h.G.assoc hA (h.at hpw hg) himg, H]
    rfl
  have e3 : p.img j (tl e j) = pr (p.at s) p.zv (p.C j) (bh e j) := by
    unfold Pres.img imgM
    rw [lw_tl hlen]
    have : ∀ l : List Nat, (∀ t ∈ l, j + 1 ≤ t ∧ t < p.n) → ∀ a, VI p (j + 1) a → l.foldl (fun u t => p.at (j + 1) u (p.C j t)) a = l.foldl (fun u t => p.at s u (p.C j t)) a := by
      intro l
      induction l with
      | nil => intro _ a _; rfl
      | cons t l ih =>
        intro hl a ha
        have ht := hl t List.mem_cons_self
        have hc := h.vd.cj j t (by omega) ht.2
        simp only [List.foldl_cons]
        rw [← at_subs h.vd (s := s) (j + 1) (by omega) (by omega) _ _ ha hc]
        rw [ih (fun u hu => hl u (List.mem_cons_of_mem _ hu)) _ (by rw [at_subs h.vd (s := s) (j + 1) (by omega) (by omega) _ _ ha hc]; exact (h.g (j + 1) (by omega) hn).cl ha hc)]
    exact this _ hbm _ (VI.zv h.vd _)
  rw [e1, e3, ← pr_from h.G (p.C j) (bh e j) hbc e2 h2, bh_drop, List.foldl_map]
  rfl
theorem GT.tg_lo (h : GT p s) {e : List Int} {j : Nat} (hj : s ≤ j) (hn : j < p.n) (he : VI p s e) (hc : e.getD j 0 + 1 < p.r j) :
    VI p s ((hd e j).set j (e.getD j 0 + 1)) ∧ tgF p s ((hd e j).set j (e.getD j 0 + 1)) e j = p.at s e (p.uv j) := by
  have h0 := he.lo j hn
  have hv := (he.hd (j := j) h.vd).put hj (c := e.getD j 0 + 1) (by omega) hc
  have hlen : j < e.length := by rw [he.len]; exact hn
  refine ⟨hv, h.tg_any hj hn he hv ?_⟩
  have h1 := h.vec hv
  have hmem : ∀ t ∈ ltTo e j, VI p s (p.uv t) := fun t ht => by
    have : t ∈ lw e := by rw [lw_parts e hlen]; exact List.mem_append_left _ ht
    have := he.mem this
    exact h.uv this.1 this.2
  rw [lw_hd hlen, pr_append h.G hmem (fun t ht => by obtain ⟨_, rfl⟩ := List.mem_replicate.1 ht; exact h.uv hj hn), pr_replicate, show (e.getD j 0 + 1).toNat = (e.getD j 0).toNat + 1 by omega] at h1
  exact h1.symm
theorem GT.tg_hi (h : GT p s) {e : List Int} {j : Nat} (hj : s ≤ j) (hn : j < p.n) (he : VI p s e) (hc : e.getD j 0 + 1 = p.r j) :
    VI p s ((hd e j).set j 0) ∧ tgF p s (p.at s ((hd e j).set j 0) (p.P j)) e j = p.at s e (p.uv j) := by
  have h0 := he.lo j hn
  have hv := (he.hd (j := j) h.vd).put hj (c := 0) (by omega) (by have := h.vd.ord j hn; omega)
  have hP := (h.vd.pow j hn).mono (show s ≤ j + 1 by omega)
  have hlen : j < e.length := by rw [he.len]; exact hn
  refine ⟨hv, h.tg_any hj hn he (h.at hv hP) ?_⟩
  have h1 := h.vec hv
  rw [lw_hd hlen] at h1
  rw [show (e.getD j 0).toNat + 1 = (p.r j).toNat by omega, h.pw_r hj hn]
  simp only [Int.toNat_zero, List.replicate_zero, List.append_nil] at h1
  rw [h1]

/-! ### powers and inverses -/
theorem GT.pw (h : GT p s) {a : List Int} (ha : VI p s a) (k : Nat) : VI p s (pw (p.at s) p.zv a k) := pw_closed h.G ha k
open Classical in
noncomputable def Pres.inv (p : Pres) (s : Nat) (a : List Int) : List Int := if h : ∃ b, VI p s b ∧ p.at s a b = p.zv then Classical.choose h else p.zv
theorem GT.inv_spec (h : GT p s) {a : List Int} (ha : VI p s a) : VI p s (p.inv s a) ∧ p.at s a (p.inv s a) = p.zv := by
  obtain ⟨b, hb, h1, _⟩ := h.G.inv ha
  have hex : ∃ b, VI p s b ∧ p.at s a b = p.zv := ⟨b, hb, h1⟩
  unfold Pres.inv
  rw [dif_pos hex]
  exact Classical.choose_spec hex
theorem GT.inv (h : GT p s) {a : List Int} (ha : VI p s a) : VI p s (p.inv s a) := (h.inv_spec ha).1
theorem GT.invr (h : GT p s) {a : List Int} (ha : VI p s a) : p.at s a (p.inv s a) = p.zv := (h.inv_spec ha).2
theorem GT.inv_eq (h : GT p s) {a b : List Int} (ha : VI p s a) (hb : VI p s b) (hab : p.at s a b = p.zv) : b = p.inv s a :=
  h.G.lcan ha hb (h.inv ha) (hab.trans (h.invr ha).symm)
theorem GT.invl (h : GT p s) {a : List Int} (ha : VI p s a) : p.at s (p.inv s a) a = p.zv := by
  obtain ⟨b, hb, h1, h2⟩ := h.G.inv ha
  rw [← h.inv_eq ha hb h1]; exact h2
theorem GT.inv_eq' (h : GT p s) {a b : List Int} (ha : VI p s a) (hb : VI p s b) (hab : p.at s b a = p.zv) : b = p.inv s a :=
  h.G.rcan ha hb (h.inv ha) (hab.trans (h.invl ha).symm)
/-- a generator behind what is zero ahead of it -/
theorem GT.step (h : GT p s) {j : Nat} (hj : s ≤ j) (hn : j < p.n) {x : List Int} (hx : VI p s x) (hz : ∀ k, k < j → x.getD k 0 = 0) :
    (∀ k, k < j → (p.at s x (p.uv j)).getD k 0 = 0) ∧ (p.at s x (p.uv j)).getD j 0 = if x.getD j 0 + 1 = p.r j then 0 else x.getD j 0 + 1 := by
  have hx' : VI p j x := ⟨hx.len, hx.lo, hx.hi, hz⟩
  have hu := VI.uv h.vd (Nat.le_refl j) hn
  have h1 := hx.hi j hn
  rw [at_subs h.vd j hj (by omega) _ _ hx' hu]
  refine ⟨((h.g j hj (by omega)).cl hx' hu).zero, ?_⟩
  have e1 : (p.uv j).getD j 0 = 1 := vset_self (by rw [p.zv_len]; exact hn)
  rw [(at_get h.vd hn hx' hu).1, e1]
  by_cases hc : x.getD j 0 + 1 = p.r j
  · rw [if_pos hc, if_pos (by omega)]; omega
  · rw [if_neg hc, if_neg (by omega)]
/-- conjugates -/
theorem GT.cnj (h : GT p s) {x y z : List Int} (hx : VI p s x) (hy : VI p s y) (hz : VI p s z) : (p.at s (p.inv s y) (p.at s x y) = z) ↔ p.at s x y = p.at s y z := by
  constructor
  · intro hh
    rw [← hh, ← h.G.assoc hy (h.inv hy) (h.at hx hy), h.invr hy, h.G.onel (h.at hx hy)]
  · intro hh
    rw [hh, ← h.G.assoc (h.inv hy) hy hz, h.invl hy, h.G.onel hz]
theorem pw_add' (h : GT p s) {a : List Int} (ha : VI p s a) (k l : Nat) : p.at s (pw (p.at s) p.zv a k) (pw (p.at s) p.zv a l) = pw (p.at s) p.zv a (k + l) := (pw_add h.G ha k l).symm
end
end Go.Proofs.Ytjnnjnhmecidmaa
