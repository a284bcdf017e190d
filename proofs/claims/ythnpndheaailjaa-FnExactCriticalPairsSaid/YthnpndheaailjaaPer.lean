/-
  Multiplying by generators, inverses, powers and faults in the tails of a presentation: no program in sight.
  The first fault of a level, and the least index from which on the tails are groups: no program in sight.
  Periods of elements, numbers of elements: no program in sight.
-/
import Derived.Test.YthnpndheaailjaaExt
import Derived.Test.YthnpndheaailjaaValid
namespace Go.Proofs.Ythnpndheaailjaa
set_option linter.unusedVariables false
set_option linter.unusedSimpArgs false
set_option maxRecDepth 100000

--== plain (Con)
/-! ### vectors by index -/
theorem rmap_getD (n t : Nat) (f : Nat → Int) : ((List.range n).map f).getD t 0 = if t < n then f t else 0 := by
  rw [List.getD_eq_getElem?_getD, List.getElem?_map]
  by_cases h : t < n
  · rw [List.getElem?_range h, if_pos h]; rfl
  · rw [List.getElem?_eq_none (by simpa using Nat.le_of_not_lt h), if_neg h]; rfl
theorem getD_out {x : List Int} {t : Nat} (h : x.length ≤ t) : x.getD t 0 = 0 := by
  rw [List.getD_eq_getElem?_getD, List.getElem?_eq_none h]; rfl
/-- e with zeros at j+1 .. j+k -/
def clr (e : List Int) (j k : Nat) : List Int := (List.range e.length).map fun t => if j < t ∧ t ≤ j + k then 0 else e.getD t 0
theorem clr_len (e : List Int) (j k : Nat) : (clr e j k).length = e.length := by simp [clr]
theorem clr_getD (e : List Int) (j k t : Nat) : (clr e j k).getD t 0 = if j < t ∧ t ≤ j + k then 0 else e.getD t 0 := by
  unfold clr
  rw [rmap_getD]
  by_cases h : t < e.length
  · rw [if_pos h]
  · rw [if_neg h]; split
    · rfl
    · exact (getD_out (by omega)).symm
theorem clr_zero (e : List Int) (j : Nat) : clr e j 0 = e := vext (clr_len _ _ _) fun t _ => by rw [clr_getD, if_neg (by omega)]
theorem clr_succ (e : List Int) (j k : Nat) : (clr e j k).set (j + 1 + k) 0 = clr e j (k + 1) := by
  refine vext (by rw [List.length_set, clr_len, clr_len]) fun t _ => ?_
  rw [vset, clr_len, clr_getD, clr_getD]
  by_cases h : t < e.length
  · by_cases h1 : j + 1 + k = t
    · rw [if_pos ⟨h1, h⟩, if_pos (by omega)]
    · rw [if_neg (fun hh => h1 hh.1)]
      by_cases h2 : j < t ∧ t ≤ j + k
      · rw [if_pos h2, if_pos (by omega)]
      · rw [if_neg h2, if_neg (by omega)]
  · have := getD_out (x := e) (t := t) (by omega)
    rw [if_neg (fun hh => h hh.2)]
    split <;> split <;> omega
/-- zeros behind j -/
def hd (e : List Int) (j : Nat) : List Int := clr e j e.length
theorem hd_len (e : List Int) (j : Nat) : (hd e j).length = e.length := clr_len _ _ _
theorem hd_getD (e : List Int) (j t : Nat) : (hd e j).getD t 0 = if j < t then 0 else e.getD t 0 := by
  unfold hd
  rw [clr_getD]
  by_cases h : j < t
  · rw [if_pos h]
    by_cases h1 : t ≤ j + e.length
    · rw [if_pos ⟨h, h1⟩]
    · rw [if_neg (fun hh => h1 hh.2)]; exact getD_out (by omega)
  · rw [if_neg h, if_neg (fun hh => h hh.1)]
theorem clr_all {e : List Int} {j k : Nat} (h : e.length ≤ j + 1 + k) : clr e j k = hd e j := by
  refine vext (by rw [clr_len, hd_len]) fun t ht => ?_
  rw [clr_len] at ht
  rw [clr_getD, hd_getD]
  by_cases h1 : j < t
  · rw [if_pos h1, if_pos (by omega)]
  · rw [if_neg h1, if_neg (fun hh => h1 hh.1)]
/-- zeros up to j -/
def tl (e : List Int) (j : Nat) : List Int := (List.range e.length).map fun t => if t ≤ j then 0 else e.getD t 0
theorem tl_len (e : List Int) (j : Nat) : (tl e j).length = e.length := by simp [tl]
theorem tl_getD (e : List Int) (j t : Nat) : (tl e j).getD t 0 = if t ≤ j then 0 else e.getD t 0 := by
  unfold tl
  rw [rmap_getD]
  by_cases h : t < e.length
  · rw [if_pos h]
  · rw [if_neg h]; split
    · rfl
    · exact (getD_out (by omega)).symm

/-! ### letters -/
def ltTo (x : List Int) (i : Nat) : List Nat := (List.range i).flatMap (lwAt x)
theorem ltTo_all (x : List Int) : ltTo x x.length = lw x := rfl
theorem ltTo_succ {x : List Int} {i m : Nat} (h : x.getD i 0 = (m : Int)) : ltTo x (i + 1) = ltTo x i ++ List.replicate m i := by
  unfold ltTo; rw [List.range_succ, List.flatMap_append]; simp only [List.flatMap_cons, List.flatMap_nil, List.append_nil, lwAt, h, Int.toNat_natCast]
theorem ltTo_congr {x y : List Int} {i : Nat} (h : ∀ t, t < i → x.getD t 0 = y.getD t 0) : ltTo x i = ltTo y i :=
  flatMap_congr fun t ht => by unfold lwAt; rw [h t (List.mem_range.1 ht)]
theorem ltTo_nil {x : List Int} {i : Nat} (h : ∀ t, t < i → x.getD t 0 = 0) : ltTo x i = [] := by
  unfold ltTo; rw [List.flatMap_eq_nil_iff]; intro t ht; unfold lwAt; rw [h t (List.mem_range.1 ht)]; rfl
/-- the letters behind j -/
def bh (x : List Int) (j : Nat) : List Nat := (List.range' (j + 1) (x.length - j - 1)).flatMap (lwAt x)
theorem lw_parts (x : List Int) {j : Nat} (hj : j < x.length) : lw x = ltTo x j ++ (lwAt x j ++ bh x j) := by
  unfold lw ltTo bh
  rw [range_split x.length j hj, List.flatMap_append, List.flatMap_cons]
theorem bh_nil {x : List Int} {j : Nat} (h : ∀ t, j < t → x.getD t 0 = 0) : bh x j = [] := by
  unfold bh; rw [List.flatMap_eq_nil_iff]; intro t ht
  obtain ⟨k, _, rfl⟩ := List.mem_range'.1 ht
  unfold lwAt; rw [h _ (by omega)]; rfl
theorem bh_congr {x y : List Int} {j : Nat} (hl : x.length = y.length) (h : ∀ t, j < t → x.getD t 0 = y.getD t 0) : bh x j = bh y j := by
  unfold bh; rw [hl]
  exact flatMap_congr fun t ht => by
    obtain ⟨k, _, rfl⟩ := List.mem_range'.1 ht
    unfold lwAt; rw [h _ (by omega)]
theorem bh_drop (x : List Int) (j : Nat) : bh x j = (lw (x.drop (j + 1))).map fun k => j + 1 + k := by
  unfold bh lw
  rw [List.length_drop, List.map_flatMap, show x.length - (j + 1) = x.length - j - 1 by omega, List.range'_eq_map_range, List.flatMap_map]
  exact flatMap_congr fun k _ => by
    show lwAt x (j + 1 + k) = _
    unfold lwAt
    rw [List.map_replicate]
    congr 2
    simp [List.getD_eq_getElem?_getD, List.getElem?_drop]
theorem lw_hd {e : List Int} {j : Nat} (hj : j < e.length) (c : Int) : lw ((hd e j).set j c) = ltTo e j ++ List.replicate c.toNat j := by
  rw [lw_parts _ (j := j) (by rw [List.length_set, hd_len]; exact hj), bh_nil, List.append_nil]
  · congr 1
    · exact ltTo_congr fun t ht => by rw [vset_ne (by omega), hd_getD, if_neg (by omega)]
    · unfold lwAt; rw [vset_self (by rw [hd_len]; exact hj)]
  · intro t ht; rw [vset_ne (by omega), hd_getD, if_pos ht]
theorem lw_tl {e : List Int} {j : Nat} (hj : j < e.length) : lw (tl e j) = bh e j := by
  rw [lw_parts _ (j := j) (by rw [tl_len]; exact hj), ltTo_nil, show lwAt (tl e j) j = [] by (unfold lwAt; rw [tl_getD, if_pos (Nat.le_refl _)]; rfl)]
  · exact bh_congr (tl_len _ _) fun t ht => by rw [tl_getD, if_neg (by omega)]
  · intro t ht; rw [tl_getD, if_pos (by omega)]

section
variable {p : Pres} {s : Nat}
theorem VI.hd {e : List Int} {j : Nat} (hp : Valid p) (h : VI p s e) : VI p s (hd e j) := by
  refine ⟨by rw [hd_len]; exact h.len, fun k hk => ?_, fun k hk => ?_, fun k hk => ?_⟩
  · rw [hd_getD]; split
    · omega
    · exact h.lo k hk
  · rw [hd_getD]; split
    · have := hp.ord k hk; omega
    · exact h.hi k hk
  · rw [hd_getD]; split
    · rfl
    · exact h.zero k hk
theorem VI.tl {e : List Int} {j : Nat} (hp : Valid p) (h : VI p s e) : VI p (j + 1) (tl e j) := by
  refine ⟨by rw [tl_len]; exact h.len, fun k hk => ?_, fun k hk => ?_, fun k hk => ?_⟩
  · rw [tl_getD]; split
    · omega
    · exact h.lo k hk
  · rw [tl_getD]; split
    · have := hp.ord k hk; omega
    · exact h.hi k hk
  · rw [tl_getD, if_pos (by omega)]
theorem VI.put {e : List Int} {j : Nat} (h : VI p s e) (hj : s ≤ j) {c : Int} (h0 : 0 ≤ c) (h1 : c < p.r j) : VI p s (e.set j c) := by
  refine ⟨by rw [List.length_set]; exact h.len, fun k hk => ?_, fun k hk => ?_, fun k hk => ?_⟩
  · rw [vset]; split
    · exact h0
    · exact h.lo k hk
  · rw [vset]; split
    · next hh => rw [← hh.1]; exact h1
    · exact h.hi k hk
  · rw [vset_ne (by omega)]; exact h.zero k hk

/-- the tails from s on are groups -/
structure GT (p : Pres) (s : Nat) : Prop where
  vd : Valid p
  le : s ≤ p.n
  g : ∀ t, s ≤ t → t ≤ p.n → p.G t
theorem GT.of (hp : Valid p) (hs : s ≤ p.n) (hL : ∀ i, s ≤ i → i < p.n → LevelOK p i) : GT p s := ⟨hp, hs, G_all hp s hL⟩
theorem GT.G (h : GT p s) : p.G s := h.g s (Nat.le_refl _) h.le
theorem GT.up (h : GT p s) {t : Nat} (h1 : s ≤ t) (h2 : t ≤ p.n) : GT p t := ⟨h.vd, h2, fun u hu hn => h.g u (by omega) hn⟩
theorem GT.at (h : GT p s) {a b : List Int} (ha : VI p s a) (hb : VI p s b) : VI p s (p.at s a b) := h.G.cl ha hb
theorem GT.uv (h : GT p s) {j : Nat} (h1 : s ≤ j) (h2 : j < p.n) : VI p s (p.uv j) := VI.uv h.vd h1 h2
theorem GT.vec (h : GT p s) {x : List Int} (hx : VI p s x) : pr (p.at s) p.zv p.uv (lw x) = x := vec_pr h.vd h.g s h.le (Nat.le_refl _) x hx

/-- the program's product: letter by letter -/
theorem GT.tv (h : GT p s) {a f : List Int} (ha : VI p s a) (hf : VI p s f) : (lw f).foldl (fun u k => p.at s u (p.uv k)) a = p.at s a f := by
  have hu : ∀ j ∈ lw f, VI p s (p.uv j) := fun j hj => by have := hf.mem hj; exact h.uv this.1 this.2
  rw [pr_from h.G p.uv (lw f) hu a ha, h.vec hf]
theorem GT.swap (h : GT p s) {j : Nat} (hj : s ≤ j) (hn : j < p.n) {x : List Int} (hx : VI p (j + 1) x) : p.at s x (p.uv j) = p.at s (p.uv j) (p.img j x) := by
  have hu := VI.uv h.vd (Nat.le_refl j) hn
  have hi := hx.img h.vd hn
  have G1 := h.g (j + 1) (by omega) hn
  have hr := h.vd.ord j hn
  rw [at_subs h.vd j hj (by omega) _ _ (hx.mono (by omega)) hu, at_subs h.vd j hj (by omega) _ _ hu (hi.mono (by omega))]
  have e1 : (p.uv j).getD j 0 = 1 := vset_self (by rw [p.zv_len]; exact hn)
  have e2 := hx.zero j (by omega)
  have e3 := hi.zero j (by omega)
  have e4 : (p.uv j).set j 0 = p.zv := by unfold Pres.uv; rw [List.set_set, zv_set]
  rw [at_lo hn (by rw [e1, e2]; omega), at_lo hn (by rw [e1, e3]; omega)]
  unfold Pres.mid
  rw [e1, e2, e3, e4, hx.same, hi.same]
  show (p.at (j + 1) (p.img j x) p.zv).set j (0 + 1) = (p.at (j + 1) p.zv (p.img j x)).set j (1 + 0)
  rw [G1.oner hi, G1.onel hi]; rfl
theorem GT.pw_sub (h : GT p s) {j : Nat} (hj : s ≤ j) (hn : j < p.n) (k : Nat) : pw (p.at s) p.zv (p.uv j) k = pw (p.at j) p.zv (p.uv j) k := by
  have hu := VI.uv h.vd (Nat.le_refl j) hn
  induction k with
  | zero => rfl
  | succ k ih =>
    show p.at s _ _ = p.at j _ _
    rw [ih, at_subs h.vd j hj (by omega) _ _ (pw_closed (h.g j hj (by omega)) hu k) hu]
theorem GT.pw_r (h : GT p s) {j : Nat} (hj : s ≤ j) (hn : j < p.n) : pw (p.at s) p.zv (p.uv j) (p.r j).toNat = p.P j := by
  have hr := h.vd.ord j hn
  have G1 := h.g (j + 1) (by omega) hn
  obtain ⟨k, hk⟩ : ∃ k : Nat, p.r j = k + 1 := ⟨(p.r j - 1).toNat, by omega⟩
  rw [h.pw_sub hj hn, show (p.r j).toNat = k + 1 by omega]
  show p.at j (pw _ _ _ k) (p.uv j) = _
  rw [pw_uv h.vd hn G1 k (by omega)]
  have e0 : (p.zv.set j (k : Int)).getD j 0 = k := vset_self (by rw [p.zv_len]; exact hn)
  have e1 : (p.uv j).getD j 0 = 1 := vset_self (by rw [p.zv_len]; exact hn)
  have e4 : (p.uv j).set j 0 = p.zv := by unfold Pres.uv; rw [List.set_set, zv_set]
  rw [at_hi hn (by rw [e0, e1]; omega)]
  unfold Pres.mid
  rw [e0, e1, e4, List.set_set, zv_set]
  have e5 : itf (p.img j) (1 : Int).toNat p.zv = p.zv := itf_zv p j 1
  rw [e5, G1.onel G1.one, G1.oner (h.vd.pow j hn), show (k : Int) + 1 - p.r j = 0 by omega, (h.vd.pow j hn).same]

/-- the program's product with a generator -/
def tgF (p : Pres) (s : Nat) (e2 e : List Int) (j : Nat) : List Int := (lw (e.drop (j + 1))).foldl (fun u k => p.at s u (p.C j (j + 1 + k))) e2
theorem GT.tg_any (h : GT p s) {e e2 : List Int} {j : Nat} (hj : s ≤ j) (hn : j < p.n) (he : VI p s e) (h2 : VI p s e2)
    (H : e2 = p.at s (pr (p.at s) p.zv p.uv (ltTo e j)) (pw (p.at s) p.zv (p.uv j) ((e.getD j 0).toNat + 1))) : tgF p s e2 e j = p.at s e (p.uv j) := by
  have hg := h.uv hj hn
  have hx := he.tl (j := j) h.vd
  have hxs := hx.mono (show s ≤ j + 1 by omega)
  have hlen : j < e.length := by rw [he.len]; exact hn
  have hmem : ∀ t ∈ ltTo e j, VI p s (p.uv t) := fun t ht => by
    have : t ∈ lw e := by rw [lw_parts e hlen]; exact List.mem_append_left _ ht
    have := he.mem this
    exact h.uv this.1 this.2
  have hA := pr_closed h.G hmem
  have hbm : ∀ t ∈ bh e j, j + 1 ≤ t ∧ t < p.n := fun t ht => by rw [← lw_tl hlen] at ht; exact hx.mem ht
  have hbu : ∀ t ∈ bh e j, VI p s (p.uv t) := fun t ht => h.uv (by have := hbm t ht; omega) (hbm t ht).2
  have hbc : ∀ t ∈ bh e j, VI p s (p.C j t) := fun t ht => (h.vd.cj j t (by have := hbm t ht; omega) (hbm t ht).2).mono (by omega)
  have hr : ∀ t ∈ lwAt e j, VI p s (p.uv t) := fun t ht => by obtain ⟨_, rfl⟩ := List.mem_replicate.1 ht; exact hg
  -- e in three parts
  have e0 : e = p.at s (pr (p.at s) p.zv p.uv (ltTo e j)) (p.at s (pw (p.at s) p.zv (p.uv j) (e.getD j 0).toNat) (tl e j)) := by
    have h1 := h.vec he
    rw [lw_parts e hlen, pr_append h.G hmem (fun t ht => by rcases List.mem_append.1 ht with ht | ht; exact hr t ht; exact hbu t ht), pr_append h.G hr hbu] at h1
    rw [show pr (p.at s) p.zv p.uv (lwAt e j) = pw (p.at s) p.zv (p.uv j) (e.getD j 0).toNat from pr_replicate _ _ _, ← lw_tl hlen, h.vec hxs] at h1
    exact h1.symm
  have hpw := pw_closed h.G hg (e.getD j 0).toNat
  have himg := (hx.img h.vd hn).mono (show s ≤ j + 1 by omega)
  have e1 : p.at s e (p.uv j) = p.at s e2 (p.img j (tl e j)) := by
    conv => lhs; rw [e0]
    rw [h.G.assoc hA (h.at hpw hxs) hg, h.G.assoc hpw hxs hg, h.swap hj hn hx, ← h.G.assoc hpw hg himg, ← h.G.assoc hA (h.at hpw hg) himg, H]
    rfl
  have e3 : p.img j (tl e j) = pr (p.at s) p.zv (p.C j) (bh e j) := by
    unfold Pres.img imgM
    rw [lw_tl hlen]
    have : ∀ l : List Nat, (∀ t ∈ l, j + 1 ≤ t ∧ t < p.n) → ∀ a, VI p (j + 1) a → l.foldl (fun u t => p.at (j + 1) u (p.C j t)) a = l.foldl (fun u t => p.at s u (p.C j t)) a := by
      intro l
      induction l with
      | nil => intro _ a _; rfl
      | cons t l ih =>
        intro hl a ha
        have ht := hl t List.mem_cons_self
        have hc := h.vd.cj j t (by omega) ht.2
        simp only [List.foldl_cons]
        rw [← at_subs h.vd (s := s) (j + 1) (by omega) (by omega) _ _ ha hc]
        rw [ih (fun u hu => hl u (List.mem_cons_of_mem _ hu)) _ (by rw [at_subs h.vd (s := s) (j + 1) (by omega) (by omega) _ _ ha hc]; exact (h.g (j + 1) (by omega) hn).cl ha hc)]
    exact this _ hbm _ (VI.zv h.vd _)
  rw [e1, e3, ← pr_from h.G (p.C j) (bh e j) hbc e2 h2, bh_drop, List.foldl_map]
  rfl
theorem GT.tg_lo (h : GT p s) {e : List Int} {j : Nat} (hj : s ≤ j) (hn : j < p.n) (he : VI p s e) (hc : e.getD j 0 + 1 < p.r j) :
    VI p s ((hd e j).set j (e.getD j 0 + 1)) ∧ tgF p s ((hd e j).set j (e.getD j 0 + 1)) e j = p.at s e (p.uv j) := by
  have h0 := he.lo j hn
  have hv := (he.hd (j := j) h.vd).put hj (c := e.getD j 0 + 1) (by omega) hc
  have hlen : j < e.length := by rw [he.len]; exact hn
  refine ⟨hv, h.tg_any hj hn he hv ?_⟩
  have h1 := h.vec hv
  have hmem : ∀ t ∈ ltTo e j, VI p s (p.uv t) := fun t ht => by
    have : t ∈ lw e := by rw [lw_parts e hlen]; exact List.mem_append_left _ ht
    have := he.mem this
    exact h.uv this.1 this.2
  rw [lw_hd hlen, pr_append h.G hmem (fun t ht => by obtain ⟨_, rfl⟩ := List.mem_replicate.1 ht; exact h.uv hj hn), pr_replicate, show (e.getD j 0 + 1).toNat = (e.getD j 0).toNat + 1 by omega] at h1
  exact h1.symm
theorem GT.tg_hi (h : GT p s) {e : List Int} {j : Nat} (hj : s ≤ j) (hn : j < p.n) (he : VI p s e) (hc : e.getD j 0 + 1 = p.r j) :
    VI p s ((hd e j).set j 0) ∧ tgF p s (p.at s ((hd e j).set j 0) (p.P j)) e j = p.at s e (p.uv j) := by
  have h0 := he.lo j hn
  have hv := (he.hd (j := j) h.vd).put hj (c := 0) (by omega) (by have := h.vd.ord j hn; omega)
  have hP := (h.vd.pow j hn).mono (show s ≤ j + 1 by omega)
  have hlen : j < e.length := by rw [he.len]; exact hn
  refine ⟨hv, h.tg_any hj hn he (h.at hv hP) ?_⟩
  have h1 := h.vec hv
  rw [lw_hd hlen] at h1
  rw [show (e.getD j 0).toNat + 1 = (p.r j).toNat by omega, h.pw_r hj hn]
  simp only [Int.toNat_zero, List.replicate_zero, List.append_nil] at h1
  rw [h1]

/-! ### powers and inverses -/
theorem GT.pw (h : GT p s) {a : List Int} (ha : VI p s a) (k : Nat) : VI p s (pw (p.at s) p.zv a k) := pw_closed h.G ha k
open Classical in
noncomputable def Pres.inv (p : Pres) (s : Nat) (a : List Int) : List Int := if h : ∃ b, VI p s b ∧ p.at s a b = p.zv then Classical.choose h else p.zv
theorem GT.inv_spec (h : GT p s) {a : List Int} (ha : VI p s a) : VI p s (p.inv s a) ∧ p.at s a (p.inv s a) = p.zv := by
  obtain ⟨b, hb, h1, _⟩ := h.G.inv ha
  have hex : ∃ b, VI p s b ∧ p.at s a b = p.zv := ⟨b, hb, h1⟩
  unfold Pres.inv
  rw [dif_pos hex]
  exact Classical.choose_spec hex
theorem GT.inv (h : GT p s) {a : List Int} (ha : VI p s a) : VI p s (p.inv s a) := (h.inv_spec ha).1
theorem GT.invr (h : GT p s) {a : List Int} (ha : VI p s a) : p.at s a (p.inv s a) = p.zv := (h.inv_spec ha).2
theorem GT.inv_eq (h : GT p s) {a b : List Int} (ha : VI p s a) (hb : VI p s b) (hab : p.at s a b = p.zv) : b = p.inv s a :=
  h.G.lcan ha hb (h.inv ha) (hab.trans (h.invr ha).symm)
theorem GT.invl (h : GT p s) {a : List Int} (ha : VI p s a) : p.at s (p.inv s a) a = p.zv := by
  obtain ⟨b, hb, h1, h2⟩ := h.G.inv ha
  rw [← h.inv_eq ha hb h1]; exact h2
theorem GT.inv_eq' (h : GT p s) {a b : List Int} (ha : VI p s a) (hb : VI p s b) (hab : p.at s b a = p.zv) : b = p.inv s a :=
  h.G.rcan ha hb (h.inv ha) (hab.trans (h.invl ha).symm)
/-- a generator behind what is zero ahead of it -/
theorem GT.step (h : GT p s) {j : Nat} (hj : s ≤ j) (hn : j < p.n) {x : List Int} (hx : VI p s x) (hz : ∀ k, k < j → x.getD k 0 = 0) :
    (∀ k, k < j → (p.at s x (p.uv j)).getD k 0 = 0) ∧ (p.at s x (p.uv j)).getD j 0 = if x.getD j 0 + 1 = p.r j then 0 else x.getD j 0 + 1 := by
  have hx' : VI p j x := ⟨hx.len, hx.lo, hx.hi, hz⟩
  have hu := VI.uv h.vd (Nat.le_refl j) hn
  have h1 := hx.hi j hn
  rw [at_subs h.vd j hj (by omega) _ _ hx' hu]
  refine ⟨((h.g j hj (by omega)).cl hx' hu).zero, ?_⟩
  have e1 : (p.uv j).getD j 0 = 1 := vset_self (by rw [p.zv_len]; exact hn)
  rw [(at_get h.vd hn hx' hu).1, e1]
  by_cases hc : x.getD j 0 + 1 = p.r j
  · rw [if_pos hc, if_pos (by omega)]; omega
  · rw [if_neg hc, if_neg (by omega)]
/-- conjugates -/
theorem GT.cnj (h : GT p s) {x y z : List Int} (hx : VI p s x) (hy : VI p s y) (hz : VI p s z) : (p.at s (p.inv s y) (p.at s x y) = z) ↔ p.at s x y = p.at s y z := by
  constructor
  · intro hh
    rw [← hh, ← h.G.assoc hy (h.inv hy) (h.at hx hy), h.invr hy, h.G.onel (h.at hx hy)]
  · intro hh
    rw [hh, ← h.G.assoc (h.inv hy) hy hz, h.invl hy, h.G.onel hz]
theorem pw_add' (h : GT p s) {a : List Int} (ha : VI p s a) (k l : Nat) : p.at s (pw (p.at s) p.zv a k) (pw (p.at s) p.zv a l) = pw (p.at s) p.zv a (k + l) := (pw_add h.G ha k l).symm
end

--== plain (Flt)
/-- the first of lo .. lo+m-1 for which q holds -/
def fst (q : Nat → Bool) (lo : Nat) : Nat → Option Nat
  | 0 => none
  | m + 1 => if q lo then some lo else fst q (lo + 1) m
theorem fst_some {q : Nat → Bool} : ∀ {lo m j : Nat}, lo ≤ j → j < lo + m → q j = true → (∀ t, lo ≤ t → t < j → q t = false) → fst q lo m = some j := by
  intro lo m
  induction m generalizing lo with
  | zero => intro j h1 h2; omega
  | succ m ih =>
    intro j h1 h2 hq hl
    unfold fst
    by_cases h : j = lo
    · subst h; rw [if_pos hq]
    · rw [if_neg (by rw [hl lo (Nat.le_refl _) (by omega)]; decide)]
      exact ih (by omega) (by omega) hq fun t h3 h4 => hl t (by omega) h4
theorem fst_none {q : Nat → Bool} : ∀ {lo m : Nat}, (∀ t, lo ≤ t → t < lo + m → q t = false) → fst q lo m = none := by
  intro lo m
  induction m generalizing lo with
  | zero => intro _; rfl
  | succ m ih =>
    intro hl
    unfold fst
    rw [if_neg (by rw [hl lo (Nat.le_refl _) (by omega)]; decide)]
    exact ih fun t h3 h4 => hl t (by omega) (by omega)
theorem fst_is {q : Nat → Bool} : ∀ {lo m j : Nat}, fst q lo m = some j → lo ≤ j ∧ j < lo + m ∧ q j = true := by
  intro lo m
  induction m generalizing lo with
  | zero => intro j h; simp [fst] at h
  | succ m ih =>
    intro j h
    unfold fst at h
    by_cases hq : q lo = true
    · rw [if_pos hq] at h; cases h; exact ⟨Nat.le_refl _, by omega, hq⟩
    · rw [if_neg hq] at h
      have := ih h
      exact ⟨by omega, by omega, this.2.2⟩
theorem fst_no {q : Nat → Bool} : ∀ {lo m : Nat}, fst q lo m = none → ∀ t, lo ≤ t → t < lo + m → q t = false := by
  intro lo m
  induction m generalizing lo with
  | zero => intro _ t h1 h2; omega
  | succ m ih =>
    intro h t h1 h2
    unfold fst at h
    by_cases hq : q lo = true
    · rw [if_pos hq] at h; cases h
    · rw [if_neg hq] at h
      by_cases ht : t = lo
      · subst ht; simpa using hq
      · exact ih h t (by omega) (by omega)

section
variable (p : Pres) (i : Nat)
def f1 (j : Nat) : Bool := !decide (pw (p.at (i + 1)) p.zv (p.C i j) (p.r j).toNat = p.img i (p.P j))
def f2 (j k : Nat) : Bool := !decide (p.at (i + 1) (p.C i k) (p.C i j) = p.at (i + 1) (p.C i j) (p.img i (p.C j k)))
def f3 : Bool := !decide (p.img i (p.P i) = p.P i)
def f4 (j : Nat) : Bool := !decide (p.at (i + 1) (p.P i) (itf (p.img i) (p.r i).toNat (p.uv j)) = p.at (i + 1) (p.uv j) (p.P i))
def f2r (j : Nat) : Option Nat := fst (f2 p i j) (j + 1) (p.n - (j + 1))
/-- kind, first, second -/
def lvF : Int × Int × Int :=
  match fst (f1 p i) (i + 1) (p.n - (i + 1)) with
  | some j => (1, j, 0)
  | none =>
    match fst (fun j => (f2r p i j).isSome) (i + 1) (p.n - (i + 1)) with
    | some j => (2, j, (f2r p i j).getD 0)
    | none =>
      if f3 p i then (3, 0, 0) else
      match fst (f4 p i) (i + 1) (p.n - (i + 1)) with
      | some j => (4, j, 0)
      | none => (0, 0, 0)
end
section
variable {p : Pres} {i : Nat}
/-- no fault of the first kind up to j -/
def ok1 (p : Pres) (i j : Nat) : Prop := ∀ t, i + 1 ≤ t → t < j → f1 p i t = false
def ok2 (p : Pres) (i j : Nat) : Prop := ∀ t, i + 1 ≤ t → t < j → f2r p i t = none
def ok2r (p : Pres) (i j k : Nat) : Prop := ∀ t, j + 1 ≤ t → t < k → f2 p i j t = false
def ok4 (p : Pres) (i j : Nat) : Prop := ∀ t, i + 1 ≤ t → t < j → f4 p i t = false
theorem ok1_succ {j : Nat} (h : ok1 p i j) (hj : f1 p i j = false) : ok1 p i (j + 1) := fun t h1 h2 => by
  by_cases ht : t = j
  · subst ht; exact hj
  · exact h t h1 (by omega)
theorem ok4_succ {j : Nat} (h : ok4 p i j) (hj : f4 p i j = false) : ok4 p i (j + 1) := fun t h1 h2 => by
  by_cases ht : t = j
  · subst ht; exact hj
  · exact h t h1 (by omega)
theorem ok2r_succ {j k : Nat} (h : ok2r p i j k) (hj : f2 p i j k = false) : ok2r p i j (k + 1) := fun t h1 h2 => by
  by_cases ht : t = k
  · subst ht; exact hj
  · exact h t h1 (by omega)
theorem ok2_succ {j : Nat} (h : ok2 p i j) (hj : ok2r p i j p.n) : ok2 p i (j + 1) := fun t h1 h2 => by
  by_cases ht : t = j
  · subst ht; exact fst_none fun u h3 h4 => hj u h3 (by omega)
  · exact h t h1 (by omega)
theorem ok1_zero : ok1 p i (i + 1) := fun t h1 h2 => by omega
theorem ok2_zero : ok2 p i (i + 1) := fun t h1 h2 => by omega
theorem ok4_zero : ok4 p i (i + 1) := fun t h1 h2 => by omega
theorem ok2r_zero {j : Nat} : ok2r p i j (j + 1) := fun t h1 h2 => by omega
theorem lvF_1 {j : Nat} (h : ok1 p i j) (h1 : i < j) (h2 : j < p.n) (hj : f1 p i j = true) : lvF p i = (1, (j : Int), 0) := by
  unfold lvF; rw [fst_some (by omega) (by omega) hj h]
theorem lvF_2 {j k : Nat} (h : ok1 p i p.n) (g : ok2 p i j) (h1 : i < j) (g3 : ok2r p i j k) (h2 : j < k) (h3 : k < p.n) (hk : f2 p i j k = true) : lvF p i = (2, (j : Int), (k : Int)) := by
  have e1 : f2r p i j = some k := fst_some (by omega) (by omega) hk g3
  unfold lvF
  rw [fst_none (fun t a b => h t a (by omega))]
  simp only
  rw [fst_some (q := fun j => (f2r p i j).isSome) (j := j) (by omega) (by omega) (by simp [e1]) (fun t a b => by simp [g t a b])]
  simp [e1]
theorem lvF_3 (h : ok1 p i p.n) (g : ok2 p i p.n) (h3 : f3 p i = true) : lvF p i = (3, 0, 0) := by
  unfold lvF
  rw [fst_none (fun t a b => h t a (by omega))]
  simp only
  rw [fst_none (q := fun j => (f2r p i j).isSome) (fun t a b => by simp [g t a (by omega)])]
  simp [h3]
theorem lvF_4 {j : Nat} (h : ok1 p i p.n) (g : ok2 p i p.n) (h3 : f3 p i = false) (h4 : ok4 p i j) (h1 : i < j) (h2 : j < p.n) (hj : f4 p i j = true) : lvF p i = (4, (j : Int), 0) := by
  unfold lvF
  rw [fst_none (fun t a b => h t a (by omega))]
  simp only
  rw [fst_none (q := fun j => (f2r p i j).isSome) (fun t a b => by simp [g t a (by omega)])]
  simp only [h3]
  rw [fst_some (by omega) (by omega) hj h4]
  rfl
theorem lvF_0 (h : ok1 p i p.n) (g : ok2 p i p.n) (h3 : f3 p i = false) (h4 : ok4 p i p.n) : lvF p i = (0, 0, 0) := by
  unfold lvF
  rw [fst_none (fun t a b => h t a (by omega))]
  simp only
  rw [fst_none (q := fun j => (f2r p i j).isSome) (fun t a b => by simp [g t a (by omega)])]
  simp only [h3]
  rw [fst_none (fun t a b => h4 t a (by omega))]
  rfl
theorem bne_f {a b : List Int} : (!decide (a = b)) = false ↔ a = b := by simp
/-- no fault: the level's conditions hold -/
theorem lvF_ok (h : (lvF p i).1 = 0) : LevelOK p i := by
  unfold lvF at h
  cases e1 : fst (f1 p i) (i + 1) (p.n - (i + 1)) with
  | some j => rw [e1] at h; simp at h
  | none =>
    rw [e1] at h
    simp only at h
    cases e2 : fst (fun j => (f2r p i j).isSome) (i + 1) (p.n - (i + 1)) with
    | some j => rw [e2] at h; simp at h
    | none =>
      rw [e2] at h
      simp only at h
      cases e3 : f3 p i with
      | true => rw [e3] at h; simp at h
      | false =>
        rw [e3] at h
        cases e4 : fst (f4 p i) (i + 1) (p.n - (i + 1)) with
        | some j => rw [e4] at h; simp at h
        | none =>
          refine ⟨fun j h1 h2 => ?_, fun j k h1 h2 h3 => ?_, ?_, fun j h1 h2 => ?_⟩
          · have := fst_no e1 j (by omega) (by omega); unfold f1 at this; exact bne_f.1 this
          · have := fst_no e2 j (by omega) (by omega)
            have h4 : f2r p i j = none := by simpa using this
            have := fst_no h4 k (by omega) (by omega); unfold f2 at this; exact bne_f.1 this
          · unfold f3 at e3; exact bne_f.1 e3
          · have := fst_no e4 j (by omega) (by omega); unfold f4 at this; exact bne_f.1 this
end

/-- the least index from which on no level has a fault, scanning down from i -/
def cfD (p : Pres) : Nat → Nat
  | 0 => 0
  | i + 1 => if (lvF p i).1 = 0 then cfD p i else i + 1
def cf (p : Pres) : Nat := cfD p p.n
/-- the levels from s on have no fault -/
def cfOK (p : Pres) (s : Nat) : Prop := s ≤ p.n ∧ ∀ i, s ≤ i → i < p.n → (lvF p i).1 = 0
section
variable {p : Pres}
theorem cfOK_top (p : Pres) : cfOK p p.n := ⟨Nat.le_refl _, fun i h1 h2 => by omega⟩
theorem cfOK.down {i : Nat} (h : cfOK p (i + 1)) (hi : (lvF p i).1 = 0) : cfOK p i := ⟨by have := h.1; omega, fun t h1 h2 => by
  by_cases ht : t = i
  · subst ht; exact hi
  · exact h.2 t (by omega) h2⟩
theorem cfD_same {s : Nat} (h : cfOK p s) : cf p = cfD p s := by
  have : ∀ d, s + d = p.n → cf p = cfD p s := by
    intro d
    induction d generalizing s with
    | zero => intro hd; obtain rfl : s = p.n := by omega
              rfl
    | succ d ih =>
      intro hd
      rw [ih (s := s + 1) ⟨by omega, fun i h1 h2 => h.2 i (by omega) h2⟩ (by omega)]
      show (if (lvF p s).1 = 0 then cfD p s else s + 1) = _
      rw [if_pos (h.2 s (Nat.le_refl _) (by omega))]
  exact this (p.n - s) (by have := h.1; omega)
theorem cf_zero (h : cfOK p 0) : cf p = 0 := cfD_same h
theorem cf_at {i : Nat} (h : cfOK p (i + 1)) (hi : (lvF p i).1 ≠ 0) : cf p = i + 1 := by
  rw [cfD_same h]; show (if _ then _ else _) = _; rw [if_neg hi]
theorem cfOK.GT {s : Nat} (hp : Valid p) (h : cfOK p s) : GT p s := GT.of hp h.1 fun i h1 h2 => lvF_ok (h.2 i h1 h2)
theorem cfD_le (p : Pres) (s : Nat) : cfD p s ≤ s := by
  induction s with
  | zero => exact Nat.le_refl _
  | succ s ih =>
    by_cases h : (lvF p s).1 = 0
    · rw [show cfD p (s + 1) = cfD p s by show (if _ then _ else _) = _; rw [if_pos h]]; omega
    · rw [show cfD p (s + 1) = s + 1 by show (if _ then _ else _) = _; rw [if_neg h]]; omega
theorem cfD_spec (p : Pres) : ∀ s, s ≤ p.n → cfOK p s → cfOK p (cfD p s) ∧ ∀ i, cfD p s = i + 1 → (lvF p i).1 ≠ 0 := by
  intro s
  induction s with
  | zero => intro _ h; exact ⟨h, fun i hi => by simp [cfD] at hi⟩
  | succ s ih =>
    intro hs h
    by_cases h0 : (lvF p s).1 = 0
    · have e : cfD p (s + 1) = cfD p s := by show (if _ then _ else _) = _; rw [if_pos h0]
      rw [e]; exact ih (by omega) (h.down h0)
    · have e : cfD p (s + 1) = s + 1 := by show (if _ then _ else _) = _; rw [if_neg h0]
      rw [e]; exact ⟨h, fun i hi => by obtain rfl : s = i := by omega
                                       exact h0⟩
theorem cf_spec (p : Pres) : cfOK p (cf p) ∧ ∀ i, cf p = i + 1 → (lvF p i).1 ≠ 0 := cfD_spec p p.n (Nat.le_refl _) (cfOK_top p)
/-- kind, level, first, second of the first fault -/
def fltF (p : Pres) : List Int := if cf p = 0 then [0, 0, 0, 0] else [(lvF p (cf p - 1)).1, ((cf p - 1 : Nat) : Int), (lvF p (cf p - 1)).2.1, (lvF p (cf p - 1)).2.2]
/-- valid and consistent -/
def conB (p : Pres) : Bool := validB p && decide (cf p = 0)
theorem conB_true (h : conB p = true) : ValidP p ∧ GT p 0 := by
  simp only [conB, Bool.and_eq_true, decide_eq_true_eq] at h
  have h1 := validB_true.1 h.1
  refine ⟨h1, ?_⟩
  have := (cf_spec p).1
  rw [h.2] at this
  exact this.GT h1.valid
end

--== plain (Per)
section
variable {p : Pres} {s : Nat}
theorem pwm_mul (h : GT p s) {a : List Int} (ha : VI p s a) (k l : Nat) : pw (p.at s) p.zv (pw (p.at s) p.zv a k) l = pw (p.at s) p.zv a (k * l) := by
  induction l with
  | zero => rfl
  | succ l ih =>
    show p.at s (pw (p.at s) p.zv (pw (p.at s) p.zv a k) l) (pw (p.at s) p.zv a k) = _
    rw [ih, pw_add' h ha, Nat.mul_succ]
theorem pwm_zv (h : GT p s) (k : Nat) : pw (p.at s) p.zv p.zv k = p.zv := by
  induction k with
  | zero => rfl
  | succ k ih => show p.at s _ p.zv = _; rw [ih, h.G.onel h.G.one]
/-- a period divides out -/
theorem pwm_mod (h : GT p s) {a : List Int} (ha : VI p s a) {m : Nat} (hm : pw (p.at s) p.zv a m = p.zv) (k : Nat) : pw (p.at s) p.zv a (k % m) = pw (p.at s) p.zv a k := by
  have e := Nat.div_add_mod k m
  conv => rhs; rw [← e]
  rw [← pw_add' h ha, ← pwm_mul h ha, hm, pwm_zv h _, h.G.onel (h.pw ha _)]
theorem pwm_inv (h : GT p s) {a : List Int} (ha : VI p s a) (k : Nat) : pw (p.at s) p.zv (p.inv s a) k = p.inv s (pw (p.at s) p.zv a k) := by
  have hi := h.inv ha
  refine h.inv_eq (h.pw ha k) (h.pw hi k) ?_
  induction k with
  | zero => exact h.G.onel h.G.one
  | succ k ih =>
    rw [pw_succ' h.G hi]
    show p.at s (p.at s (pw (p.at s) p.zv a k) a) _ = _
    rw [h.G.assoc (h.pw ha k) ha (h.at hi (h.pw hi k)), ← h.G.assoc ha hi (h.pw hi k), h.invr ha, h.G.onel (h.pw hi k), ih]
/-- the entry at the first index -/
theorem pw_get (h : GT p s) {d : Nat} (hd : s ≤ d) (hn : d < p.n) (hr : p.r d = 2 ∨ p.r d = 3 ∨ p.r d = 5 ∨ p.r d = 7) {a : List Int} (ha : VI p s a) (hz : ∀ k, k < d → a.getD k 0 = 0) (t : Nat) :
    (∀ k, k < d → (pw (p.at s) p.zv a t).getD k 0 = 0) ∧ (pw (p.at s) p.zv a t).getD d 0 = ((t : Int) * a.getD d 0) % p.r d := by
  have had : VI p d a := ⟨ha.len, ha.lo, ha.hi, hz⟩
  have a0 := ha.lo d hn
  have a1 := ha.hi d hn
  induction t with
  | zero => exact ⟨fun k _ => zv_get p k, by show p.zv.getD d 0 = _; rw [zv_get]; simp⟩
  | succ t ih =>
    obtain ⟨i1, i2⟩ := ih
    have hb := h.pw ha t
    have hbd : VI p d (pw (p.at s) p.zv a t) := ⟨hb.len, hb.lo, hb.hi, i1⟩
    have e : pw (p.at s) p.zv a (t + 1) = p.at d (pw (p.at s) p.zv a t) a := by
      show p.at s _ _ = _
      exact at_subs h.vd d hd (by omega) _ _ hbd had
    have hc := (h.g d hd (by omega)).cl hbd had
    rw [e]
    refine ⟨hc.zero, ?_⟩
    rw [(at_get h.vd hn hbd had).1, i2]
    generalize a.getD d 0 = A at *
    have em : ((t + 1 : Nat) : Int) * A = (t : Int) * A + A := by rw [Int.natCast_add, Int.add_mul]; simp
    rw [em]
    generalize (t : Int) * A = T at *
    generalize p.r d = R at *
    rcases hr with rfl | rfl | rfl | rfl <;> split <;> omega
theorem dvd_prime {r A : Int} {t : Nat} (hr : r = 2 ∨ r = 3 ∨ r = 5 ∨ r = 7) (h0 : 0 ≤ A) (h1 : A < r) (hA : A ≠ 0) (h : ((t : Int) * A) % r = 0) : ∃ q : Nat, (t : Int) = r * q := by
  have key : (t : Int) % r = 0 := by
    have hA6 : A = 1 ∨ A = 2 ∨ A = 3 ∨ A = 4 ∨ A = 5 ∨ A = 6 := by omega
    rcases hr with rfl | rfl | rfl | rfl <;> rcases hA6 with rfl | rfl | rfl | rfl | rfl | rfl <;> omega
  refine ⟨((t : Int) / r).toNat, ?_⟩
  rcases hr with rfl | rfl | rfl | rfl <;> omega
/-- what the search for the period holds at each step: now = x^K; every period of x is a multiple of K -/
structure Per (p : Pres) (x : List Int) (d K : Nat) (now : List Int) : Prop where
  pos : 1 ≤ K
  bd : K ≤ 7 ^ d
  pow : now = pw (p.at 0) p.zv x K
  zero : ∀ k, k < d → now.getD k 0 = 0
  dvd : ∀ m : Nat, pw (p.at 0) p.zv x m = p.zv → ∃ t, m = K * t
  dv : ∃ c : Nat, prodO (p.orders.take d) = (K : Int) * c
theorem prodO_take_succ {p : Pres} {d : Nat} (hd : d < p.n) : prodO (p.orders.take (d + 1)) = prodO (p.orders.take d) * p.r d := by
  rw [take_snoc p.orders d 0 hd, prodO_snoc]; rfl
theorem Per.start (h : GT p 0) {x : List Int} (hx : VI p 0 x) : Per p x 0 1 x := ⟨by omega, by omega, (pw_one h.G hx).symm, fun k hk => by omega, fun m _ => ⟨m, (Nat.one_mul m).symm⟩, 1, by simp [prodO]⟩
theorem Per.skip {x now : List Int} {d K : Nat} (hV : Valid p) (hd : d < p.n) (h : Per p x d K now) (h0 : now.getD d 0 = 0) : Per p x (d + 1) K now :=
  ⟨h.pos, Nat.le_trans h.bd (Nat.pow_le_pow_right (by omega) (by omega)), h.pow, fun k hk => by
    by_cases hk' : k = d
    · subst hk'; exact h0
    · exact h.zero k (by omega), h.dvd, by
    obtain ⟨c, hc⟩ := h.dv
    have := hV.ord d hd
    refine ⟨c * (p.r d).toNat, ?_⟩
    rw [prodO_take_succ hd, hc, Int.natCast_mul, show (((p.r d).toNat : Nat) : Int) = p.r d by omega, Int.mul_assoc]⟩
theorem Per.step (h : GT p 0) {x now : List Int} {d K : Nat} (hx : VI p 0 x) (hp : Per p x d K now) (hn : d < p.n) (hr : p.r d = 2 ∨ p.r d = 3 ∨ p.r d = 5 ∨ p.r d = 7) (h0 : now.getD d 0 ≠ 0) :
    Per p x (d + 1) (K * (p.r d).toNat) (pw (p.at 0) p.zv now (p.r d).toNat) := by
  have hnow : VI p 0 now := by rw [hp.pow]; exact h.pw hx K
  have hg := pw_get h (Nat.zero_le d) hn hr hnow hp.zero
  have hrn : (((p.r d).toNat : Nat) : Int) = p.r d := by omega
  refine ⟨Nat.mul_pos hp.pos (by omega), ?_, ?_, fun k hk => ?_, fun m hm => ?_, ?_⟩
  · rw [Nat.pow_succ]; exact Nat.mul_le_mul hp.bd (by omega)
  · rw [hp.pow, pwm_mul h hx]
  · by_cases hk' : k = d
    · subst hk'; rw [(hg _).2, hrn, Int.mul_emod_right]
    · exact (hg _).1 k (by omega)
  · obtain ⟨t, rfl⟩ := hp.dvd m hm
    have h1 : pw (p.at 0) p.zv now t = p.zv := by rw [hp.pow, pwm_mul h hx, hm]
    have h2 := (hg t).2
    rw [h1, zv_get] at h2
    obtain ⟨q, hq⟩ := dvd_prime hr (hnow.lo d hn) (hnow.hi d hn) h0 h2.symm
    refine ⟨q, ?_⟩
    rw [Nat.mul_assoc]
    congr 1
    have : (t : Int) = (((p.r d).toNat * q : Nat) : Int) := by rw [hq, Int.natCast_mul, hrn]
    omega
  · obtain ⟨c, hc⟩ := hp.dv
    refine ⟨c, ?_⟩
    rw [prodO_take_succ hn, hc, Int.natCast_mul, hrn, Int.mul_assoc, Int.mul_assoc, Int.mul_comm (c : Int)]
theorem Per.dvn (hV : Valid p) {x now : List Int} {d K : Nat} (hd : d ≤ p.n) (hz : ∀ k, k < p.n → now.getD k 0 = 0) (hp : Per p x d K now) : ∃ c : Nat, prodO p.orders = (K : Int) * c := by
  obtain ⟨e, he⟩ : ∃ e, p.n = d + e := ⟨p.n - d, by omega⟩
  induction e generalizing d with
  | zero =>
    obtain rfl : d = p.n := by omega
    have := hp.dv
    rwa [show p.orders.take p.n = p.orders from List.take_length] at this
  | succ e ih => exact ih (by omega) (hp.skip hV (by omega) (hz d (by omega))) (by omega)
theorem Per.stop {x now : List Int} {d K : Nat} (hp : Per p x d K now) (hz : now = p.zv) : pw (p.at 0) p.zv x K = p.zv ∧ ∀ m : Nat, 1 ≤ m → pw (p.at 0) p.zv x m = p.zv → K ≤ m := by
  refine ⟨by rw [← hp.pow, hz], fun m hm h => ?_⟩
  obtain ⟨t, rfl⟩ := hp.dvd m h
  have : 1 ≤ t := by
    rcases Nat.eq_zero_or_pos t with rfl | h
    · omega
    · exact h
  exact Nat.le_mul_of_pos_right K this
end

open Classical in
/-- the order of an element: the least positive period -/
noncomputable def ordE (p : Pres) (x : List Int) : Nat := if h : ∃ K, 1 ≤ K ∧ pw (p.at 0) p.zv x K = p.zv ∧ ∀ m : Nat, 1 ≤ m → pw (p.at 0) p.zv x m = p.zv → K ≤ m then Classical.choose h else 1
theorem ordE_eq {p : Pres} {x : List Int} {K : Nat} (h1 : 1 ≤ K) (h2 : pw (p.at 0) p.zv x K = p.zv) (h3 : ∀ m : Nat, 1 ≤ m → pw (p.at 0) p.zv x m = p.zv → K ≤ m) : ordE p x = K := by
  have hex : ∃ K, 1 ≤ K ∧ pw (p.at 0) p.zv x K = p.zv ∧ ∀ m : Nat, 1 ≤ m → pw (p.at 0) p.zv x m = p.zv → K ≤ m := ⟨K, h1, h2, h3⟩
  unfold ordE
  rw [dif_pos hex]
  obtain ⟨c1, c2, c3⟩ := Classical.choose_spec hex
  have := c3 K h1 h2
  have := h3 _ c1 c2
  omega
theorem per_all {p : Pres} (h : GT p 0) (hr : ∀ k, k < p.n → p.r k = 2 ∨ p.r k = 3 ∨ p.r k = 5 ∨ p.r k = 7) {x : List Int} (hx : VI p 0 x) (d : Nat) (hd : d ≤ p.n) : ∃ K now, Per p x d K now := by
  induction d with
  | zero => exact ⟨1, x, Per.start h hx⟩
  | succ d ih =>
    obtain ⟨K, now, hp⟩ := ih (by omega)
    by_cases h0 : now.getD d 0 = 0
    · exact ⟨K, now, hp.skip h.vd (by omega) h0⟩
    · exact ⟨_, _, hp.step h hx (by omega) (hr d (by omega)) h0⟩
theorem ordE_spec {p : Pres} (h : GT p 0) (hr : ∀ k, k < p.n → p.r k = 2 ∨ p.r k = 3 ∨ p.r k = 5 ∨ p.r k = 7) {x : List Int} (hx : VI p 0 x) :
    1 ≤ ordE p x ∧ (∃ c : Nat, prodO p.orders = (ordE p x : Int) * c) ∧ pw (p.at 0) p.zv x (ordE p x) = p.zv ∧ ∀ m : Nat, 1 ≤ m → pw (p.at 0) p.zv x m = p.zv → ordE p x ≤ m := by
  obtain ⟨K, now, hp⟩ := per_all h hr hx p.n (Nat.le_refl _)
  have hnow : VI p 0 now := by rw [hp.pow]; exact pw_closed h.G hx K
  have hz : now = p.zv := VI.top ⟨hnow.len, hnow.lo, hnow.hi, hp.zero⟩
  obtain ⟨s1, s2⟩ := hp.stop hz
  have e := ordE_eq hp.pos s1 s2
  rw [e]
  refine ⟨hp.pos, ?_, s1, s2⟩
  have := hp.dv
  rwa [show p.orders.take p.n = p.orders from List.take_length] at this
/-- any power -/
noncomputable def zpw (p : Pres) (x : List Int) (k : Int) : List Int := if k < 0 then pw (p.at 0) p.zv (p.inv 0 x) (-k).toNat else pw (p.at 0) p.zv x k.toNat
/-- the program's way to a power -/
theorem zpw_mod {p : Pres} (h : GT p 0) {x : List Int} (hx : VI p 0 x) {m : Nat} (hm1 : 1 ≤ m) (hm : pw (p.at 0) p.zv x m = p.zv) (k : Int) {q : Nat} (hq : (q : Int) = (k.tmod m + m) % m) : pw (p.at 0) p.zv x q = zpw p x k := by
  unfold zpw
  by_cases hk : k < 0
  · rw [if_pos hk, pwm_inv h hx]
    refine h.inv_eq (h.pw hx _) (h.pw hx _) ?_
    rw [pw_add' h hx]
    have hdiv : ((-k).toNat + q) % m = 0 := by
      have e1 : (((-k).toNat + q : Nat) : Int) % m = 0 := by
        rw [Int.natCast_add, hq, show (((-k).toNat : Nat) : Int) = -k by omega]
        have e2 : k.tmod m = -((-k) % m) := by
          have : k = -(-k) := by omega
          conv => lhs; rw [this]
          rw [Int.neg_tmod, Int.tmod_eq_emod_of_nonneg (by omega)]
        rw [e2, Int.add_emod_right]
        generalize -k = u
        rw [Int.add_emod, Int.emod_emod_of_dvd _ (Int.dvd_refl _), ← Int.add_emod]
        have h3 := Int.mul_ediv_add_emod u m
        have h4 : u + -(u % m) = m * (u / m) := by omega
        rw [h4, Int.mul_emod_right]
      omega
    rw [← pwm_mod h hx hm, hdiv]; rfl
  · rw [if_neg hk]
    have : q = k.toNat % m := by
      have e2 : k.tmod m = k % m := Int.tmod_eq_emod_of_nonneg (by omega)
      rw [e2, Int.add_emod_right, Int.emod_emod_of_dvd _ (Int.dvd_refl _)] at hq
      have : ((k.toNat % m : Nat) : Int) = k % m := by rw [Int.natCast_emod]; congr 1; omega
      omega
    rw [this, pwm_mod h hx hm]

/-- the inverse of a product -/
theorem inv_mul {p : Pres} {s : Nat} (h : GT p s) {a b : List Int} (ha : VI p s a) (hb : VI p s b) : p.inv s (p.at s a b) = p.at s (p.inv s b) (p.inv s a) := by
  have ia := h.inv ha
  have ib := h.inv hb
  refine (h.inv_eq (h.at ha hb) (h.at ib ia) ?_).symm
  rw [h.G.assoc ha hb (h.at ib ia), ← h.G.assoc hb ib ia, h.invr hb, h.G.onel ia, h.invr ha]
/-- the commutator, both ways -/
theorem comm_eq {p : Pres} (h : GT p 0) {x y : List Int} (hx : VI p 0 x) (hy : VI p 0 y) :
    p.at 0 (p.inv 0 x) (p.at 0 (p.inv 0 y) (p.at 0 x y)) = p.at 0 (p.inv 0 (p.at 0 y x)) (p.at 0 x y) := by
  rw [inv_mul h hy hx, h.G.assoc (h.inv hx) (h.inv hy) (h.at hx hy)]
/-- elements by number: after t places from the end -/
def atS (p : Pres) (m : Int) : Nat → List Int × Int
  | 0 => (p.zv, m)
  | t + 1 => ((atS p m t).1.set (p.n - 1 - t) ((atS p m t).2 % p.r (p.n - 1 - t)), (atS p m t).2 / p.r (p.n - 1 - t))
def atF (p : Pres) (m : Int) : List Int := (atS p m p.n).1
theorem atS_len (p : Pres) (m : Int) (t : Nat) : (atS p m t).1.length = p.n := by
  induction t with
  | zero => exact p.zv_len
  | succ t ih => show (List.set _ _ _).length = _; rw [List.length_set, ih]
theorem atS_bd {p : Pres} (hr : ∀ k, k < p.n → 2 ≤ p.r k ∧ p.r k ≤ 7) {m : Int} (hm : 0 ≤ m) (t : Nat) (ht : t ≤ p.n) : 0 ≤ (atS p m t).2 ∧ (atS p m t).2 ≤ m := by
  induction t with
  | zero => exact ⟨hm, Int.le_refl _⟩
  | succ t ih =>
    obtain ⟨h1, h2⟩ := ih (by omega)
    have r1 := hr (p.n - 1 - t) (by omega)
    show 0 ≤ (atS p m t).2 / p.r (p.n - 1 - t) ∧ (atS p m t).2 / p.r (p.n - 1 - t) ≤ m
    exact ⟨Int.ediv_nonneg h1 (by omega), Int.le_trans (Int.ediv_le_self _ h1) h2⟩
theorem atS_VI {p : Pres} (hp : Valid p) (m : Int) (t : Nat) (ht : t ≤ p.n) : VI p 0 (atS p m t).1 := by
  induction t with
  | zero => exact VI.zv hp 0
  | succ t ih =>
    have r1 := hp.ord (p.n - 1 - t) (by omega)
    exact (ih (by omega)).put (Nat.zero_le _) (Int.emod_nonneg _ (by omega)) (Int.emod_lt_of_pos _ (by omega))
theorem atF_VI {p : Pres} (hp : Valid p) (m : Int) : VI p 0 (atF p m) := atS_VI hp m p.n (Nat.le_refl _)

/-! ### numbers -/
def numTo (p : Pres) (x : List Int) : Nat → Int
  | 0 => 0
  | j + 1 => numTo p x j * p.r j + x.getD j 0
theorem numTo_bd {p : Pres} {x : List Int} (hx : VI p 0 x) (hr : ∀ k, k < p.n → 2 ≤ p.r k ∧ p.r k ≤ 7) (j : Nat) (hj : j ≤ p.n) : 0 ≤ numTo p x j ∧ numTo p x j < 8 ^ j := by
  induction j with
  | zero => simp [numTo]
  | succ j ih =>
    obtain ⟨h1, h2⟩ := ih (by omega)
    have x0 := hx.lo j (by omega)
    have x1 := hx.hi j (by omega)
    have r1 := hr j (by omega)
    unfold numTo
    have a1 : 0 ≤ numTo p x j * p.r j := Int.mul_nonneg h1 (by omega)
    have a2 : numTo p x j * p.r j ≤ numTo p x j * 7 := Int.mul_le_mul_of_nonneg_left r1.2 h1
    have e : (8 : Int) ^ (j + 1) = 8 ^ j * 8 := Int.pow_succ ..
    rw [e]
    generalize (8 : Int) ^ j = B at *
    omega
theorem numTo_le {p : Pres} {x : List Int} (hx : VI p 0 x) (hr : ∀ k, k < p.n → 2 ≤ p.r k ∧ p.r k ≤ 7) (hn : p.n ≤ 6) (j : Nat) (hj : j ≤ p.n) : 0 ≤ numTo p x j ∧ numTo p x j ≤ 262144 := by
  obtain ⟨h1, h2⟩ := numTo_bd hx hr j hj
  have : (8 : Int) ^ j ≤ 8 ^ 6 := by
    have h6 : j ≤ 6 := by omega
    have := Nat.pow_le_pow_right (n := 8) (by omega) h6
    exact_mod_cast this
  have e6 : (8 : Int) ^ 6 = 262144 := by decide
  omega
--== end
end Go.Proofs.Ythnpndheaailjaa
