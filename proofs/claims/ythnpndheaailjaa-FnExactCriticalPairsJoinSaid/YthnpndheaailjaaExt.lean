/-
  A tail that is consistent is a group: the cyclic extension, level by level.
-/
import Derived.Test.YthnpndheaailjaaPlain
namespace Go.Proofs.Ythnpndheaailjaa
set_option linter.unusedVariables false
set_option linter.unusedSimpArgs false
set_option maxRecDepth 100000

section
variable {p : Pres}
def Pres.G (p : Pres) (i : Nat) : Prop := Grp (VI p i) (p.at i) p.zv
/-- the four conditions of a level, as the reference tests them -/
structure LevelOK (p : Pres) (i : Nat) : Prop where
  c1 : ∀ j, i < j → j < p.n → pw (p.at (i + 1)) p.zv (p.C i j) (p.r j).toNat = p.img i (p.P j)
  c2 : ∀ j k, i < j → j < k → k < p.n → p.at (i + 1) (p.C i k) (p.C i j) = p.at (i + 1) (p.C i j) (p.img i (p.C j k))
  c3 : p.img i (p.P i) = p.P i
  c4 : ∀ j, i < j → j < p.n → p.at (i + 1) (p.P i) (itf (p.img i) (p.r i).toNat (p.uv j)) = p.at (i + 1) (p.uv j) (p.P i)

theorem img_eq_Fm (p : Pres) (i : Nat) (x : List Int) : p.img i x = Fm (p.at (i + 1)) p.zv (p.C i) x := rfl
theorem img_zv (p : Pres) (i : Nat) : p.img i p.zv = p.zv := Fm_zv _
theorem zv_set (p : Pres) (i : Nat) : p.zv.set i 0 = p.zv := by
  refine vext (by simp) fun j _ => ?_
  rw [vset]; split
  · exact (vrep _ _).symm
  · rfl
theorem zv_get (p : Pres) (i : Nat) : p.zv.getD i 0 = 0 := vrep _ _
theorem itf_zv (p : Pres) (i k : Nat) : itf (p.img i) k p.zv = p.zv := by
  induction k with
  | zero => rfl
  | succ k ih => rw [itf_succ, ih, img_zv]

/-- the product of vectors with zeros up to i, at i and behind it -/
theorem at_sub (hp : Valid p) {i : Nat} (hi : i < p.n) {x y : List Int} (hx : VI p (i + 1) x) (hy : VI p (i + 1) y) : p.at i x y = p.at (i + 1) x y := by
  have hx0 := hx.zero i (by omega); have hy0 := hy.zero i (by omega)
  rw [at_lo hi (by rw [hx0, hy0]; have := hp.ord i hi; omega)]
  unfold Pres.mid
  rw [hx0, hy0, hx.same, hy.same]
  show (p.at (i + 1) x y).set i 0 = _
  exact (VI.at hp _ hi _ _ hx hy).same
theorem at_subs (hp : Valid p) {s : Nat} : ∀ t, s ≤ t → t ≤ p.n → ∀ x y, VI p t x → VI p t y → p.at s x y = p.at t x y := by
  intro t hst
  obtain ⟨d, rfl⟩ : ∃ d, t = s + d := ⟨t - s, by omega⟩
  clear hst
  induction d with
  | zero => intro _ x y _ _; rfl
  | succ d ih =>
    intro ht x y hx hy
    rw [ih (by omega) x y (hx.mono (by omega)) (hy.mono (by omega))]
    exact at_sub hp (by omega) hx hy

/-- powers of a generator -/
theorem pw_uv (hp : Valid p) {i : Nat} (hi : i < p.n) (hG : p.G (i + 1)) : ∀ k : Nat, (k : Int) < p.r i → pw (p.at i) p.zv (p.uv i) k = p.zv.set i k := by
  intro k
  induction k with
  | zero => intro _; exact (zv_set p i).symm
  | succ k ih =>
    intro hk
    have h1 : (p.zv.set i (k : Int)).getD i 0 = k := vset_self (by rw [p.zv_len]; exact hi)
    have h2 : (p.uv i).getD i 0 = 1 := vset_self (by rw [p.zv_len]; exact hi)
    have h3 : (p.uv i).set i 0 = p.zv := by unfold Pres.uv; rw [List.set_set, zv_set]
    show p.at i (pw (p.at i) p.zv (p.uv i) k) (p.uv i) = _
    rw [ih (by omega), at_lo hi (by rw [h1, h2]; omega)]
    unfold Pres.mid
    rw [h1, h2, h3, List.set_set, zv_set, itf_zv, hG.onel hG.one]
    rfl
/-- a vector is the product of its letters -/
theorem vec_pr (hp : Valid p) {s : Nat} (hG : ∀ t, s ≤ t → t ≤ p.n → p.G t) : ∀ t, t ≤ p.n → s ≤ t → ∀ x, VI p t x → Fm (p.at s) p.zv p.uv x = x := by
  have hu : ∀ j, s ≤ j → j < p.n → VI p s (p.uv j) := fun j h1 h2 => VI.uv hp h1 h2
  refine down p.n ?_ ?_
  · intro _ x hx; rw [hx.top, Fm_zv]
  · intro t ht ih hst x hx
    have hx' := hx.clear hp
    have x0 := hx.lo t ht; have x1 := hx.hi t ht
    rw [Fm_split (hG s (Nat.le_refl _) (by omega)) hp hu hst ht hx, ih (by omega) _ hx']
    have hpw : pw (p.at s) p.zv (p.uv t) (x.getD t 0).toNat = p.zv.set t (x.getD t 0) := by
      have h1 : ∀ k, pw (p.at s) p.zv (p.uv t) k = pw (p.at t) p.zv (p.uv t) k := by
        intro k
        induction k with
        | zero => rfl
        | succ k ih2 =>
          show p.at s _ _ = p.at t _ _
          rw [ih2]
          exact at_subs hp t hst (by omega) _ _ (pw_closed (hG t hst (by omega)) (VI.uv hp (Nat.le_refl _) ht) k) (VI.uv hp (Nat.le_refl _) ht)
      rw [h1, pw_uv hp ht (hG (t + 1) (by omega) ht) _ (by omega)]
      congr 1; omega
    have hzs : VI p t (p.zv.set t (x.getD t 0)) := (VI.zv hp (t + 1)).set x0 x1
    rw [hpw, at_subs hp t hst (by omega) _ _ hzs (hx'.mono (by omega))]
    have h1 : (p.zv.set t (x.getD t 0)).getD t 0 = x.getD t 0 := vset_self (by rw [p.zv_len]; exact ht)
    have h2 := hx'.zero t (by omega)
    rw [at_lo ht (by rw [h1, h2]; omega)]
    unfold Pres.mid
    rw [h1, h2, List.set_set, zv_set, hx'.same]
    show (p.at (t + 1) p.zv _).set t _ = _
    rw [(hG (t + 1) (by omega) ht).onel hx', Int.add_zero]
    exact VI.split

section
variable {i : Nat}
/-- conjugation by a generator keeps products -/
theorem img_hom (hp : Valid p) (hi : i < p.n) (hG : p.G (i + 1)) (hL : LevelOK p i) {x y : List Int} (hx : VI p (i + 1) x) (hy : VI p (i + 1) y) :
    p.img i (p.at (i + 1) x y) = p.at (i + 1) (p.img i x) (p.img i y) :=
  vonDyck hG hp (s := i + 1) (f := p.C i) (fun j h1 h2 => hp.cj i j (by omega) h2) (fun j h1 h2 => hL.c1 j (by omega) h2) (fun j k h1 h2 h3 => hL.c2 j k (by omega) h2 h3) (i + 1) hi (Nat.le_refl _) x y hx hy
theorem iimg_hom (hp : Valid p) (hi : i < p.n) (hG : p.G (i + 1)) (hL : LevelOK p i) (k : Nat) {x y : List Int} (hx : VI p (i + 1) x) (hy : VI p (i + 1) y) :
    itf (p.img i) k (p.at (i + 1) x y) = p.at (i + 1) (itf (p.img i) k x) (itf (p.img i) k y) := by
  induction k with
  | zero => rfl
  | succ k ih => rw [itf_succ, ih, img_hom hp hi hG hL (hx.iimg hp hi k) (hy.iimg hp hi k)]; rfl
theorem iimg_fix (hL : LevelOK p i) (k : Nat) : itf (p.img i) k (p.P i) = p.P i := by
  induction k with
  | zero => rfl
  | succ k ih => rw [itf_succ, ih, hL.c3]
/-- the power with the order is conjugation by the power -/
theorem iimg_inner (hp : Valid p) (hi : i < p.n) (hG : ∀ t, i + 1 ≤ t → t ≤ p.n → p.G t) (hL : LevelOK p i) {x : List Int} (hx : VI p (i + 1) x) :
    p.at (i + 1) (p.P i) (itf (p.img i) (p.r i).toNat x) = p.at (i + 1) x (p.P i) := by
  have hG1 := hG (i + 1) (Nat.le_refl _) hi
  have hw := hp.pow i hi
  have hu : ∀ j, i + 1 ≤ j → j < p.n → VI p (i + 1) (p.uv j) := fun j h1 h2 => VI.uv hp h1 h2
  have key : ∀ l : List Nat, (∀ j ∈ l, i + 1 ≤ j ∧ j < p.n) → p.at (i + 1) (p.P i) (itf (p.img i) (p.r i).toNat (pr (p.at (i + 1)) p.zv p.uv l)) = p.at (i + 1) (pr (p.at (i + 1)) p.zv p.uv l) (p.P i) := by
    intro l
    induction l with
    | nil => intro _; rw [pr_nil, itf_zv, hG1.oner hw, hG1.onel hw]
    | cons j l ih =>
      intro hl
      have hj := hl j List.mem_cons_self
      have hl' : ∀ k ∈ l, i + 1 ≤ k ∧ k < p.n := fun k hk => hl k (List.mem_cons_of_mem _ hk)
      have s1 := hu j hj.1 hj.2
      have s2 : ∀ k ∈ l, VI p (i + 1) (p.uv k) := fun k hk => hu k (hl' k hk).1 (hl' k hk).2
      have s3 := pr_closed hG1 s2
      rw [pr_cons hG1 s1 s2, iimg_hom hp hi hG1 hL _ s1 s3, ← hG1.assoc hw (s1.iimg hp hi _) (s3.iimg hp hi _), hL.c4 j (by omega) hj.2, hG1.assoc s1 hw (s3.iimg hp hi _), ih hl', hG1.assoc s1 s3 hw]
  have hv := vec_pr hp hG (i + 1) hi (Nat.le_refl _) x hx
  have := key (lw x) fun j hj => hx.mem hj
  rw [show pr (p.at (i + 1)) p.zv p.uv (lw x) = x from hv] at this
  exact this
theorem iimg_inv (hp : Valid p) (hi : i < p.n) (hG : p.G (i + 1)) (hL : LevelOK p i) (k : Nat) {x y : List Int} (hx : VI p (i + 1) x) (hy : VI p (i + 1) y) (h : p.at (i + 1) x y = p.zv) :
    p.at (i + 1) (itf (p.img i) k x) (itf (p.img i) k y) = p.zv := by rw [← iimg_hom hp hi hG hL k hx hy, h, itf_zv]

theorem vec_eq {a b : List Int} (h : a.set i 0 = b.set i 0) (h2 : a.getD i 0 = b.getD i 0) : a = b := by
  rw [← VI.split (v := a) (i := i), ← VI.split (v := b) (i := i), h, h2]
/-- the parts of a product -/
theorem at_get (hp : Valid p) (hi : i < p.n) {a b : List Int} (ha : VI p i a) (hb : VI p i b) :
    (p.at i a b).getD i 0 = (if p.r i ≤ a.getD i 0 + b.getD i 0 then a.getD i 0 + b.getD i 0 - p.r i else a.getD i 0 + b.getD i 0) ∧
    (p.at i a b).set i 0 = (if p.r i ≤ a.getD i 0 + b.getD i 0 then p.at (i + 1) (p.P i) (p.mid i a b) else p.mid i a b) := by
  have hm := VI.mid hp hi ha hb
  by_cases hc : p.r i ≤ a.getD i 0 + b.getD i 0
  · have h1 := VI.at hp _ hi _ _ (hp.pow i hi) hm
    rw [at_hi hi hc, if_pos hc, if_pos hc, List.set_set, h1.same, vset_self (by rw [h1.len]; exact hi)]
    exact ⟨rfl, rfl⟩
  · rw [at_lo hi hc, if_neg hc, if_neg hc, List.set_set, hm.same, vset_self (by rw [hm.len]; exact hi)]
    exact ⟨rfl, rfl⟩

theorem G_assoc (hp : Valid p) (hi : i < p.n) (hG : ∀ t, i + 1 ≤ t → t ≤ p.n → p.G t) (hL : LevelOK p i) {a b c : List Int} (ha : VI p i a) (hb : VI p i b) (hc : VI p i c) :
    p.at i (p.at i a b) c = p.at i a (p.at i b c) := by
  have hG1 := hG (i + 1) (Nat.le_refl _) hi
  have hw := hp.pow i hi
  have hab := VI.at hp _ (Nat.le_of_lt hi) _ _ ha hb
  have hbc := VI.at hp _ (Nat.le_of_lt hi) _ _ hb hc
  obtain ⟨g1, k1⟩ := at_get hp hi ha hb
  obtain ⟨g2, k2⟩ := at_get hp hi hb hc
  obtain ⟨g3, k3⟩ := at_get hp hi hab hc
  obtain ⟨g4, k4⟩ := at_get hp hi ha hbc
  have a0 := ha.lo i hi; have a1 := ha.hi i hi
  have b0 := hb.lo i hi; have b1 := hb.hi i hi
  have c0 := hc.lo i hi; have c1 := hc.hi i hi
  have ha' := ha.clear hp; have hb' := hb.clear hp; have hc' := hc.clear hp
  -- names
  have em1 : p.mid i a b = p.at (i + 1) (itf (p.img i) (b.getD i 0).toNat (a.set i 0)) (b.set i 0) := rfl
  have em2 : p.mid i b c = p.at (i + 1) (itf (p.img i) (c.getD i 0).toNat (b.set i 0)) (c.set i 0) := rfl
  have em3 : p.mid i (p.at i a b) c = p.at (i + 1) (itf (p.img i) (c.getD i 0).toNat ((p.at i a b).set i 0)) (c.set i 0) := rfl
  have em4 : p.mid i a (p.at i b c) = p.at (i + 1) (itf (p.img i) ((p.at i b c).getD i 0).toNat (a.set i 0)) ((p.at i b c).set i 0) := rfl
  generalize hx : a.set i 0 = x at *
  generalize hy : b.set i 0 = y at *
  generalize hz : c.set i 0 = z at *
  generalize hA : a.getD i 0 = A at *
  generalize hB : b.getD i 0 = B at *
  generalize hC : c.getD i 0 = C at *
  have I := fun k {u : List Int} (hu : VI p (i + 1) u) => hu.iimg hp hi k
  have mm := fun {u v : List Int} (hu : VI p (i + 1) u) (hv : VI p (i + 1) v) => VI.at hp _ hi _ _ hu hv
  have as := fun {u v t : List Int} (hu : VI p (i + 1) u) (hv : VI p (i + 1) v) (ht : VI p (i + 1) t) => hG1.assoc hu hv ht
  have hom := fun k {u v : List Int} (hu : VI p (i + 1) u) (hv : VI p (i + 1) v) => iimg_hom hp hi hG1 hL k hu hv
  have fix := fun k => iimg_fix hL k
  have xB := I B.toNat ha'
  have yC := I C.toNat hb'
  have xBC := I C.toNat xB
  have eBC : itf (p.img i) C.toNat (itf (p.img i) B.toNat x) = itf (p.img i) (B + C).toNat x := by rw [← itf_add]; congr 1; omega
  have hm1 := VI.mid hp hi ha hb
  have hm2 := VI.mid hp hi hb hc
  have e1 : itf (p.img i) C.toNat (p.mid i a b) = p.at (i + 1) (itf (p.img i) (B + C).toNat x) (itf (p.img i) C.toNat y) := by rw [em1, hom _ xB hb', eBC]
  have xbc := I (B + C).toNat ha'
  -- X = φ^(B+C)(x), Y = φ^C(y)
  generalize hX : itf (p.img i) (B + C).toNat x = X at *
  generalize hY : itf (p.img i) C.toNat y = Y at *
  -- LHS' rest
  apply vec_eq (i := i)
  · rw [k3, k4, em3, em4, k1, k2, g1, g2]
    by_cases h1 : p.r i ≤ A + B
    · rw [if_pos h1, if_pos h1, hom _ hw hm1, fix, e1]
      by_cases h2 : p.r i ≤ B + C
      · -- φ^(B+C) = φ^r φ^(B+C-r)
        have hin : p.at (i + 1) (p.P i) X = p.at (i + 1) (itf (p.img i) (B + C - p.r i).toNat x) (p.P i) := by
          rw [← iimg_inner hp hi hG hL (I (B + C - p.r i).toNat ha'), ← itf_add, ← hX]
          congr 2; omega
        rw [if_pos h2, if_pos h2, em2]
        have xr := I (B + C - p.r i).toNat ha'
        have core : p.at (i + 1) (p.at (i + 1) (p.P i) (p.at (i + 1) X Y)) z = p.at (i + 1) (itf (p.img i) (B + C - p.r i).toNat x) (p.at (i + 1) (p.P i) (p.at (i + 1) Y z)) := by
          rw [← as hw xbc yC, hin, as (mm xr hw) yC hc', as xr hw (mm yC hc')]
        by_cases h3 : p.r i ≤ A + B - p.r i + C
        · rw [if_pos h3, if_pos (by omega), core]
        · rw [if_neg h3, if_neg (by omega), core]
      · have hxe : X = itf (p.img i) (B + C).toNat x := hX.symm
        rw [if_neg h2, if_neg h2, em2, hX]
        rw [if_neg (by omega), if_pos (by omega), as hw (mm xbc yC) hc', as xbc yC hc']
    · rw [if_neg h1, if_neg h1, e1]
      by_cases h2 : p.r i ≤ B + C
      · have hin : p.at (i + 1) (p.P i) X = p.at (i + 1) (itf (p.img i) (B + C - p.r i).toNat x) (p.P i) := by
          rw [← iimg_inner hp hi hG hL (I (B + C - p.r i).toNat ha'), ← itf_add, ← hX]
          congr 2; omega
        have xr := I (B + C - p.r i).toNat ha'
        rw [if_pos h2, if_pos h2, em2, if_pos (by omega), if_neg (by omega), as xbc yC hc', ← as hw xbc (mm yC hc'), hin, as xr hw (mm yC hc')]
      · rw [if_neg h2, if_neg h2, em2, hX, as xbc yC hc']
        have : A + B + C = A + (B + C) := by omega
        rw [this]
  · rw [g3, g4, g1, g2]
    repeat' split
    all_goals omega
theorem G_one_l (hp : Valid p) (hi : i < p.n) (hG : p.G (i + 1)) {b : List Int} (hb : VI p i b) : p.at i p.zv b = b := by
  have := hb.hi i hi
  rw [at_lo hi (by rw [zv_get]; omega)]
  unfold Pres.mid
  rw [zv_set, itf_zv, hG.onel (hb.clear hp), zv_get, Int.zero_add]
  exact VI.split
theorem G_one_r (hp : Valid p) (hi : i < p.n) (hG : p.G (i + 1)) {b : List Int} (hb : VI p i b) : p.at i b p.zv = b := by
  have := hb.hi i hi
  rw [at_lo hi (by rw [zv_get]; omega)]
  unfold Pres.mid
  rw [zv_set, zv_get]
  show (p.at (i + 1) (b.set i 0) p.zv).set i _ = _
  rw [hG.oner (hb.clear hp), Int.add_zero]
  exact VI.split
theorem G_inv_r (hp : Valid p) (hi : i < p.n) (hG : p.G (i + 1)) {a : List Int} (ha : VI p i a) : ∃ b, VI p i b ∧ p.at i a b = p.zv := by
  have ha' := ha.clear hp
  have a0 := ha.lo i hi; have a1 := ha.hi i hi; have hr := hp.ord i hi
  by_cases h : a.getD i 0 = 0
  · obtain ⟨y, hy, h1, _⟩ := hG.inv ha'
    refine ⟨y, hy.mono (by omega), ?_⟩
    have hy0 := hy.zero i (by omega)
    rw [at_lo hi (by omega)]
    unfold Pres.mid
    rw [hy0, hy.same, h]
    show (p.at (i + 1) (a.set i 0) y).set i 0 = _
    rw [h1, zv_set]
  · have hw := hp.pow i hi
    have hx := ha'.iimg hp hi (p.r i - a.getD i 0).toNat
    obtain ⟨y, hy, h1, _⟩ := hG.inv (VI.at hp _ hi _ _ hw hx)
    have e1 : (y.set i (p.r i - a.getD i 0)).getD i 0 = p.r i - a.getD i 0 := vset_self (by rw [hy.len]; exact hi)
    refine ⟨y.set i (p.r i - a.getD i 0), hy.set (by omega) (by omega), ?_⟩
    rw [at_hi hi (by rw [e1]; omega)]
    unfold Pres.mid
    rw [e1, List.set_set, hy.same, ← hG.assoc hw hx hy, h1, show a.getD i 0 + (p.r i - a.getD i 0) - p.r i = 0 by omega, zv_set]
theorem G_step (hp : Valid p) (hi : i < p.n) (hG : ∀ t, i + 1 ≤ t → t ≤ p.n → p.G t) (hL : LevelOK p i) : p.G i := by
  have hG1 := hG (i + 1) (Nat.le_refl _) hi
  refine ⟨fun ha hb => VI.at hp _ (Nat.le_of_lt hi) _ _ ha hb, VI.zv hp i, fun ha hb hc => G_assoc hp hi hG hL ha hb hc, fun ha => G_one_l hp hi hG1 ha, fun ha => G_one_r hp hi hG1 ha, fun {a} ha => ?_⟩
  obtain ⟨b, hb, h1⟩ := G_inv_r hp hi hG1 ha
  obtain ⟨c, hc, h2⟩ := G_inv_r hp hi hG1 hb
  have h3 : a = c := by
    have := G_assoc hp hi hG hL ha hb hc
    rwa [h1, h2, G_one_l hp hi hG1 hc, G_one_r hp hi hG1 ha, eq_comm] at this
  exact ⟨b, hb, h1, h3 ▸ h2⟩
end
theorem G_top (hp : Valid p) : p.G p.n :=
  ⟨fun ha hb => VI.at hp _ (Nat.le_refl _) _ _ ha hb, VI.zv hp _, fun _ _ _ => by rw [at_top p _ (Nat.le_refl _), at_top p _ (Nat.le_refl _)], fun ha => by rw [at_top p _ (Nat.le_refl _)]; exact ha.top.symm,
    fun ha => by rw [at_top p _ (Nat.le_refl _)]; exact ha.top.symm, fun _ => ⟨p.zv, VI.zv hp _, at_top p _ (Nat.le_refl _) _ _, at_top p _ (Nat.le_refl _) _ _⟩⟩
/-- the tails from s on are groups -/
theorem G_all (hp : Valid p) (s : Nat) (hL : ∀ i, s ≤ i → i < p.n → LevelOK p i) : ∀ t, s ≤ t → t ≤ p.n → p.G t := by
  have : ∀ i, i ≤ p.n → s ≤ i → ∀ t, i ≤ t → t ≤ p.n → p.G t := by
    refine down p.n ?_ ?_
    · intro _ t h1 h2
      obtain rfl : t = p.n := by omega
      exact G_top hp
    · intro i hi ih hs t h1 h2
      by_cases h : t = i
      · subst h; exact G_step hp hi (ih (by omega)) (hL t hs hi)
      · exact ih (by omega) t (by omega) h2
  intro t h1 h2
  exact this t h2 h1 t (Nat.le_refl _) h2
end
end Go.Proofs.Ythnpndheaailjaa
