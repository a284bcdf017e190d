/-
  Periods of elements, numbers of elements: no program in sight.
-/
import Derived.Test.YtjnnjnhmecidmaaFlt
namespace Go.Proofs.Ytjnnjnhmecidmaa
set_option linter.unusedVariables false
set_option linter.unusedSimpArgs false
set_option maxRecDepth 100000

section
variable {p : Pres} {s : Nat}
theorem pwm_mul (h : GT p s) {a : List Int} (ha : VI p s a) (k l : Nat) : pw (p.at s) p.zv (pw (p.at s) p.zv a k) l = pw (p.at s) p.zv a (k * l) := by
  induction l with
  | zero => rfl
  | succ l ih =>
    show p.at s (pw (p.at s) p.zv (pw (p.at s) p.zv a k) l) (pw (p.at s) p.zv a k) = _
    rw [ih, pw_add' h ha, Nat.mul_succ]
theorem pwm_zv (h : GT p s) (k : Nat) : pw (p.at s) p.zv p.zv k = p.zv := by
  induction k with
  | zero => rfl
  | succ k ih => show p.at s _ p.zv = _; rw [ih, h.G.onel h.G.one]
/-- a period divides out -/
theorem pwm_mod (h : GT p s) {a : List Int} (ha : VI p s a) {m : Nat} (hm : pw (p.at s) p.zv a m = p.zv) (k : Nat) : pw (p.at s) p.zv a (k % m) = pw (p.at s) p.zv a k := by
  have e := Nat.div_add_mod k m
  conv => rhs; rw [← e]
  rw [← pw_add' h ha, ← pwm_mul h ha, hm, pwm_zv h _, h.G.onel (h.pw ha _)]
theorem pwm_inv (h : GT p s) {a : List Int} (ha : VI p s a) (k : Nat) : pw (p.at s) p.zv (p.inv s a) k = p.inv s (pw (p.at s) p.zv a k) := by
  have hi := h.inv ha
  refine h.inv_eq (h.pw ha k) (h.pw hi k) ?_
  induction k with
  | zero => exact h.G.onel h.G.one
  | succ k ih =>
    rw [pw_succ' h.G hi]
    show p.at s (p.at s (pw (p.at s) p.zv a k) a) _ = _
    rw [h.G.assoc (h.pw ha k) ha (h.at hi (h.pw hi k)), ← h.G.assoc ha hi (h.pw hi k), h.invr ha, h.G.onel (h.pw hi k), ih]
/-- the entry at the first index -/
theorem pw_get (h : GT p s) {d : Nat} (hd : s ≤ d) (hn : d < p.n) (hr : p.r d = 2 ∨ p.r d = 3 ∨ p.r d = 5 ∨ p.r d = 7) {a : List Int} (ha : VI p s a) (hz : ∀ k, k < d → a.getD k 0 = 0) (t : Nat) :
    (∀ k, k < d → (pw (p.at s) p.zv a t).getD k 0 = 0) ∧ (pw (p.at s) p.zv a t).getD d 0 = ((t : Int) * a.getD d 0) % p.r d := by
  have had : VI p d a := ⟨ha.len, ha.lo, ha.hi, hz⟩
  have a0 := ha.lo d hn
  have a1 := ha.hi d hn
  induction t with
  | zero => exact ⟨fun k _ => zv_get p k, by show p.zv.getD d 0 = _; rw [zv_get]; simp⟩
  | succ t ih =>
    obtain ⟨i1, i2⟩ := ih
    have hb := h.pw ha t
    have hbd : VI p d (pw (p.at s) p.zv a t) := ⟨hb.len, hb.lo, hb.hi, i1⟩
    have e : pw (p.at s) p.zv a (t + 1) = p.at d (pw (p.at s) p.zv a t) a := by
      show p.at s _ _ = _
      exact at_subs h.vd d hd (by omega) _ _ hbd had
    have hc := (h.g d hd (by omega)).cl hbd had
    rw [e]
    refine ⟨hc.zero, ?_⟩
    rw [(at_get h.vd hn hbd had).1, i2]
    generalize a.getD d 0 = A at *
    have em : ((t + 1 : Nat) : Int) * A = (t : Int) * A + A := by rw [Int.natCast_add, Int.add_mul]; simp
    rw [em]
    generalize (t : Int) * A = T at *
    generalize p.r d = R at *
    rcases hr with rfl | rfl | rfl | rfl <;> split <;> omega
theorem dvd_prime {r A : Int} {t : Nat} (hr : r = 2 ∨ r = 3 ∨ r = 5 ∨ r = 7) (h0 : 0 ≤ A) (h1 : A < r) (hA : A ≠ 0) (h : ((t : Int) * A) % r = 0) : ∃ q : Nat, (t : Int) = r * q := by
  have key : (t : Int) % r = 0 := by
    have hA6 : A = 1 ∨ A = 2 ∨ A = 3 ∨ A = 4 ∨ A = 5 ∨ A = 6 := by omega
    rcases hr with rfl | rfl | rfl | rfl <;> rcases hA6 with rfl | rfl | rfl | rfl | rfl | rfl <;> omega
  refine ⟨((t : Int) / r).toNat, ?_⟩
  rcases hr with rfl | rfl | rfl | rfl <;> omega
/-- what the search for the period holds at each step: now = x^K; every period of x is a multiple of K -/
structure Per (p : Pres) (x : List Int) (d K : Nat) (now : List Int) : Prop where
  pos : 1 ≤ K
  bd : K ≤ 7 ^ d
  pow : now = pw (p.at 0) p.zv x K
  zero : ∀ k, k < d → now.getD k 0 = 0
  dvd : ∀ m : Nat, pw (p.at 0) p.zv x m = p.zv → ∃ t, m = K * t
  dv : ∃ c : Nat, prodO (p.orders.take d) = (K : Int) * c
theorem prodO_take_succ {p : Pres} {d : Nat} (hd : d < p.n) : prodO (p.orders.take (d + 1)) = prodO (p.orders.take d) * p.r d := by
  rw [take_snoc p.orders d 0 hd, prodO_snoc]; rfl
theorem Per.start (h : GT p 0) {x : List Int} (hx : VI p 0 x) : Per p x 0 1 x := ⟨by omega, by omega, (pw_one h.G hx).symm, fun k hk => by omega, fun m _ => ⟨m, (Nat.one_mul m).symm⟩, 1, by simp [prodO]⟩
theorem Per.skip {x now : List Int} {d K : Nat} (hV : Valid p) (hd : d < p.n) (h : Per p x d K now) (h0 : now.getD d 0 = 0) : Per p x (d + 1) K now :=
  ⟨h.pos, Nat.le_trans h.bd (Nat.pow_le_pow_right (by omega) (by omega)), h.pow, fun k hk => by
    by_cases hk' : k = d
    · subst hk'; exact h0
    · exact h.zero k (by omega), h.dvd, by
    obtain ⟨c, hc⟩ := h.dv
    have := hV.ord d hd
    refine ⟨c * (p.r d).toNat, ?_⟩
    rw [prodO_take_succ hd, hc, Int.natCast_mul, show (((p.r d).toNat : Nat) : Int) = p.r d by omega, Int.mul_assoc]⟩
theorem Per.step (h : GT p 0) {x now : List Int} {d K : Nat} (hx : VI p 0 x) (hp : Per p x d K now) (hn : d < p.n) (hr : p.r d = 2 ∨ p.r d = 3 ∨ p.r d = 5 ∨ p.r d = 7) (h0 : now.getD d 0 ≠ 0) :
    Per p x (d + 1) (K * (p.r d).toNat) (pw (p.at 0) p.zv now (p.r d).toNat) := by
  have hnow : VI p 0 now := by rw [hp.pow]; exact h.pw hx K
  have hg := pw_get h (Nat.zero_le d) hn hr hnow hp.zero
  have hrn : (((p.r d).toNat : Nat) : Int) = p.r d := by omega
  refine ⟨Nat.mul_pos hp.pos (by omega), ?_, ?_, fun k hk => ?_, fun m hm => ?_, ?_⟩
  · rw [Nat.pow_succ]; exact Nat.mul_le_mul hp.bd (by omega)
  · rw [hp.pow, pwm_mul h hx]
  · by_cases hk' : k = d
    · subst hk'; rw [(hg _).2, hrn, Int.mul_emod_right]
    · exact (hg _).1 k (by omega)
  · obtain ⟨t, rfl⟩ := hp.dvd m hm
    have h1 : pw (p.at 0) p.zv now t = p.zv := by rw [hp.pow, pwm_mul h hx, hm]
    have h2 := (hg t).2
    rw [h1, zv_get] at h2
    obtain ⟨q, hq⟩ := dvd_prime hr (hnow.lo d hn) (hnow.hi d hn) h0 h2.symm
    refine ⟨q, ?_⟩
    rw [Nat.mul_assoc]
    congr 1
    have : (t : Int) = (((p.r d).toNat * q : Nat) : Int) := by rw [hq, Int.natCast_mul, hrn]
    omega
  · obtain ⟨c, hc⟩ := hp.dv
    refine ⟨c, ?_⟩
    rw [prodO_take_succ hn, hc, Int.natCast_mul, hrn, Int.mul_assoc, Int.mul_assoc, Int.mul_comm (c : Int)]
theorem Per.dvn (hV : Valid p) {x now : List Int} {d K : Nat} (hd : d ≤ p.n) (hz : ∀ k, k < p.n → now.getD k 0 = 0) (hp : Per p x d K now) : ∃ c : Nat, prodO p.orders = (K : Int) * c := by
  obtain ⟨e, he⟩ : ∃ e, p.n = d + e := ⟨p.n - d, by omega⟩
  induction e generalizing d with
  | zero =>
    obtain rfl : d = p.n := by omega
    have := hp.dv
    rwa [show p.orders.take p.n = p.orders from List.take_length] at this
  | succ e ih => exact ih (by omega) (hp.skip hV (by omega) (hz d (by omega))) (by omega)
theorem Per.stop {x now : List Int} {d K : Nat} (hp : Per p x d K now) (hz : now = p.zv) : pw (p.at 0) p.zv x K = p.zv ∧ ∀ m : Nat, 1 ≤ m → pw (p.at 0) p.zv x m = p.zv → K ≤ m := by
  refine ⟨by rw [← hp.pow, hz], fun m hm h => ?_⟩
  obtain ⟨t, rfl⟩ := hp.dvd m h
  have : 1 ≤ t := by
    rcases Nat.eq_zero_or_pos t with rfl | h
    · omega
    · exact h
  exact Nat.le_mul_of_pos_right K this
end

open Classical in
/-- the order of an element: the least positive period -/
noncomputable def ordE (p : Pres) (x : List Int) : Nat := if h : ∃ K, 1 ≤ K ∧ pw (p.at 0) p.zv x K = p.zv ∧ ∀ m : Nat, 1 ≤ m → pw (p.at 0) p.zv x m = p.zv → K ≤ m then Classical.choose h else 1
theorem ordE_eq {p : Pres} {x : List Int} {K : Nat} (h1 : 1 ≤ K) (h2 : pw (p.at 0) p.zv x K = p.zv) (h3 : ∀ m : Nat, 1 ≤ m → pw (p.at 0) p.zv x m = p.zv → K ≤ m) : ordE p x = K := by
  have hex : ∃ K, 1 ≤ K ∧ pw (p.at 0) p.zv x K = p.zv ∧ ∀ m : Nat, 1 ≤ m → pw (p.at 0) p.zv x m = p.zv → K ≤ m := ⟨K, h1, h2, h3⟩
  unfold ordE
  rw [dif_pos hex]
  obtain ⟨c1, c2, c3⟩ := Classical.choose_spec hex
  have := c3 K h1 h2
  have := h3 _ c1 c2
  omega
theorem per_all {p : Pres} (h : GT p 0) (hr : ∀ k, k < p.n → p.r k = 2 ∨ p.r k = 3 ∨ p.r k = 5 ∨ p.r k = 7) {x : List Int} (hx : VI p 0 x) (d : Nat) (hd : d ≤ p.n) : ∃ K now, Per p x d K now := by
  induction d with
  | zero => exact ⟨1, x, Per.start h hx⟩
  | succ d ih =>
    obtain ⟨K, now, hp⟩ := ih (by omega)
    by_cases h0 : now.getD d 0 = 0
    · exact ⟨K, now, hp.skip h.vd (by omega) h0⟩
    · exact ⟨_, _, hp.step h hx (by omega) (hr d (by omega)) h0⟩
theorem ordE_spec {p : Pres} (h : GT p 0) (hr : ∀ k, k < p.n → p.r k = 2 ∨ p.r k = 3 ∨ p.r k = 5 ∨ p.r k = 7) {x : List Int} (hx : VI p 0 x) :
    1 ≤ ordE p x ∧ (∃ c : Nat, prodO p.orders = (ordE p x : Int) * c) ∧ pw (p.at 0) p.zv x (ordE p x) = p.zv ∧ ∀ m : Nat, 1 ≤ m → pw (p.at 0) p.zv x m = p.zv → ordE p x ≤ m := by
  obtain ⟨K, now, hp⟩ := per_all h hr hx p.n (Nat.le_refl _)
  have hnow : VI p 0 now := by rw [hp.pow]; exact pw_closed h.G hx K
  have hz : now = p.zv := VI.top ⟨hnow.len, hnow.lo, hnow.hi, hp.zero⟩
  obtain ⟨s1, s2⟩ := hp.stop hz
  have e := ordE_eq hp.pos s1 s2
  rw [e]
  refine ⟨hp.pos, ?_, s1, s2⟩
  have := hp.dv
  rwa [show p.orders.take p.n = p.orders from List.take_length] at this
/-- any power -/
noncomputable def zpw (p : Pres) (x : List Int) (k : Int) : List Int := if k < 0 then pw (p.at 0) p.zv (p.inv 0 x) (-k).toNat else pw (p.at 0) p.zv x k.toNat
/-- the program's way to a power -/
theorem zpw_mod {p : Pres} (h : GT p 0) {x : List Int} (hx : VI p 0 x) {m : Nat} (hm1 : 1 ≤ m) (hm : pw (p.at 0) p.zv x m = p.zv) (k : Int) {q : Nat} (hq : (q : Int) = (k.tmod m + m) % m) : pw (p.at 0) p.zv x q = zpw p x k := by
  unfold zpw
  by_cases hk : k < 0
  · rw [if_pos hk, pwm_inv h hx]
    refine h.inv_eq (h.pw hx _) (h.pw hx _) ?_
    rw [pw_add' h hx]
    have hdiv : ((-k).toNat + q) % m = 0 := by
      have e1 : (((-k).toNat + q : Nat) : Int) % m = 0 := by
        rw [Int.natCast_add, hq, show (((-k).toNat : Nat) : Int) = -k by omega]
        have e2 : k.tmod m = -((-k) % m) := by
          have : k = -(-k) := by omega
          conv => lhs; rw [this]
          rw [Int.neg_tmod, Int.tmod_eq_emod_of_nonneg (by omega)]
        rw [e2, Int.add_emod_right]
        generalize -k = u
        rw [Int.add_emod, Int.emod_emod_of_dvd _ (Int.dvd_refl _), ← Int.add_emod]
        have h3 := Int.mul_ediv_add_emod u m
        have h4 : u + -(u % m) = m * (u / m) := by omega
        rw [h4, Int.mul_emod_right]
      omega
    rw [← pwm_mod h hx hm, hdiv]; rfl
  · rw [if_neg hk]
    have : q = k.toNat % m := by
      have e2 : k.tmod m = k % m := Int.tmod_eq_emod_of_nonneg (by omega)
      rw [e2, Int.add_emod_right, Int.emod_emod_of_dvd _ (Int.dvd_refl _)] at hq
      have : ((k.toNat % m : Nat) : Int) = k % m := by rw [Int.natCast_emod]; congr 1; omega
      omega
    rw [this, pwm_mod h hx hm]

/-- the inverse of a product -/
theorem inv_mul {p : Pres} {s : Nat} (h : GT p s) {a b : List Int} (ha : VI p s a) (hb : VI p s b) : p.inv s (p.at s a b) = p.at s (p.inv s b) (p.inv s a) := by
  have ia := h.inv ha
  have ib := h.inv hb
  refine (h.inv_eq (h.at ha hb) (h.at ib ia) ?_).symm
  rw [h.G.assoc ha hb (h.at ib ia), ← h.G.assoc hb ib ia, h.invr hb, h.G.onel ia, h.invr ha]
/-- the commutator, both ways -/
theorem comm_eq {p : Pres} (h : GT p 0) {x y : List Int} (hx : VI p 0 x) (hy : VI p 0 y) :
    p.at 0 (p.inv 0 x) (p.at 0 (p.inv 0 y) (p.at 0 x y)) = p.at 0 (p.inv 0 (p.at 0 y x)) (p.at 0 x y) := by
  rw [inv_mul h hy hx, h.G.assoc (h.inv hx) (h.inv hy) (h.at hx hy)]
/-- elements by number: after t places from the end -/
def atS (p : Pres) (m : Int) : Nat → List Int × Int
  | 0 => (p.zv, m)
  | t + 1 => ((atS p m t).1.set (p.n - 1 - t) ((atS p m t).2 % p.r (p.n - 1 - t)), (atS p m t).2 / p.r (p.n - 1 - t))
def atF (p : Pres) (m : Int) : List Int := (atS p m p.n).1
theorem atS_len (p : Pres) (m : Int) (t : Nat) : (atS p m t).1.length = p.n := by
  induction t with
  | zero => exact p.zv_len
  | succ t ih => show (List.set _ _ _).length = _; rw [List.length_set, ih]
theorem atS_bd {p : Pres} (hr : ∀ k, k < p.n → 2 ≤ p.r k ∧ p.r k ≤ 7) {m : Int} (hm : 0 ≤ m) (t : Nat) (ht : t ≤ p.n) : 0 ≤ (atS p m t).2 ∧ (atS p m t).2 ≤ m := by
  induction t with
  | zero => exact ⟨hm, Int.le_refl _⟩
  | succ t ih =>
    obtain ⟨h1, h2⟩ := ih (by omega)
    have r1 := hr (p.n - 1 - t) (by omega)
    show 0 ≤ (atS p m t).2 / p.r (p.n - 1 - t) ∧ (atS p m t).2 / p.r (p.n - 1 - t) ≤ m
    exact ⟨Int.ediv_nonneg h1 (by omega), Int.le_trans (Int.ediv_le_self _ h1) h2⟩
theorem atS_VI {p : Pres} (hp : Valid p) (m : Int) (t : Nat) (ht : t ≤ p.n) : VI p 0 (atS p m t).1 := by
  induction t with
  | zero => exact VI.zv hp 0
  | succ t ih =>
    have r1 := hp.ord (p.n - 1 - t) (by omega)
    exact (ih (by omega)).put (Nat.zero_le _) (Int.emod_nonneg _ (by omega)) (Int.emod_lt_of_pos _ (by omega))
theorem atF_VI {p : Pres} (hp : Valid p) (m : Int) : VI p 0 (atF p m) := atS_VI hp m p.n (Nat.le_refl _)

/-! ### numbers -/
def numTo (p : Pres) (x : List Int) : Nat → Int
  | 0 => 0
  | j + 1 => numTo p x j * p.r j + x.getD j 0
theorem numTo_bd {p : Pres} {x : List Int} (hx : VI p 0 x) (hr : ∀ k, k < p.n → 2 ≤ p.r k ∧ p.r k ≤ 7) (j : Nat) (hj : j ≤ p.n) : 0 ≤ numTo p x j ∧ numTo p x j < 8 ^ j := by
  induction j with
  | zero => simp [numTo]
  | succ j ih =>
    obtain ⟨h1, h2⟩ := ih (by omega)
    have x0 := hx.lo j (by omega)
    have x1 := hx.hi j (by omega)
    have r1 := hr j (by omega)
    unfold numTo
    have a1 : 0 ≤ numTo p x j * p.r j := Int.mul_nonneg h1 (by omega)
    have a2 : numTo p x j * p.r j ≤ numTo p x j * 7 := Int.mul_le_mul_of_nonneg_left r1.2 h1
    have e : (8 : Int) ^ (j + 1) = 8 ^ j * 8 := Int.pow_succ ..
    rw [e]
    generalize (8 : Int) ^ j = B at *
    omega
theorem numTo_le {p : Pres} {x : List Int} (hx : VI p 0 x) (hr : ∀ k, k < p.n → 2 ≤ p.r k ∧ p.r k ≤ 7) (hn : p.n ≤ 6) (j : Nat) (hj : j ≤ p.n) : 0 ≤ numTo p x j ∧ numTo p x j ≤ 262144 := by
  obtain ⟨h1, h2⟩ := numTo_bd hx hr j hj
  have : (8 : Int) ^ j ≤ 8 ^ 6 := by
    have h6 : j ≤ 6 := by omega
    have := Nat.pow_le_pow_right (n := 8) (by omega) h6
    exact_mod_cast this
  have e6 : (8 : Int) ^ 6 = 262144 := by decide
  omega
end Go.Proofs.Ytjnnjnhmecidmaa
