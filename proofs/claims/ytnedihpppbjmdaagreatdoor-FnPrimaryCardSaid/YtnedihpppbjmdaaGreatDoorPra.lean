/-
  Plain numbers: primes, the part of a number at a prime, the prime factors that trial division finds.
-/
namespace Go.Proofs.YtnedihpppbjmdaaGreatDoor
set_option linter.unusedVariables false
set_option linter.unusedSimpArgs false
set_option maxRecDepth 100000

def Prm (p : Nat) : Prop := 2 ≤ p ∧ ∀ d, d ∣ p → d = 1 ∨ d = p
theorem Prm.cop {p n : Nat} (hp : Prm p) (h : ¬ p ∣ n) : Nat.Coprime p n := by
  rcases hp.2 _ (Nat.gcd_dvd_left p n) with e | e
  · exact e
  · exact absurd (e ▸ Nat.gcd_dvd_right p n) h
theorem Prm.mul {p a b : Nat} (hp : Prm p) (h : p ∣ a * b) : p ∣ a ∨ p ∣ b := by
  by_cases ha : p ∣ a
  · exact .inl ha
  · exact .inr ((hp.cop ha).dvd_of_dvd_mul_left h)
theorem Prm.pow {p q k : Nat} (hp : Prm p) (hq : Prm q) (h : p ∣ q ^ k) : p = q := by
  induction k with
  | zero => have := Nat.dvd_one.1 (by simpa using h); have := hp.1; omega
  | succ k ih =>
    rw [Nat.pow_succ] at h
    rcases hp.mul h with h | h
    · exact ih h
    · rcases hq.2 _ h with e | e
      · have := hp.1; omega
      · exact e
theorem Prm.ndvd1 {p : Nat} (hp : Prm p) : ¬ p ∣ 1 := fun h => by have := Nat.dvd_one.1 h; have := hp.1; omega
theorem prm2 : Prm 2 := by
  refine ⟨Nat.le_refl _, fun d hd => ?_⟩
  have := Nat.le_of_dvd (by omega) hd
  have : d ≠ 0 := fun e => by subst e; simp at hd
  omega
theorem prm_ex : ∀ n : Nat, 2 ≤ n → ∃ p, Prm p ∧ p ∣ n := by
  intro n
  induction n using Nat.strongRecOn with
  | ind n ih =>
    intro h
    by_cases hp : Prm n
    · exact ⟨n, hp, Nat.dvd_refl n⟩
    · have : ∃ d, d ∣ n ∧ d ≠ 1 ∧ d ≠ n := by
        apply Classical.byContradiction
        intro hc
        exact hp ⟨h, fun d hd => Classical.byContradiction fun hn => hc ⟨d, hd, fun e => hn (.inl e), fun e => hn (.inr e)⟩⟩
      obtain ⟨d, hd, h1, hn⟩ := this
      have hd0 : 0 < d := Nat.pos_of_dvd_of_pos hd (by omega)
      have hle := Nat.le_of_dvd (by omega) hd
      obtain ⟨p, hp, hpd⟩ := ih d (by omega) (by omega)
      exact ⟨p, hp, Nat.dvd_trans hpd hd⟩

/-- the greatest power of p that divides n -/
def pp (p : Nat) : Nat → Nat → Nat
  | 0, _ => 1
  | f + 1, n => if n % p = 0 then p * pp p f (n / p) else 1
def ppt (p n : Nat) : Nat := pp p n n
theorem pp_spec {p : Nat} (hp : 2 ≤ p) : ∀ f n, 1 ≤ n → n < 2 ^ f → ∃ e m, pp p f n = p ^ e ∧ n = p ^ e * m ∧ ¬ p ∣ m := by
  intro f
  induction f with
  | zero => intro n h1 h2; simp at h2; omega
  | succ f ih =>
    intro n h1 h2
    unfold pp
    split
    · next h =>
      have hm : p * (n / p) = n := by have := Nat.div_add_mod n p; omega
      have h3 : 1 ≤ n / p := by
        rcases Nat.eq_zero_or_pos (n / p) with h0 | h0
        · rw [h0] at hm; omega
        · exact h0
      have h4 : n / p < 2 ^ f := by
        have := Nat.mul_le_mul_right (n / p) hp
        rw [Nat.pow_succ] at h2
        omega
      obtain ⟨e, m, r1, r2, r3⟩ := ih _ h3 h4
      refine ⟨e + 1, m, by rw [r1, Nat.pow_succ, Nat.mul_comm], ?_, r3⟩
      rw [← hm, r2, Nat.pow_succ]
      rw [← r2, Nat.mul_assoc, Nat.mul_comm p m, ← Nat.mul_assoc, ← r2, Nat.mul_comm]
    · next h => exact ⟨0, n, by simp, by simp, fun hd => h (Nat.mod_eq_zero_of_dvd hd)⟩
theorem ppt_spec {p n : Nat} (hp : 2 ≤ p) (h1 : 1 ≤ n) : ∃ e m, ppt p n = p ^ e ∧ n = p ^ e * m ∧ ¬ p ∣ m := pp_spec hp n n h1 Nat.lt_two_pow_self
theorem pow_le_exp {p a b : Nat} (hp : 2 ≤ p) (h : p ^ a ≤ p ^ b) : a ≤ b := (Nat.pow_le_pow_iff_right (by omega)).1 h
theorem exp_uniq {p a b m m' : Nat} (hp : 2 ≤ p) (h : p ^ a * m = p ^ b * m') (hm : ¬ p ∣ m) (hb : ¬ p ∣ m') : a = b := by
  have key : ∀ a b m m' : Nat, p ^ a * m = p ^ b * m' → ¬ p ∣ m → a < b → False := by
    intro a b m m' h hm hlt
    obtain ⟨c, rfl⟩ : ∃ c, b = a + (c + 1) := ⟨b - a - 1, by omega⟩
    rw [Nat.pow_add, Nat.mul_assoc] at h
    have := Nat.eq_of_mul_eq_mul_left (Nat.pow_pos (by omega)) h
    exact hm ⟨p ^ c * m', by rw [this, Nat.pow_succ, Nat.mul_comm (p ^ c) p, Nat.mul_assoc]⟩
  rcases Nat.lt_trichotomy a b with h1 | h1 | h1
  · exact (key a b m m' h hm h1).elim
  · exact h1
  · exact (key b a m' m h.symm hb h1).elim
theorem ppt_of {p e m : Nat} (hp : 2 ≤ p) (hm : ¬ p ∣ m) : ppt p (p ^ e * m) = p ^ e := by
  have hm0 : 0 < m := Nat.pos_of_ne_zero fun h => hm (h ▸ Nat.dvd_zero p)
  obtain ⟨e', m', h1, h2, h3⟩ := ppt_spec (n := p ^ e * m) hp (Nat.mul_pos (Nat.pow_pos (by omega)) hm0)
  rw [h1, exp_uniq hp h2 hm h3]
theorem ppt_dvd {p n : Nat} (hp : 2 ≤ p) (h1 : 1 ≤ n) : ppt p n ∣ n := by
  obtain ⟨e, m, r1, r2, _⟩ := ppt_spec hp h1
  rw [r1]; exact ⟨m, r2⟩
theorem ppt_pos {p n : Nat} (hp : 2 ≤ p) (h1 : 1 ≤ n) : 1 ≤ ppt p n := Nat.pos_of_dvd_of_pos (ppt_dvd hp h1) h1
theorem pow_dvd_iff {p n k : Nat} (hp : 2 ≤ p) (h1 : 1 ≤ n) : p ^ k ∣ n ↔ p ^ k ≤ ppt p n := by
  obtain ⟨e, m, r1, r2, r3⟩ := ppt_spec hp h1
  rw [r1]
  constructor
  · intro h
    apply Nat.pow_le_pow_right (by omega)
    apply Classical.byContradiction
    intro hk
    have h2 : p ^ (e + 1) ∣ p ^ e * m := r2 ▸ Nat.dvd_trans (Nat.pow_dvd_pow p (by omega)) h
    rw [Nat.pow_succ] at h2
    exact r3 (Nat.dvd_of_mul_dvd_mul_left (Nat.pow_pos (by omega)) h2)
  · intro h
    rw [r2]
    exact Nat.dvd_trans (Nat.pow_dvd_pow p (pow_le_exp hp h)) ⟨m, rfl⟩
theorem ppt_mono {p n m : Nat} (hp : 2 ≤ p) (h1 : 1 ≤ n) (h2 : 1 ≤ m) (h : n ∣ m) : ppt p n ≤ ppt p m := by
  obtain ⟨e, k, r1, r2, _⟩ := ppt_spec hp h1
  rw [r1]
  exact (pow_dvd_iff hp h2).1 (Nat.dvd_trans ⟨k, r2⟩ h)
theorem ppt_le_dvd {p n m : Nat} (hp : 2 ≤ p) (h1 : 1 ≤ n) (h2 : 1 ≤ m) (h : ppt p n ≤ ppt p m) : ppt p n ∣ ppt p m := by
  obtain ⟨e, k, r1, _⟩ := ppt_spec hp h1
  obtain ⟨e', k', r1', _⟩ := ppt_spec hp h2
  rw [r1, r1'] at h ⊢
  exact Nat.pow_dvd_pow p (pow_le_exp hp h)
theorem ppt_one_iff {p n : Nat} (hp : 2 ≤ p) (h1 : 1 ≤ n) : ppt p n = 1 ↔ ¬ p ∣ n := by
  obtain ⟨e, k, r1, r2, r3⟩ := ppt_spec hp h1
  rw [r1]
  constructor
  · intro h
    have : e = 0 := by
      rcases Nat.eq_zero_or_pos e with h0 | h0
      · exact h0
      · have := Nat.pow_le_pow_right (n := p) (by omega) h0; simp at this; omega
    subst this
    simpa [r2] using r3
  · intro h
    cases e with
    | zero => rfl
    | succ e => exact (h ⟨p ^ e * k, by rw [r2, Nat.pow_succ, Nat.mul_comm (p ^ e) p, Nat.mul_assoc]⟩).elim
/-- what every part of n divides is divided by n -/
theorem dvd_of_parts : ∀ (n m : Nat), 1 ≤ n → (∀ p, Prm p → ppt p n ∣ m) → n ∣ m := by
  intro n
  induction n using Nat.strongRecOn with
  | ind n ih =>
    intro m h1 h
    by_cases hn : n = 1
    · subst hn; exact Nat.one_dvd m
    · obtain ⟨p, hp, hpn⟩ := prm_ex n (by omega)
      obtain ⟨e, k, r1, r2, r3⟩ := ppt_spec hp.1 h1
      have hk0 : 1 ≤ k := Nat.pos_of_ne_zero fun e => r3 (e ▸ Nat.dvd_zero p)
      have he : e ≠ 0 := fun e0 => by subst e0; simp at r2; exact r3 (r2 ▸ hpn)
      have hpe : 2 ≤ p ^ e := by
        have := Nat.pow_le_pow_right (n := p) (by have := hp.1; omega) (show 1 ≤ e by omega)
        have := hp.1
        simp at *; omega
      have hlt : k < n := by
        have := Nat.mul_le_mul_right k hpe
        omega
      have hkm : k ∣ m := ih k hlt m hk0 fun q hq => by
        have hkn : k ∣ n := ⟨p ^ e, by rw [r2, Nat.mul_comm]⟩
        exact Nat.dvd_trans (ppt_le_dvd hq.1 hk0 h1 (ppt_mono hq.1 hk0 h1 hkn)) (h q hq)
      rw [r2]
      exact ((hp.cop r3).pow_left e).mul_dvd_of_dvd_of_dvd (r1 ▸ h p hp) hkm

/-! ### trial division -/
def dv : Nat → Nat → Nat → Nat → Nat × Nat
  | 0, n, _, c => (n, c)
  | f + 1, n, d, c => if n % d = 0 then dv f (n / d) d (c + 1) else (n, c)
def dnext (n d : Nat) : Nat := if n < d * d then n else d
theorem div_pos' {n d : Nat} (hn : 1 ≤ n) (h : n % d = 0) : 1 ≤ n / d := by
  rcases Nat.eq_zero_or_pos (n / d) with h0 | h0
  · have := Nat.div_add_mod n d; rw [h0, h, Nat.mul_zero] at this; omega
  · exact h0
theorem div_half {n d : Nat} (hd : 2 ≤ d) : n / d ≤ n / 2 := Nat.div_le_div_left hd (by omega)
theorem dv_spec {d : Nat} (hd : 2 ≤ d) : ∀ f n c, 1 ≤ n → n < 2 ^ f → ∃ e m, dv f n d c = (m, c + e) ∧ n = d ^ e * m ∧ ¬ d ∣ m := by
  intro f
  induction f with
  | zero => intro n c h1 h2; simp at h2; omega
  | succ f ih =>
    intro n c h1 h2
    unfold dv
    split
    · next h =>
      have h4 : n / d < 2 ^ f := by
        have := div_half (n := n) hd
        rw [Nat.pow_succ] at h2
        omega
      obtain ⟨e, m, r1, r2, r3⟩ := ih (n / d) (c + 1) (div_pos' h1 h) h4
      have hm : d * (n / d) = n := by have := Nat.div_add_mod n d; omega
      refine ⟨e + 1, m, by rw [r1]; simp; omega, ?_, r3⟩
      calc n = d * (n / d) := hm.symm
        _ = d * (d ^ e * m) := by rw [← r2]
        _ = d ^ (e + 1) * m := by rw [Nat.pow_succ, Nat.mul_comm (d ^ e) d, Nat.mul_assoc]
    · next h => exact ⟨0, n, rfl, by simp, fun hh => h (Nat.mod_eq_zero_of_dvd hh)⟩
theorem dv_self' (n : Nat) (h : 2 ≤ n) : dv 20 n n 0 = (1, 1) := by
  rw [dv, if_pos (Nat.mod_self n), Nat.div_self (by omega), dv, if_neg (by rw [Nat.mod_eq_of_lt (by omega)]; omega)]
/-- the primes that divide n, from d on, with their exponents -/
def facJ : Nat → Nat → Nat → List (Nat × Nat)
  | 0, _, _ => []
  | f + 1, n, d => if 1 < n then
      (if 0 < (dv 20 n (dnext n d) 0).2 then (dnext n d, (dv 20 n (dnext n d) 0).2) :: facJ f (dv 20 n (dnext n d) 0).1 (dnext n d + 1)
       else facJ f (dv 20 n (dnext n d) 0).1 (dnext n d + 1))
    else []
theorem facJ_one (f d : Nat) : facJ f 1 d = [] := by cases f <;> simp [facJ]
def facN (n : Nat) : List (Nat × Nat) := facJ 1001 n 2
/-- what trial division finds -/
structure FacOK (n d : Nat) (L : List (Nat × Nat)) : Prop where
  mem : ∀ x ∈ L, Prm x.1 ∧ d ≤ x.1 ∧ 1 ≤ x.2 ∧ ∃ m, n = x.1 ^ x.2 * m ∧ ¬ x.1 ∣ m
  all : ∀ p, Prm p → p ∣ n → ∃ x ∈ L, x.1 = p
  up : L.Pairwise (fun a b => a.1 < b.1)
theorem facJ_ok : ∀ f n d, 1 ≤ n → n ≤ 1000000 → 2 ≤ d → (n = 1 ∨ d ≤ 1001 ∧ 1003 ≤ f + d) → (∀ m, 2 ≤ m → m < d → ¬ m ∣ n) → FacOK n d (facJ f n d) := by
  intro f
  induction f with
  | zero =>
    intro n d h1 h2 h3 h4 h5
    obtain rfl : n = 1 := by omega
    exact ⟨by simp [facJ], fun p hp h => (hp.ndvd1 h).elim, by simp [facJ]⟩
  | succ f ih =>
    intro n d h1 h2 h3 h4 h5
    by_cases hn : 1 < n
    · rw [facJ, if_pos hn]
      have hd : d ≤ n := by
        apply Classical.byContradiction
        intro h
        exact h5 n (by omega) (by omega) (Nat.dvd_refl n)
      by_cases hq : n < d * d
      · have e1 : dnext n d = n := if_pos hq
        rw [e1, dv_self' n (by omega), if_pos (by decide), facJ_one]
        have hP : Prm n := by
          refine ⟨by omega, fun k hk => ?_⟩
          apply Classical.byContradiction
          intro hc
          have hk0 : 0 < k := Nat.pos_of_dvd_of_pos hk (by omega)
          have hkn := Nat.le_of_dvd (by omega) hk
          obtain ⟨l, hl⟩ := hk
          have hdk : d ≤ k := Classical.byContradiction fun h => h5 k (by omega) (by omega) ⟨l, hl⟩
          have hl0 : l ≠ 0 := fun e => by subst e; omega
          have hl1 : l ≠ 1 := fun e => by subst e; omega
          have hdl : d ≤ l := Classical.byContradiction fun h => h5 l (by omega) (by omega) ⟨k, by rw [hl, Nat.mul_comm]⟩
          have := Nat.mul_le_mul hdk hdl
          omega
        refine ⟨?_, ?_, by simp⟩
        · intro x hx
          simp at hx
          subst hx
          exact ⟨hP, hd, Nat.le_refl _, 1, by simp, hP.ndvd1⟩
        · intro p hp h
          refine ⟨(n, 1), by simp, ?_⟩
          rcases hP.2 p h with e | e
          · have := hp.1; omega
          · exact e.symm
      · have e1 : dnext n d = d := if_neg hq
        rw [e1]
        have hd2 : d ≤ 1000 := by
          apply Classical.byContradiction
          intro hc
          have : 1001 * 1001 ≤ d * d := Nat.mul_le_mul (by omega) (by omega)
          omega
        obtain ⟨e, m, r1, r2, r3⟩ := dv_spec h3 20 n 0 h1 (by omega)
        simp only [Nat.zero_add] at r1
        rw [r1]
        have hm0 : 1 ≤ m := Nat.pos_of_ne_zero fun e => r3 (e ▸ Nat.dvd_zero d)
        have hmn : m ≤ n := Nat.le_of_dvd (by omega) ⟨d ^ e, by rw [r2, Nat.mul_comm]⟩
        have IH := ih m (d + 1) hm0 (by omega) (by omega) (.inr ⟨by omega, by omega⟩) (fun k hk hkd hkm => by
          by_cases hkd2 : k = d
          · exact r3 (hkd2 ▸ hkm)
          · exact h5 k hk (by omega) (Nat.dvd_trans hkm ⟨d ^ e, by rw [r2, Nat.mul_comm]⟩))
        by_cases he : 0 < e
        · rw [if_pos he]
          have hdn : d ∣ n := by
            obtain ⟨e, rfl⟩ : ∃ k, e = k + 1 := ⟨e - 1, by omega⟩
            exact ⟨d ^ e * m, by rw [r2, Nat.pow_succ, Nat.mul_comm (d ^ e) d, Nat.mul_assoc]⟩
          have hP : Prm d := by
            refine ⟨h3, fun k hk => ?_⟩
            apply Classical.byContradiction
            intro hc
            have hk0 : 0 < k := Nat.pos_of_dvd_of_pos hk (by omega)
            have hkd := Nat.le_of_dvd (by omega) hk
            exact h5 k (by omega) (by omega) (Nat.dvd_trans hk hdn)
          refine ⟨?_, ?_, ?_⟩
          · intro x hx
            rcases List.mem_cons.1 hx with rfl | hx
            · exact ⟨hP, Nat.le_refl _, he, m, r2, r3⟩
            · obtain ⟨a, b, c, k, hk, hk2⟩ := IH.mem x hx
              refine ⟨a, by omega, c, d ^ e * k, ?_, ?_⟩
              · calc n = d ^ e * m := r2
                  _ = d ^ e * (x.1 ^ x.2 * k) := by rw [← hk]
                  _ = x.1 ^ x.2 * (d ^ e * k) := by rw [← Nat.mul_assoc, Nat.mul_comm (d ^ e), Nat.mul_assoc]
              · intro hh
                rcases a.mul hh with h | h
                · have := a.pow hP h; omega
                · exact hk2 h
          · intro p hp hpn
            rw [r2] at hpn
            rcases hp.mul hpn with h | h
            · exact ⟨(d, e), by simp, (hp.pow hP h).symm⟩
            · obtain ⟨x, hx, hxp⟩ := IH.all p hp h
              exact ⟨x, List.mem_cons_of_mem _ hx, hxp⟩
          · exact List.pairwise_cons.2 ⟨fun x hx => by have := (IH.mem x hx).2.1; simp; omega, IH.up⟩
        · rw [if_neg he]
          obtain rfl : e = 0 := by omega
          simp at r2
          subst r2
          exact ⟨fun x hx => by obtain ⟨a, b, c⟩ := IH.mem x hx; exact ⟨a, by omega, c⟩, IH.all, IH.up⟩
    · obtain rfl : n = 1 := by omega
      rw [facJ_one]
      exact ⟨by simp, fun p hp h => (hp.ndvd1 h).elim, by simp⟩
theorem facN_ok {n : Nat} (h1 : 1 ≤ n) (h2 : n ≤ 1000000) : FacOK n 2 (facN n) := facJ_ok 1001 n 2 h1 h2 (by omega) (.inr ⟨by omega, by omega⟩) (fun m h3 h4 => by omega)
theorem FacOK.ppt {n d : Nat} {L : List (Nat × Nat)} (h : FacOK n d L) {x : Nat × Nat} (hx : x ∈ L) : ppt x.1 n = x.1 ^ x.2 := by
  obtain ⟨a, _, _, m, r1, r2⟩ := h.mem x hx
  rw [r1]
  exact ppt_of a.1 r2
theorem FacOK.dvd {n d : Nat} {L : List (Nat × Nat)} (h : FacOK n d L) {x : Nat × Nat} (hx : x ∈ L) : x.1 ∣ n := by
  obtain ⟨a, _, c, m, r1, r2⟩ := h.mem x hx
  obtain ⟨k, hk⟩ : ∃ k, x.2 = k + 1 := ⟨x.2 - 1, by omega⟩
  exact ⟨x.1 ^ k * m, by rw [r1, hk, Nat.pow_succ, Nat.mul_comm (x.1 ^ k) x.1, Nat.mul_assoc]⟩
/-- a prime power has one prime -/
theorem facN_pow {p e : Nat} (hp : Prm p) (he : 1 ≤ e) (hm : p ^ e ≤ 1000000) : facN (p ^ e) = [(p, e)] := by
  have hF := facN_ok (n := p ^ e) (Nat.pow_pos (by have := hp.1; omega)) hm
  have h1 : ∀ x ∈ facN (p ^ e), x = (p, e) := by
    intro x hx
    obtain ⟨a, _, c, m, r1, r2⟩ := hF.mem x hx
    have e1 := a.pow hp (hF.dvd hx)
    have e2 : e = x.2 := exp_uniq (m := 1) (m' := m) hp.1 (by rw [e1] at r1; rw [← r1]; simp) hp.ndvd1 (e1 ▸ r2)
    rw [← e1, e2]
  obtain ⟨y, hy, _⟩ := hF.all p hp ⟨p ^ (e - 1), by rw [← Nat.pow_succ']; congr 1; omega⟩
  have hup := hF.up
  cases hL : facN (p ^ e) with
  | nil => rw [hL] at hy; simp at hy
  | cons a L =>
    rw [hL] at h1 hup
    cases L with
    | nil => rw [h1 a (by simp)]
    | cons b L =>
      have ea := h1 a (by simp)
      have eb := h1 b (by simp)
      have := (List.pairwise_cons.1 hup).1 b (by simp)
      rw [ea, eb] at this
      simp at this
/-- a prime power up to a million -/
def PPw (q : Nat) : Prop := q ≤ 1000000 ∧ ∃ p e, Prm p ∧ 1 ≤ e ∧ q = p ^ e
/-- its prime -/
def bs (q : Nat) : Nat := ((facN q).headD (0, 0)).1
theorem bs_pow {p e : Nat} (hp : Prm p) (he : 1 ≤ e) (hm : p ^ e ≤ 1000000) : bs (p ^ e) = p := by
  unfold bs; rw [facN_pow hp he hm]; rfl
theorem PPw.ex {q : Nat} (h : PPw q) : ∃ e, Prm (bs q) ∧ 1 ≤ e ∧ q = bs q ^ e ∧ facN q = [(bs q, e)] := by
  obtain ⟨h0, p, e, h1, h2, rfl⟩ := h
  rw [bs_pow h1 h2 h0]
  exact ⟨e, h1, h2, rfl, facN_pow h1 h2 h0⟩
theorem PPw.two {q : Nat} (h : PPw q) : 2 ≤ q := by
  obtain ⟨h0, p, e, h1, h2, rfl⟩ := h
  have := Nat.pow_le_pow_right (n := p) (by have := h1.1; omega) h2
  have := h1.1
  simp at *; omega
theorem ppw2 : PPw 2 := ⟨by omega, 2, 1, prm2, by omega, rfl⟩
/-- the primary parts of a number -/
def prt (n : Nat) : List Nat := (facN n).map fun x => x.1 ^ x.2
theorem prt_ppw {n : Nat} (h1 : 1 ≤ n) (h2 : n ≤ 1000000) : ∀ q ∈ prt n, PPw q ∧ q = ppt (bs q) n ∧ bs q ∣ n := by
  intro q hq
  obtain ⟨x, hx, rfl⟩ := List.mem_map.1 hq
  have hF := facN_ok h1 h2
  obtain ⟨a, _, c, m, r1, r2⟩ := hF.mem x hx
  have hle : x.1 ^ x.2 ≤ 1000000 := Nat.le_trans (Nat.le_of_dvd (by omega) ⟨m, r1⟩) h2
  rw [bs_pow a c hle]
  exact ⟨⟨hle, x.1, x.2, a, c, rfl⟩, (hF.ppt hx).symm, hF.dvd hx⟩
theorem filter_one_key : ∀ (L : List (Nat × Nat)) (x : Nat × Nat), L.Pairwise (fun a b => a.1 < b.1) → x ∈ L → L.filter (fun y => y.1 == x.1) = [x]
  | [], x, _, h => by simp at h
  | a :: L, x, hp, h => by
    obtain ⟨h1, h2⟩ := List.pairwise_cons.1 hp
    rcases List.mem_cons.1 h with rfl | h
    · rw [List.filter_cons_of_pos (by simp)]
      congr 1
      rw [List.filter_eq_nil_iff]
      intro y hy
      have := h1 y hy
      simp; omega
    · have := h1 x h
      rw [List.filter_cons_of_neg (by simp; omega)]
      exact filter_one_key L x h2 h
/-- the parts at one prime: one, if it divides -/
theorem prt_filter {n p : Nat} (h1 : 1 ≤ n) (h2 : n ≤ 1000000) (hp : Prm p) : (prt n).filter (fun q => bs q == p) = if p ∣ n then [ppt p n] else [] := by
  have hF := facN_ok h1 h2
  have e1 : (prt n).filter (fun q => bs q == p) = ((facN n).filter (fun x => x.1 == p)).map fun x => x.1 ^ x.2 := by
    unfold prt
    rw [List.filter_map]
    congr 1
    apply List.filter_congr
    intro x hx
    obtain ⟨a, _, c, m, r1, r2⟩ := hF.mem x hx
    have hle : x.1 ^ x.2 ≤ 1000000 := Nat.le_trans (Nat.le_of_dvd (by omega) ⟨m, r1⟩) h2
    simp only [Function.comp, bs_pow a c hle]
  rw [e1]
  split
  · next h =>
    obtain ⟨x, hx, rfl⟩ := hF.all p hp h
    rw [filter_one_key _ x hF.up hx, hF.ppt hx]
    rfl
  · next h =>
    rw [List.filter_eq_nil_iff.2]
    · rfl
    · intro x hx
      simp only [beq_iff_eq]
      intro e
      exact h (e ▸ hF.dvd hx)
end Go.Proofs.YtnedihpppbjmdaaGreatDoor
