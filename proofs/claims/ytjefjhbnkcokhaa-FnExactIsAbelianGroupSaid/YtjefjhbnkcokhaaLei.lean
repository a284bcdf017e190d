/-
  Leading exponents of products (plain).
  Leading exponents of inverses and powers; the strip of an element by a table (plain).
  The closure of a list of elements: what the loop keeps (plain).
  The closure of a list of elements: its end, and what grows (plain).
  Abelian presentations: all generators commute (plain).
-/
import Derived.Test.YtjefjhbnkcokhaaPer
import Derived.Test.YtjefjhbnkcokhaaIab
namespace Go.Proofs.Ytjefjhbnkcokhaa
set_option linter.unusedVariables false
set_option linter.unusedSimpArgs false
set_option maxRecDepth 100000

--== plain (Led)
theorem mid_right {p : Pres} {i d : Nat} {a b : List Int} (hi : i < d) (hb : VI p d b) : p.mid i a b = p.at (i + 1) (a.set i 0) b := by
  unfold Pres.mid
  rw [hb.zero i hi, (hb.mono (show i + 1 ≤ d by omega)).same]
  rfl
/-- a right factor with zeros ahead of d leaves what lies ahead of d, and adds at d -/
theorem at_right {p : Pres} (hp : Valid p) {d : Nat} (hd : d ≤ p.n) {b : List Int} (hb : VI p d b) : ∀ t i, i + t = d → ∀ a, VI p i a →
    (∀ k, k < d → (p.at i a b).getD k 0 = a.getD k 0) ∧ (d < p.n → (p.at i a b).getD d 0 = (a.getD d 0 + b.getD d 0) % p.r d)
  | 0, i, hit, a, ha => by
    obtain rfl : i = d := by omega
    have hv := VI.at hp i hd a b ha hb
    refine ⟨fun k hk => by rw [hv.zero k hk, ha.zero k hk], fun hn => ?_⟩
    have h1 := ha.lo i hn
    have h2 := hb.lo i hn
    have h3 := ha.hi i hn
    have h4 := hb.hi i hn
    by_cases hc : p.r i ≤ a.getD i 0 + b.getD i 0
    · have hm := VI.at hp (i + 1) (by omega) (p.P i) (p.mid i a b) (hp.pow i hn) (ha.mid hp hn hb)
      rw [at_hi hn hc, vset, if_pos ⟨rfl, by rw [hm.len]; exact hn⟩]
      rw [show a.getD i 0 + b.getD i 0 = (a.getD i 0 + b.getD i 0 - p.r i) + p.r i by omega, Int.add_emod_right, Int.emod_eq_of_lt (by omega) (by omega)]
      omega
    · have hm := ha.mid hp hn hb
      rw [at_lo hn hc, vset, if_pos ⟨rfl, by rw [hm.len]; exact hn⟩, Int.emod_eq_of_lt (by omega) (by omega)]
  | t + 1, i, hit, a, ha => by
    have hid : i < d := by omega
    have hin : i < p.n := by omega
    have hbi : b.getD i 0 = 0 := hb.zero i hid
    have h3 := ha.hi i hin
    have hm := ha.mid hp hin (hb.mono (show i ≤ d by omega))
    obtain ⟨ih1, ih2⟩ := at_right hp hd hb t (i + 1) (by omega) (a.set i 0) (ha.clear hp)
    rw [at_lo hin (by rw [hbi]; omega), hbi, Int.add_zero]
    rw [mid_right hid hb] at hm ⊢
    refine ⟨fun k hk => ?_, fun hn => ?_⟩
    · rw [vset]
      split
      · next h => rw [h.1]
      · next h =>
        rw [ih1 k hk, vset]
        split
        · next h' => exact absurd ⟨h'.1, by rw [hm.len]; omega⟩ h
        · rfl
    · rw [vset, if_neg (by omega), ih2 hn, vset, if_neg (by omega)]
theorem at0_right {p : Pres} (hp : Valid p) {d : Nat} (hd : d ≤ p.n) {a b : List Int} (ha : VI p 0 a) (hb : VI p d b) :
    (∀ k, k < d → (p.at 0 a b).getD k 0 = a.getD k 0) ∧ (d < p.n → (p.at 0 a b).getD d 0 = (a.getD d 0 + b.getD d 0) % p.r d) :=
  at_right hp hd hb d 0 (by omega) a ha
/-- powers keep the zeros ahead of d, and multiply at d -/
theorem pw_lead {p : Pres} (hp : Valid p) {d : Nat} (hd : d ≤ p.n) {x : List Int} (hx : VI p d x) (k : Nat) :
    VI p d (pw (p.at 0) p.zv x k) ∧ (d < p.n → (pw (p.at 0) p.zv x k).getD d 0 = (k * x.getD d 0) % p.r d) := by
  induction k with
  | zero => exact ⟨VI.zv hp d, fun hn => by show p.zv.getD d 0 = _; rw [Pres.zv, vrep]; simp⟩
  | succ k ih =>
    obtain ⟨h1, h2⟩ := ih
    have hv := VI.at hp 0 (by omega) _ _ (h1.mono (Nat.zero_le _)) (hx.mono (Nat.zero_le _))
    obtain ⟨g1, g2⟩ := at0_right hp hd (h1.mono (Nat.zero_le _)) hx
    refine ⟨⟨hv.len, hv.lo, hv.hi, fun j hj => ?_⟩, fun hn => ?_⟩
    · show (p.at 0 (pw (p.at 0) p.zv x k) x).getD j 0 = 0
      rw [g1 j hj, h1.zero j hj]
    · show (p.at 0 (pw (p.at 0) p.zv x k) x).getD d 0 = _
      rw [g2 hn, h2 hn, Int.emod_add_emod]
      congr 1
      push_cast
      rw [Int.add_mul, Int.one_mul]

--== plain (Lef)
theorem inv_lead {p : Pres} (h : GT p 0) {d : Nat} (hd : d ≤ p.n) {x : List Int} (hx : VI p d x) :
    VI p d (p.inv 0 x) ∧ (d < p.n → (x.getD d 0 + (p.inv 0 x).getD d 0) % p.r d = 0) := by
  have hd' := h.up (Nat.zero_le d) hd
  have h1 := hd'.inv_spec hx
  have h2 : p.at 0 x (p.inv d x) = p.zv := (at_subs h.vd d (Nat.zero_le _) hd _ _ hx h1.1).trans h1.2
  have h3 := h.inv_eq (hx.mono (Nat.zero_le _)) (h1.1.mono (Nat.zero_le _)) h2
  refine ⟨h3 ▸ h1.1, fun hn => ?_⟩
  have h4 := (at0_right h.vd hd (hx.mono (Nat.zero_le _)) (h3 ▸ h1.1 : VI p d (p.inv 0 x))).2 hn
  rw [← h3] at h4 ⊢
  rw [← h4, h2, Pres.zv, vrep]
theorem zpw_lead {p : Pres} (h : GT p 0) {d : Nat} (hd : d ≤ p.n) {x : List Int} (hx : VI p d x) (k : Int) :
    VI p d (zpw p x k) ∧ (d < p.n → (zpw p x k).getD d 0 = (k * x.getD d 0) % p.r d) := by
  unfold zpw
  by_cases hk : k < 0
  · rw [if_pos hk]
    obtain ⟨g1, g2⟩ := inv_lead h hd hx
    obtain ⟨h1, h2⟩ := pw_lead h.vd hd g1 (-k).toNat
    refine ⟨h1, fun hn => ?_⟩
    rw [h2 hn]
    have h3 := g2 hn
    obtain ⟨m, hm⟩ : ∃ m : Nat, -k = (m : Int) := ⟨(-k).toNat, by omega⟩
    have hk' : k = -(m : Int) := by omega
    rw [hm, Int.toNat_natCast, hk']
    -- m * inv = -m * x  mod r
    apply Int.emod_emod_of_dvd _ (Int.dvd_refl _) |>.symm.trans
    rw [Int.emod_emod_of_dvd _ (Int.dvd_refl _)]
    refine (Int.emod_eq_emod_iff_emod_sub_eq_zero).2 ?_
    rw [show (m : Int) * (p.inv 0 x).getD d 0 - -(m : Int) * x.getD d 0 = (m : Int) * (x.getD d 0 + (p.inv 0 x).getD d 0) by rw [Int.mul_add, Int.neg_mul]; omega]
    rw [Int.mul_emod, h3, Int.mul_zero, Int.zero_emod]
  · rw [if_neg hk]
    obtain ⟨h1, h2⟩ := pw_lead h.vd hd hx k.toNat
    exact ⟨h1, fun hn => by rw [h2 hn, Int.toNat_of_nonneg (by omega)]⟩

/-- the reference's strip: k slots from d on -/
noncomputable def strip (p : Pres) (T : List (List Int)) : Nat → Nat → List Int → Nat × List Int
  | 0, d, x => (d, x)
  | k + 1, d, x => if x.getD d 0 = 0 then strip p T k (d + 1) x else if T.getD d [] = [] then (d, x) else strip p T k (d + 1) (p.at 0 x (zpw p (T.getD d []) (-(x.getD d 0))))
/-- a table by depth: each entry that is there leads with 1 at its depth -/
def Tab (p : Pres) (T : List (List Int)) : Prop := ∀ d, d < p.n → T.getD d [] ≠ [] → VI p d (T.getD d []) ∧ (T.getD d []).getD d 0 = 1
theorem VI.next {p : Pres} {d : Nat} {x : List Int} (h : VI p d x) (h0 : x.getD d 0 = 0) : VI p (d + 1) x :=
  ⟨h.len, h.lo, h.hi, fun k hk => by
    by_cases e : k = d
    · subst e; exact h0
    · exact h.zero k (by omega)⟩
theorem strip_spec {p : Pres} (h : GT p 0) {T : List (List Int)} (hT : Tab p T) : ∀ k d, d + k = p.n → ∀ x, VI p d x →
    d ≤ (strip p T k d x).1 ∧ (strip p T k d x).1 ≤ p.n ∧ VI p (strip p T k d x).1 (strip p T k d x).2 ∧
      ((strip p T k d x).1 < p.n → T.getD (strip p T k d x).1 [] = [] ∧ (strip p T k d x).2.getD (strip p T k d x).1 0 ≠ 0)
  | 0, d, hd, x, hx => ⟨Nat.le_refl _, by show d ≤ _; omega, hx, fun hh => absurd hh (by show ¬ d < _; omega)⟩
  | k + 1, d, hd, x, hx => by
    have hn : d < p.n := by omega
    unfold strip
    by_cases h0 : x.getD d 0 = 0
    · rw [if_pos h0]
      obtain ⟨g1, g2, g3, g4⟩ := strip_spec h hT k (d + 1) (by omega) x (hx.next h0)
      exact ⟨by omega, g2, g3, g4⟩
    · rw [if_neg h0]
      by_cases ht : T.getD d [] = []
      · rw [if_pos ht]; exact ⟨Nat.le_refl _, by show d ≤ _; omega, hx, fun _ => ⟨ht, h0⟩⟩
      · rw [if_neg ht]
        obtain ⟨t1, t2⟩ := hT d hn ht
        obtain ⟨z1, z2⟩ := zpw_lead h (by omega) t1 (-(x.getD d 0))
        have hx0 := hx.mono (Nat.zero_le d)
        have hv := VI.at h.vd 0 (by omega) _ _ hx0 (z1.mono (Nat.zero_le _))
        obtain ⟨a1, a2⟩ := at0_right h.vd (by omega) hx0 z1
        have hy : VI p (d + 1) (p.at 0 x (zpw p (T.getD d []) (-(x.getD d 0)))) := ⟨hv.len, hv.lo, hv.hi, fun j hj => by
          by_cases e : j = d
          · subst e
            rw [a2 hn, z2 hn, t2, Int.mul_one, Int.add_emod_emod, Int.add_right_neg, Int.zero_emod]
          · rw [a1 j (by omega), hx.zero j (by omega)]⟩
        obtain ⟨g1, g2, g3, g4⟩ := strip_spec h hT k (d + 1) (by omega) _ hy
        exact ⟨by omega, g2, g3, g4⟩
/-- an element that leads at a depth whose slot is empty stays as it is -/
theorem strip_at {p : Pres} {T : List (List Int)} {e : Nat} {x : List Int} (he : ∀ j, j < e → x.getD j 0 = 0) (h0 : x.getD e 0 ≠ 0) (ht : T.getD e [] = []) : ∀ k d, d ≤ e → e < d + k → strip p T k d x = (e, x)
  | 0, d, h1, h2 => by omega
  | k + 1, d, h1, h2 => by
    unfold strip
    by_cases hd : d = e
    · subst hd
      rw [if_neg h0, if_pos ht]
    · rw [if_pos (he d (by omega))]
      exact strip_at he h0 ht k (d + 1) (by omega) (by omega)
theorem strip_zero {p : Pres} {T : List (List Int)} {x : List Int} (hx : ∀ j, x.getD j 0 = 0) : ∀ k d, strip p T k d x = (d + k, x)
  | 0, d => rfl
  | k + 1, d => by
    unfold strip
    rw [if_pos (hx d), strip_zero hx k (d + 1), show d + 1 + k = d + (k + 1) by omega]

--== plain (Leg)
/-- the element x leads at e -/
def Lead (x : List Int) (e : Nat) : Prop := (∀ j, j < e → x.getD j 0 = 0) ∧ x.getD e 0 ≠ 0
def emp (T : List (List Int)) : Nat := T.countP fun y => y.isEmpty
structure Cl (p : Pres) (L T W : List (List Int)) : Prop where
  tl : T.length = p.n
  tab : Tab p T
  wv : ∀ x ∈ W, VI p 0 x
  his : ∃ k X, k ≤ L.length ∧ W = L.take k ++ X ∧ ∀ x ∈ L.drop k, ∀ e, e < p.n → Lead x e → T.getD e [] ≠ []
  zer : (∀ x ∈ L, ∀ j, x.getD j 0 = 0) → (∀ d, T.getD d [] = []) ∧ ∀ x ∈ W, ∀ j, x.getD j 0 = 0
theorem Cl.start {p : Pres} {L : List (List Int)} (hL : ∀ x ∈ L, VI p 0 x) : Cl p L (List.replicate p.n []) L where
  tl := by simp
  tab := fun d hd h => absurd (by simp [List.getD, List.getElem?_replicate]; split <;> rfl) h
  wv := hL
  his := ⟨L.length, [], Nat.le_refl _, by simp, fun x hx => by simp at hx⟩
  zer := fun h => ⟨fun d => by simp [List.getD, List.getElem?_replicate]; split <;> rfl, h⟩
theorem snoc_take {α : Type} {L X ws : List α} {x : α} {k : Nat} (hk : k ≤ L.length) (h : ws ++ [x] = L.take k ++ X) :
    (∃ X', X = X' ++ [x] ∧ ws = L.take k ++ X') ∨ (X = [] ∧ ∃ k', k = k' + 1 ∧ ws = L.take k' ∧ L.drop k' = x :: L.drop k) := by
  rcases List.eq_nil_or_concat X with rfl | ⟨X', y, rfl⟩
  · refine .inr ⟨rfl, ?_⟩
    rw [List.append_nil] at h
    cases k with
    | zero => simp at h
    | succ k' =>
      have hlt : k' < L.length := by omega
      rw [List.take_succ_eq_append_getElem hlt] at h
      obtain ⟨h1, h2⟩ := List.append_inj' h rfl
      refine ⟨k', rfl, h1, ?_⟩
      rw [List.drop_eq_getElem_cons hlt]
      simp only [List.cons.injEq, and_true] at h2
      rw [h2]
  · rw [List.concat_eq_append, ← List.append_assoc] at h
    obtain ⟨h1, h2⟩ := List.append_inj' h rfl
    simp only [List.cons.injEq, and_true] at h2
    exact .inl ⟨X', by rw [h2, List.concat_eq_append], h1⟩
theorem set_ne {T : List (List Int)} {d e : Nat} {y : List Int} (hy : y ≠ []) (h : T.getD e [] ≠ []) : (T.set d y).getD e [] ≠ [] := by
  by_cases hde : d = e
  · subst hde
    have hl : d < T.length := by
      by_cases hl : d < T.length
      · exact hl
      · exact absurd (by simp [List.getD, List.getElem?_eq_none (Nat.not_lt.1 hl)]) h
    simp [List.getD, List.getElem?_set, hl]; exact hy
  · simpa [List.getD, List.getElem?_set, hde] using h
/-- an element that the table takes whole -/
theorem Cl.skip {p : Pres} (h : GT p 0) {L T ws : List (List Int)} {x : List Int} (hC : Cl p L T (ws ++ [x])) (hd : (strip p T p.n 0 x).1 = p.n) : Cl p L T ws where
  tl := hC.tl
  tab := hC.tab
  wv := fun y hy => hC.wv y (List.mem_append_left _ hy)
  his := by
    obtain ⟨k, X, hk, he, hh⟩ := hC.his
    rcases snoc_take hk he with ⟨X', _, h2⟩ | ⟨_, k', rfl, h2, h3⟩
    · exact ⟨k, X', hk, h2, hh⟩
    · refine ⟨k', [], by omega, by rw [h2, List.append_nil], fun z hz => ?_⟩
      rw [h3] at hz
      rcases List.mem_cons.1 hz with rfl | hz
      · intro e hn hl ht
        have := strip_at (p := p) hl.1 hl.2 ht p.n 0 (Nat.zero_le _) (by omega)
        rw [this] at hd
        exact absurd hd (by show ¬ e = _; omega)
      · exact hh z hz
  zer := fun hz => ⟨(hC.zer hz).1, fun y hy => (hC.zer hz).2 y (List.mem_append_left _ hy)⟩
/-- an element that fills an empty slot -/
theorem Cl.fill {p : Pres} (h : GT p 0) {L T ws P : List (List Int)} {x y : List Int} (hC : Cl p L T (ws ++ [x])) {d : Nat} (hd : (strip p T p.n 0 x).1 = d) (hn : d < p.n)
    (hy : VI p d y) (hy1 : y.getD d 0 = 1) (hP : ∀ z ∈ P, VI p 0 z) : Cl p L (T.set d y) (ws ++ P) where
  tl := by rw [List.length_set]; exact hC.tl
  tab := fun e he ht => by
    by_cases hde : d = e
    · subst hde
      have e1 : (T.set d y).getD d [] = y := by simp [List.getD, List.getElem?_set, hC.tl, hn]
      rw [e1]; exact ⟨hy, hy1⟩
    · have e1 : (T.set d y).getD e [] = T.getD e [] := by simp [List.getD, List.getElem?_set, hde]
      rw [e1] at ht ⊢; exact hC.tab e he ht
  wv := fun z hz => by
    rcases List.mem_append.1 hz with hz | hz
    · exact hC.wv z (List.mem_append_left _ hz)
    · exact hP z hz
  his := by
    have hyn : y ≠ [] := fun e => by have := hy.len; rw [e] at this; simp at this; omega
    obtain ⟨k, X, hk, he, hh⟩ := hC.his
    rcases snoc_take hk he with ⟨X', _, h2⟩ | ⟨_, k', rfl, h2, h3⟩
    · exact ⟨k, X' ++ P, hk, by rw [h2, List.append_assoc], fun z hz e hn' hl => set_ne hyn (hh z hz e hn' hl)⟩
    · refine ⟨k', P, by omega, by rw [h2], fun z hz e hn' hl => ?_⟩
      rw [h3] at hz
      rcases List.mem_cons.1 hz with rfl | hz
      · by_cases ht : T.getD e [] = []
        · have := strip_at (p := p) hl.1 hl.2 ht p.n 0 (Nat.zero_le _) (by omega)
          rw [this] at hd
          have hde : e = d := hd
          subst hde
          have e1 : (T.set e y).getD e [] = y := by simp [List.getD, List.getElem?_set, hC.tl, hn]
          rw [e1]; exact hyn
        · exact set_ne hyn ht
      · exact set_ne hyn (hh z hz e hn' hl)
  zer := fun hz => by
    have := (hC.zer hz).2 x (List.mem_append_right _ (List.mem_singleton.2 rfl))
    rw [strip_zero this] at hd
    exact absurd hd (by show ¬ 0 + p.n = d; omega)
/-- what the loop's end tells -/
theorem Cl.fin {p : Pres} {L T : List (List Int)} (hC : Cl p L T []) {x : List Int} (hx : x ∈ L) {e : Nat} (he : e < p.n) (hl : Lead x e) : T.getD e [] ≠ [] := by
  obtain ⟨k, X, hk, hw, hh⟩ := hC.his
  have h0 : L.take k = [] := (List.append_eq_nil_iff.1 hw.symm).1
  refine hh x ?_ e he hl
  have := List.take_append_drop k L
  rw [h0, List.nil_append] at this
  rw [this]; exact hx
theorem lead_ex {p : Pres} {x : List Int} (hx : VI p 0 x) (hz : x ≠ p.zv) : ∃ e, e < p.n ∧ Lead x e := by
  by_cases h : ∃ e, e < p.n ∧ Lead x e
  · exact h
  · refine absurd (VI.top ?_) hz
    have : ∀ d, d ≤ p.n → VI p d x := by
      intro d
      induction d with
      | zero => exact fun _ => hx
      | succ d ih =>
        intro hd
        have h1 := ih (by omega)
        refine h1.next ?_
        by_cases h0 : x.getD d 0 = 0
        · exact h0
        · exact absurd ⟨d, by omega, h1.zero, h0⟩ h
    exact this p.n (Nat.le_refl _)

--== plain (Leh)
theorem emp_set {T : List (List Int)} {y : List Int} (hy : y ≠ []) : ∀ {d : Nat}, d < T.length → T.getD d [] = [] → emp (T.set d y) + 1 = emp T := by
  induction T with
  | nil => intro d h; simp at h
  | cons a T ih =>
    intro d h h0
    cases d with
    | zero =>
      have ha : a = [] := by simpa [List.getD] using h0
      subst ha
      unfold emp
      rw [List.set_cons_zero, List.countP_cons_of_neg (by simpa using hy), List.countP_cons_of_pos (by simp)]
    | succ d =>
      have h1 := ih (d := d) (by simpa using h) (by simpa [List.getD] using h0)
      unfold emp at *
      rw [List.set_cons_succ, List.countP_cons, List.countP_cons]
      omega
theorem emp_le (T : List (List Int)) : emp T ≤ T.length := List.countP_le_length
/-- what l12Full does to one entry: k entries of D from e on -/
noncomputable def redF (p : Pres) (D : List (List Int)) : Nat → Nat → List Int → List Int
  | 0, _, x => x
  | k + 1, e, x => redF p D k (e + 1) (if D.getD e [] ≠ [] ∧ x.getD e 0 ≠ 0 then p.at 0 x (zpw p (D.getD e []) (-(x.getD e 0))) else x)
theorem redF_spec {p : Pres} (h : GT p 0) {D : List (List Int)} (hD : Tab p D) {d : Nat} : ∀ k e, d < e → e + k = p.n → ∀ x, VI p d x → x.getD d 0 = 1 → VI p d (redF p D k e x) ∧ (redF p D k e x).getD d 0 = 1
  | 0, e, _, _, x, hx, h1 => ⟨hx, h1⟩
  | k + 1, e, hde, hek, x, hx, h1 => by
    unfold redF
    by_cases hc : D.getD e [] ≠ [] ∧ x.getD e 0 ≠ 0
    · rw [if_pos hc]
      obtain ⟨t1, _⟩ := hD e (by omega) hc.1
      obtain ⟨z1, _⟩ := zpw_lead h (by omega) t1 (-(x.getD e 0))
      have hx0 := hx.mono (Nat.zero_le d)
      have hv := VI.at h.vd 0 (by omega) _ _ hx0 (z1.mono (Nat.zero_le _))
      obtain ⟨a1, _⟩ := at0_right h.vd (by omega) hx0 z1
      exact redF_spec h hD k (e + 1) (by omega) (by omega) _ ⟨hv.len, hv.lo, hv.hi, fun j hj => by rw [a1 j (by omega)]; exact hx.zero j hj⟩ (by rw [a1 d hde]; exact h1)
    · rw [if_neg hc]
      exact redF_spec h hD k (e + 1) (by omega) (by omega) x hx h1
structure FD (p : Pres) (T : List (List Int)) (i : Nat) (D : List (List Int)) : Prop where
  len : D.length = p.n
  tab : Tab p D
  lo : ∀ j, j < i → D.getD j [] = []
  hi : ∀ j, i ≤ j → j < p.n → (D.getD j [] = [] ↔ T.getD j [] = [])
theorem FD.start (p : Pres) (T : List (List Int)) : FD p T p.n (List.replicate p.n []) where
  len := by simp
  tab := fun d hd h => absurd (by simp [List.getD, List.getElem?_replicate]; split <;> rfl) h
  lo := fun j _ => by simp [List.getD, List.getElem?_replicate]; split <;> rfl
  hi := fun j h1 h2 => by omega
theorem FD.skip {p : Pres} {T D : List (List Int)} {i : Nat} (h : FD p T (i + 1) D) (ht : T.getD i [] = []) : FD p T i D where
  len := h.len
  tab := h.tab
  lo := fun j hj => h.lo j (by omega)
  hi := fun j h1 h2 => by
    by_cases e : j = i
    · subst e; exact ⟨fun _ => ht, fun _ => h.lo j (by omega)⟩
    · exact h.hi j (by omega) h2
theorem FD.put {p : Pres} (hG : GT p 0) {T D : List (List Int)} {i : Nat} (hi : i < p.n) (hT : Tab p T) (h : FD p T (i + 1) D) (ht : T.getD i [] ≠ []) :
    VI p i (redF p D (p.n - (i + 1)) (i + 1) (T.getD i [])) ∧ FD p T i (D.set i (redF p D (p.n - (i + 1)) (i + 1) (T.getD i []))) := by
  obtain ⟨t1, t2⟩ := hT i hi ht
  obtain ⟨r1, r2⟩ := redF_spec hG h.tab (p.n - (i + 1)) (i + 1) (Nat.lt_succ_self i) (by omega) _ t1 t2
  generalize redF p D (p.n - (i + 1)) (i + 1) (T.getD i []) = y at *
  have hyn : y ≠ [] := fun e => by have := r1.len; rw [e] at this; simp at this; omega
  have e0 : (D.set i y).getD i [] = y := by simp [List.getD, List.getElem?_set, h.len, hi]
  have e1 : ∀ j, i ≠ j → (D.set i y).getD j [] = D.getD j [] := fun j hj => by simp [List.getD, List.getElem?_set, hj]
  refine ⟨r1, by rw [List.length_set]; exact h.len, fun d hd hn => ?_, fun j hj => ?_, fun j h1 h2 => ?_⟩
  · by_cases e : i = d
    · subst e; rw [e0]; exact ⟨r1, r2⟩
    · rw [e1 d e] at hn ⊢; exact h.tab d hd hn
  · rw [e1 j (by omega)]; exact h.lo j (by omega)
  · by_cases e : i = j
    · subst e; rw [e0]; exact ⟨fun hh => absurd hh hyn, fun hh => absurd hh ht⟩
    · rw [e1 j e]; exact h.hi j (by omega) h2
/-- the sequence of a table -/
def filt (D : List (List Int)) : List (List Int) := D.filter fun y => !y.isEmpty
theorem filt_len (D : List (List Int)) : (filt D).length + emp D = D.length := by
  unfold filt emp
  rw [← List.countP_eq_length_filter]
  induction D with
  | nil => rfl
  | cons a D ih =>
    rw [List.countP_cons, List.countP_cons, List.length_cons]
    cases h : a.isEmpty <;> simp [h] <;> omega
theorem filt_grow : ∀ {D E : List (List Int)}, D.length = E.length → (∀ d, D.getD d [] ≠ [] → E.getD d [] ≠ []) → (filt D).length ≤ (filt E).length
  | [], [], _, _ => Nat.le_refl _
  | [], _ :: _, h, _ => by simp at h
  | _ :: _, [], h, _ => by simp at h
  | a :: D, b :: E, h, hh => by
    have ih := filt_grow (D := D) (E := E) (by simpa using h) (fun d => by have := hh (d + 1); simpa [List.getD] using this)
    have h0 := hh 0
    simp only [List.getD, List.getElem?_cons_zero, Option.getD_some] at h0
    unfold filt at *
    rw [List.filter_cons, List.filter_cons]
    by_cases ha : a = []
    · subst ha
      split
      · simp at *
      · split
        · simp; omega
        · exact ih
    · have hb := h0 ha
      rw [if_pos (by simpa using ha), if_pos (by simpa using hb)]
      simp; omega
theorem filt_mem {D : List (List Int)} {x : List Int} (h : x ∈ filt D) : ∃ d, d < D.length ∧ D.getD d [] = x ∧ x ≠ [] := by
  unfold filt at h
  obtain ⟨h1, h2⟩ := List.mem_filter.1 h
  obtain ⟨d, hd, e⟩ := List.mem_iff_getElem.1 h1
  exact ⟨d, hd, by simp [List.getD, List.getElem?_eq_getElem hd, e], by simpa using h2⟩
theorem mem_filt {D : List (List Int)} {d : Nat} (h : D.getD d [] ≠ []) : D.getD d [] ∈ filt D := by
  have hd : d < D.length := by
    by_cases hd : d < D.length
    · exact hd
    · exact absurd (by simp [List.getD, List.getElem?_eq_none (Nat.not_lt.1 hd)]) h
  unfold filt
  refine List.mem_filter.2 ⟨?_, by simpa using h⟩
  rw [List.getD, List.getElem?_eq_getElem hd, Option.getD_some]
  exact List.getElem_mem hd
theorem Tab.lead {p : Pres} {D : List (List Int)} (h : Tab p D) {d : Nat} (hd : d < p.n) (hn : D.getD d [] ≠ []) : Lead (D.getD d []) d :=
  ⟨(h d hd hn).1.zero, by rw [(h d hd hn).2]; decide⟩

--== plain (Lei)
theorem lw_uv {p : Pres} {k : Nat} (hk : k < p.n) : lw (p.uv k) = [k] := by
  have hat : ∀ j, j < p.n → lwAt (p.uv k) j = if j = k then [k] else [] := by
    intro j hj
    unfold lwAt
    by_cases e : j = k
    · subst e
      rw [if_pos rfl, show (p.uv j).getD j 0 = 1 from vset_self (by rw [p.zv_len]; exact hk)]; rfl
    · rw [if_neg e, show (p.uv k).getD j 0 = 0 by unfold Pres.uv; rw [vset_ne (Ne.symm e), Pres.zv, vrep]]; rfl
  have key : ∀ m, m ≤ p.n → (List.range m).flatMap (lwAt (p.uv k)) = if k < m then [k] else [] := by
    intro m
    induction m with
    | zero => intro _; simp
    | succ m ih =>
      intro hm
      rw [List.range_succ, List.flatMap_append, ih (by omega), List.flatMap_cons, List.flatMap_nil, List.append_nil, hat m (by omega)]
      by_cases h1 : k < m
      · rw [if_pos h1, if_neg (by omega), if_pos (by omega), List.append_nil]
      · by_cases h2 : m = k
        · rw [if_neg h1, if_pos h2, if_pos (by omega), List.nil_append]
        · rw [if_neg h1, if_neg h2, if_neg (by omega), List.append_nil]
  unfold lw
  rw [show (p.uv k).length = p.n by unfold Pres.uv; rw [List.length_set, p.zv_len], key p.n (Nat.le_refl _), if_pos hk]
theorem img_uv {p : Pres} (h : GT p 0) {j k : Nat} (hjk : j < k) (hk : k < p.n) : p.img j (p.uv k) = p.C j k := by
  unfold Pres.img imgM
  rw [lw_uv hk]
  show p.at (j + 1) p.zv (p.C j k) = p.C j k
  exact ((h.up (Nat.zero_le (j + 1)) (by omega)).G).onel (h.vd.cj j k hjk hk)
theorem uv_comm {p : Pres} (h : GT p 0) {j k : Nat} (hjk : j < k) (hk : k < p.n) : p.at 0 (p.uv k) (p.uv j) = p.at 0 (p.uv j) (p.uv k) ↔ p.C j k = p.uv k := by
  have hu := VI.uv h.vd (Nat.le_refl k) hk
  rw [h.swap (Nat.zero_le j) (by omega) (hu.mono (by omega)), img_uv h hjk hk]
  constructor
  · intro e
    exact h.G.lcan (VI.uv h.vd (Nat.zero_le _) (by omega)) ((h.vd.cj j k hjk hk).mono (Nat.zero_le _)) (hu.mono (Nat.zero_le _)) e
  · intro e; rw [e]
theorem ab_comm {p : Pres} (h : GT p 0) : abB p = true ↔ ∀ i j, i < p.n → j < p.n → p.at 0 (p.uv i) (p.uv j) = p.at 0 (p.uv j) (p.uv i) := by
  rw [abB_iff]
  constructor
  · intro H i j hi hj
    rcases Nat.lt_trichotomy i j with e | e | e
    · exact ((uv_comm h e hj).2 (H i j e hj)).symm
    · subst e; rfl
    · exact (uv_comm h e hi).2 (H j i e hi)
  · intro H i j hij hj
    exact (uv_comm h hij hj).1 (H j i hj (by omega))
/-- a commutator is the identity just where its elements commute -/
theorem comm_zv {p : Pres} (h : GT p 0) {x y : List Int} (hx : VI p 0 x) (hy : VI p 0 y) : p.at 0 (p.inv 0 (p.at 0 y x)) (p.at 0 x y) = p.zv ↔ p.at 0 x y = p.at 0 y x := by
  have h1 := h.at hy hx
  have h2 := h.at hx hy
  constructor
  · intro e
    have h3 : p.at 0 (p.at 0 y x) (p.at 0 (p.inv 0 (p.at 0 y x)) (p.at 0 x y)) = p.at 0 (p.at 0 y x) p.zv := by rw [e]
    rw [← h.G.assoc h1 (h.inv h1) h2, h.invr h1, h.G.onel h2, h.G.oner h1] at h3
    exact h3
  · intro e; rw [e]; exact h.invl h1
--== end
end Go.Proofs.Ytjefjhbnkcokhaa
