/-
  Stores into a presentation that a call has made: a power, a conjugate.
-/
import Derived.Test.YthnpndheaailjaaGro
import Derived.Test.YthnpndheaailjaaRp2
import Derived.Test.YthnpndheaailjaaSiz
namespace Go.Proofs.Ythnpndheaailjaa
set_option linter.unusedVariables false
set_option linter.unusedSimpArgs false
set_option maxRecDepth 100000
open Go.RowKit

section
variable {α : Type} {e : TypeId} {O : World → (Nat → Prop) → Value → List α → Prop}
/-- element i, and what stands when it alone is written and takes new blocks in -/
theorem ON.focusG (hO : Local O) {w : World} {S : Nat → Prop} {v : Value} {ds : List (List α)} (h : ON e O w S v ds) (i : Nat) (hi' : i < ds.length) :
    ∃ g cap r T, v = .slice (some ⟨g, 0, none⟩) ds.length cap ∧ w.cell? ⟨g, i, none⟩ = some r ∧ w.frozen? ⟨g, i, none⟩ = false ∧ O w T r (ds.getD i []) ∧ (∀ k, T k → S k) ∧ S g ∧ ¬ T g ∧ g < w.heap.size ∧
      ∀ w' d' (U : Nat → Prop), ChgS T w w' → O w' (fun k => T k ∨ U k) r d' → (∀ k, U k → ¬ S k) → ON e O w' (fun k => S k ∨ U k) v (ds.set i d') := by
  obtain ⟨vs, T, h1, h2, h3, h4, h5⟩ := h
  have hvl : vs.length = ds.length := by have := h1.1; omega
  have h1' := h1
  rcases h1'.2 with ⟨rfl, h0⟩ | ⟨g, cap, cur, rfl, hb, hg, hnc, hcm, hcs, htake⟩
  · omega
  have h3i := h3 i hi'
  have h4i := h4 i hi' g rfl
  refine ⟨g, cap, vs.getD i undef, T i, rfl, ?_, h1.frozenAt i, h3i.2, h3i.1, h2 g rfl, h4i, (own_lt h1 rfl).2, fun w' d' U hc ho hU => ?_⟩
  · rw [h1.cellAt i (by omega), List.getD, List.getElem?_eq_getElem (by omega)]; rfl
  refine ⟨vs, fun j => if j = i then fun k => T i k ∨ U k else T j, ?_, fun g' hg' => .inl (h2 g' hg'), fun j hj => ?_, fun j hj g' hg' => ?_, fun j k hj hk hjk => ?_⟩
  · rw [List.length_set]
    exact own_of_block h1 fun g' hg' => by
      obtain rfl : g = g' := Option.some.inj hg'
      exact hc.block g (own_lt h1 rfl).2 h4i
  · rw [List.length_set] at hj
    by_cases hij : j = i
    · subst hij
      simp only [if_true]
      rw [gset_self _ _ _ _ hj]
      exact ⟨fun k hk => hk.imp (h3i.1 k) id, ho⟩
    · simp only [if_neg hij]
      rw [gset_ne _ _ _ _ _ (Ne.symm hij)]
      exact ⟨fun k hk => .inl ((h3 j hj).1 k hk), hO.chg (h3 j hj).2 hc fun k hk => h5 j i hj hi' hij k hk⟩
  · rw [List.length_set] at hj
    obtain rfl : g = g' := Option.some.inj hg'
    by_cases hij : j = i
    · simp only [if_pos hij]; exact fun h => h.elim h4i fun hu => hU g hu (h2 g rfl)
    · simp only [if_neg hij]; exact h4 j hj g rfl
  · rw [List.length_set] at hj hk
    by_cases hij : j = i
    · by_cases hik : k = i
      · omega
      · simp only [if_pos hij, if_neg hik]
        rintro x (hx | hx) hx'
        · exact h5 i k hi' hk (Ne.symm hik) x hx hx'
        · exact hU x hx ((h3 k hk).1 x hx')
    · by_cases hik : k = i
      · simp only [if_neg hij, if_pos hik]
        rintro x hx (hx' | hx')
        · exact h5 j i hj hi' hij x hx hx'
        · exact hU x hx' ((h3 j hj).1 x hx)
      · simp only [if_neg hij, if_neg hik]; exact h5 j k hj hk hjk
end
--== stores
theorem op_setPw {w : World} {S T : Nat → Prop} {v1 v2 v3 : Value} {p : Pres} (h : OP w S v1 v2 v3 p) {j : Nat} (hj : j < p.powers.length) {y : Value} {d : List Int} (hy : O1 w T y d) (hd : ∀ k, T k → ¬ S k) :
    ∃ g cap, v2 = .slice (some ⟨g, 0, none⟩) p.powers.length cap ∧ (∃ r, w.cell? ⟨g, j, none⟩ = some r) ∧ w.frozen? ⟨g, j, none⟩ = false ∧ S g ∧ OP (w.setCell ⟨g, j, none⟩ y) (fun k => S k ∨ T k) v1 v2 v3 ⟨p.orders, p.powers.set j d, p.conj⟩ := by
  obtain ⟨A, B, C, h1, h2, h3, s1, s2, s3, d1, d2, d3⟩ := h
  obtain ⟨ao, cap, rfl, _, _, ho⟩ := ON.open h2
  rcases ho with h0 | ⟨g, rfl, hg, hlt, hc⟩
  · omega
  have hs := ON.set local_O1 rfl h2 hj hy (fun k hk hb => hd k hk (s2 k hb))
  have hC := ChgS.of_chg hs.2
  refine ⟨g, cap, rfl, (hc j hj).2, (hc j hj).1, s2 g hg, A, fun k => B k ∨ T k, C, local_O1.chg h1 hC (fun k hk e => d1 k hk (e ▸ hg)), hs.1, local_O3.chg h3 hC (fun k hk e => d3 g hg (e ▸ hk)), fun k hk => .inl (s1 k hk), fun k hk => hk.imp (s2 k) id, fun k hk => .inl (s3 k hk), ?_, d2, ?_⟩
  · rintro k hk (hb | hb)
    · exact d1 k hk hb
    · exact hd k hb (s1 k hk)
  · rintro k (hb | hb) hc
    · exact d3 k hb hc
    · exact hd k hb (s3 k hc)
theorem op_setCj {w : World} {S T : Nat → Prop} {v1 v2 v3 : Value} {p : Pres} (h : OP w S v1 v2 v3 p) {i j : Nat} (hi : i < p.conj.length) (hj : j < (p.conj.getD i []).length) {y : Value} {d : List Int} (hy : O1 w T y d) (hd : ∀ k, T k → ¬ S k) :
    ∃ g cap g2 cap2, v3 = .slice (some ⟨g, 0, none⟩) p.conj.length cap ∧ w.cell? ⟨g, i, none⟩ = some (.slice (some ⟨g2, 0, none⟩) (p.conj.getD i []).length cap2) ∧ (∃ r, w.cell? ⟨g2, j, none⟩ = some r) ∧ w.frozen? ⟨g2, j, none⟩ = false ∧ S g ∧ S g2 ∧ g < w.heap.size ∧ g2 < w.heap.size ∧
      OP (w.setCell ⟨g2, j, none⟩ y) (fun k => S k ∨ T k) v1 v2 v3 ⟨p.orders, p.powers, p.conj.set i ((p.conj.getD i []).set j d)⟩ := by
  obtain ⟨A, B, C, h1, h2, h3, s1, s2, s3, d1, d2, d3⟩ := h
  obtain ⟨g, cap, r, Q, rfl, hcell, hfz, ho, hQ, hSg, hnQ, hlt, hput⟩ := ON.focusG local_O2 h3 i hi
  obtain ⟨ao, cap2, rfl, _, _, hoo⟩ := ON.open ho
  rcases hoo with h0 | ⟨g2, rfl, hg2, hlt2, hc⟩
  · omega
  have hs := ON.set local_O1 rfl ho hj hy (fun k hk hb => hd k hk (s3 k (hQ k hb)))
  have hC := ChgS.of_chg hs.2
  refine ⟨g, cap, g2, cap2, rfl, hcell, (hc j hj).2, (hc j hj).1, s3 g hSg, s3 g2 (hQ g2 hg2), hlt, hlt2, A, B, fun k => C k ∨ T k, local_O1.chg h1 hC (fun k hk e => d2 k hk (e ▸ hQ g2 hg2)), local_O2.chg h2 hC (fun k hk e => d3 k hk (e ▸ hQ g2 hg2)),
    hput _ _ T (hC.sub fun k hk => hk ▸ hg2) hs.1 (fun k hk hc => hd k hk (s3 k hc)), fun k hk => .inl (s1 k hk), fun k hk => .inl (s2 k hk), fun k hk => hk.imp (s3 k) id, d1, ?_, ?_⟩
  · rintro k hk (hb | hb)
    · exact d2 k hk hb
    · exact hd k hb (s1 k hk)
  · rintro k hk (hb | hb)
    · exact d3 k hk hb
    · exact hd k hb (s2 k hk)
theorem BOpen.set_pow {w wx : World} {b2 b4 : Nat} {P : Pres} {a1 c1 a2 n2 c2 a3 n3 c3} (h : BOpen w b2 b4 P a1 c1 a2 n2 c2 a3 n3 c3 wx) {i : Nat} (hi : i < n2) :
    ∃ g, a2 = some ⟨g, 0, none⟩ ∧ ∀ w3, Below wx.heap.size wx w3 → w3.cell? ⟨b4, 1, none⟩ = some (.slice a2 n2 c2) ∧ (∃ r, w3.cell? ⟨g, i, none⟩ = some r) ∧ w3.frozen? ⟨g, i, none⟩ = false ∧
      ∀ u row, Ints w3 wx.heap.size u row → BInv w b2 b4 ⟨P.orders, P.powers.set i row, P.conj⟩ (w3.setCell ⟨g, i, none⟩ u) := by
  obtain ⟨A, B, C, q1, q2, q3, s1, s2, s3, _⟩ := id h.op
  obtain ⟨ao, cap, e, _, _, ho⟩ := ON.open q2
  simp only [Value.slice.injEq] at e
  obtain ⟨rfl, e2, rfl⟩ := e
  have hl2 := h.l2
  rcases ho with h0 | ⟨g, rfl, hg, hlt, hc⟩
  · omega
  have hsg := s2 g hg
  refine ⟨g, rfl, fun w3 hB => ?_⟩
  have h3 := h.below hB
  obtain ⟨hcl1, r, hcl2⟩ := hc i (by omega)
  refine ⟨h3.x4.c1, ⟨r, (hB.cell (p := ⟨g, i, none⟩) hlt).trans hcl2⟩, ((bcell hB).2 g i hlt).trans hcl1, fun u row hI => ?_⟩
  have hop2 : OP w3 (fun k => (w.heap.size ≤ k ∧ k ≠ b2 ∧ k ≠ b4) ∧ k < wx.heap.size) (.slice a1 P.orders.length c1) (.slice (some ⟨g, 0, none⟩) n2 c2) (.slice a3 n3 c3) P := OP.below (OP.sub h.op fun k hk hh => ⟨hh, hk⟩) hB
  obtain ⟨g', cap', e', _, _, _, hP⟩ := op_setPw hop2 (j := i) (by omega) (T := fun k => wx.heap.size ≤ k) ⟨hI.mono (Nat.zero_le _), fun g hg => (hI.lt g hg).1⟩ (fun k hk hh => by have h1 : wx.heap.size ≤ k := hk; have h2 := hh.2; omega)
  simp only [Value.slice.injEq, Option.some.injEq, Addr.mk.injEq] at e'
  obtain ⟨⟨rfl, _⟩, _, _⟩ := e'
  have l2 := h.x2.lt
  have l4 := h.x4.lt
  have sz := hB.size
  have be := h.be.size
  refine ⟨_, _, _, h3.x2.other (Ne.symm hsg.2.1) i _, h3.x4.other (Ne.symm hsg.2.2) i _, OP.sub hP (fun k hk hh => ?_), h3.be.setCell (p := ⟨g, i, none⟩) hsg.1 _⟩
  rcases hh with ⟨hh, _⟩ | hh
  · exact hh
  · have hh' : wx.heap.size ≤ k := hh
    exact ⟨by omega, by omega, by omega⟩
theorem BOpen.set_conj {w wx : World} {b2 b4 : Nat} {P : Pres} {a1 c1 a2 n2 c2 a3 n3 c3} (h : BOpen w b2 b4 P a1 c1 a2 n2 c2 a3 n3 c3 wx) {i j m : Nat} (hi : i < n3) (hm : (P.conj.getD i []).length = m) (hj : j < m) :
    ∃ g g2 cap2, a3 = some ⟨g, 0, none⟩ ∧ ∀ w3, Below wx.heap.size wx w3 → w3.cell? ⟨b4, 2, none⟩ = some (.slice a3 n3 c3) ∧ w3.cell? ⟨g, i, none⟩ = some (.slice (some ⟨g2, 0, none⟩) m cap2) ∧ (∃ r, w3.cell? ⟨g2, j, none⟩ = some r) ∧ w3.frozen? ⟨g2, j, none⟩ = false ∧
      ∀ u row, Ints w3 wx.heap.size u row → BInv w b2 b4 ⟨P.orders, P.powers, P.conj.set i ((P.conj.getD i []).set j row)⟩ (w3.setCell ⟨g2, j, none⟩ u) := by
  subst hm
  have hl3 := h.l3
  have h0 := OP.sub (S' := fun k => (w.heap.size ≤ k ∧ k ≠ b2 ∧ k ≠ b4) ∧ k < wx.heap.size) h.op fun k hk hh => ⟨hh, hk⟩
  obtain ⟨g, cap, g2, cap2, e0, hcell, ⟨r, hr⟩, hfz, hSg, hSg2, hg, hg2, _⟩ := op_setCj h0 (i := i) (j := j) (by omega) hj (T := fun _ => False) (y := .slice none 0 0) (d := []) (local_O1.nil _ _) (fun k hk => hk.elim)
  simp only [Value.slice.injEq] at e0
  obtain ⟨rfl, _, rfl⟩ := e0
  refine ⟨g, g2, cap2, rfl, fun w3 hB => ?_⟩
  have h3 := h.below hB
  have hcell3 := (hB.cell (p := ⟨g, i, none⟩) hg).trans hcell
  refine ⟨h3.x4.c2, hcell3, ⟨r, (hB.cell (p := ⟨g2, j, none⟩) hg2).trans hr⟩, ((bcell hB).2 g2 j hg2).trans hfz, fun u row hI => ?_⟩
  have hop2 : OP w3 (fun k => (w.heap.size ≤ k ∧ k ≠ b2 ∧ k ≠ b4) ∧ k < wx.heap.size) (.slice a1 P.orders.length c1) (.slice a2 n2 c2) (.slice (some ⟨g, 0, none⟩) n3 c3) P := OP.below h0 hB
  obtain ⟨g', cap', g2', cap2', e', hcell', _, _, _, _, _, _, hP⟩ := op_setCj hop2 (i := i) (j := j) (by omega) hj (T := fun k => wx.heap.size ≤ k) ⟨hI.mono (Nat.zero_le _), fun g hg => (hI.lt g hg).1⟩ (fun k hk hh => by have h1 : wx.heap.size ≤ k := hk; have h2 := hh.2; omega)
  simp only [Value.slice.injEq, Option.some.injEq, Addr.mk.injEq] at e'
  obtain ⟨⟨rfl, _⟩, _, _⟩ := e'
  rw [hcell3] at hcell'
  simp only [Value.slice.injEq, Option.some.injEq, Addr.mk.injEq] at hcell'
  obtain ⟨⟨rfl, _⟩, _, _⟩ := hcell'
  have l2 := h.x2.lt
  have l4 := h.x4.lt
  have sz := hB.size
  have be := h.be.size
  refine ⟨_, _, _, h3.x2.other (Ne.symm hSg2.1.2.1) j _, h3.x4.other (Ne.symm hSg2.1.2.2) j _, OP.sub hP (fun k hk hh => ?_), h3.be.setCell (p := ⟨g2, j, none⟩) hSg2.1.1 _⟩
  rcases hh with ⟨hh, _⟩ | hh
  · exact hh
  · have hh' : wx.heap.size ≤ k := hh
    exact ⟨by omega, by omega, by omega⟩
--== the direct product
def padL (x : Nat) (v : List Int) (y : Nat) : List Int := List.replicate x 0 ++ v ++ List.replicate y 0
theorem padL_len (x : Nat) (v : List Int) (y : Nat) : (padL x v y).length = x + v.length + y := by simp [padL]; omega
theorem padL_cat (x : Nat) (v : List Int) (y : Nat) : cat [List.replicate x 0, v, List.replicate y 0] = padL x v y := by simp [cat, padL]
def stP (P : Pres) (i : Nat) (d : List Int) : Pres := ⟨P.orders, P.powers.set i d, P.conj⟩
def stC (P : Pres) (i j : Nat) (d : List Int) : Pres := ⟨P.orders, P.powers, P.conj.set i ((P.conj.getD i []).set j d)⟩
def dcTo (L : List (List Int)) (x y i : Nat) (P : Pres) : Nat → Pres
  | 0 => P
  | k + 1 => stC (dcTo L x y i P k) i k (padL x (L.getD k []) y)
def dpTo (a : Pres) (x y o : Nat) (P : Pres) : Nat → Pres
  | 0 => P
  | i + 1 => dcTo (a.conj.getD i []) x y (o + i) (stP (dpTo a x y o P i) (o + i) (padL x (a.powers.getD i []) y)) (a.conj.getD i []).length
def dirP (a b : Pres) : Pres := dpTo b a.n 0 a.n (dpTo a 0 b.n 0 (triv (a.orders ++ b.orders)) a.n) b.n
/-- the shape of a presentation on N generators -/
structure Shp (N : Nat) (P : Pres) : Prop where
  ol : P.orders.length = N
  pl : P.powers.length = N
  cl : P.conj.length = N
  row : ∀ i, i < N → (P.conj.getD i []).length = N - 1 - i
theorem Shp.stP {N : Nat} {P : Pres} (h : Shp N P) (i : Nat) (d : List Int) : Shp N (stP P i d) := ⟨h.ol, by simp [Go.Proofs.Ythnpndheaailjaa.stP, h.pl], h.cl, h.row⟩
theorem Shp.stC {N : Nat} {P : Pres} (h : Shp N P) (i j : Nat) (d : List Int) : Shp N (stC P i j d) := by
  refine ⟨h.ol, h.pl, by simp [Go.Proofs.Ythnpndheaailjaa.stC, h.cl], fun t ht => ?_⟩
  show ((P.conj.set i ((P.conj.getD i []).set j d)).getD t []).length = _
  by_cases hit : i = t
  · subst hit
    rw [gset_self _ _ _ _ (by rw [h.cl]; exact ht), List.length_set]
    exact h.row i ht
  · rw [gset_ne _ _ _ _ _ hit]
    exact h.row t ht
theorem Shp.dcTo {N : Nat} {P : Pres} (h : Shp N P) (L : List (List Int)) (x y i k : Nat) : Shp N (dcTo L x y i P k) := by
  induction k with
  | zero => exact h
  | succ k ih => exact ih.stC _ _ _
theorem Shp.dpTo {N : Nat} {P : Pres} (h : Shp N P) (a : Pres) (x y o k : Nat) : Shp N (dpTo a x y o P k) := by
  induction k with
  | zero => exact h
  | succ k ih => exact (ih.stP _ _).dcTo _ _ _ _ _
theorem shp_triv (os : List Int) : Shp os.length (triv os) := by
  refine ⟨rfl, trivPow_len _ _, trivConj_len _ _, fun i hi => ?_⟩
  show ((trivConj os.length os.length).getD i []).length = _
  simp [trivConj, List.getD, hi, trivRow]
theorem dpTo_zero (a : Pres) (x y o : Nat) (P : Pres) : dpTo a x y o P 0 = P := rfl
theorem dpTo_succ (a : Pres) (x y o : Nat) (P : Pres) (i : Nat) : dpTo a x y o P (i + 1) = dcTo (a.conj.getD i []) x y (o + i) (stP (dpTo a x y o P i) (o + i) (padL x (a.powers.getD i []) y)) (a.conj.getD i []).length := rfl
theorem dcTo_succ (L : List (List Int)) (x y i : Nat) (P : Pres) (k : Nat) : dcTo L x y i P (k + 1) = stC (dcTo L x y i P k) i k (padL x (L.getD k []) y) := rfl
def dirC (a b : Pres) : Int := if validB a = true ∧ validB b = true then (if validB (dirP a b) = true then 0 else 3) else 1
theorem dirC_1 {a b : Pres} (h : ¬ (validB a = true ∧ validB b = true)) : dirC a b = 1 := if_neg h
theorem dirC_3 {a b : Pres} (h : validB a = true) (h' : validB b = true) (h2 : validB (dirP a b) = false) : dirC a b = 3 := by unfold dirC; rw [if_pos ⟨h, h'⟩, if_neg (by rw [h2]; exact Bool.false_ne_true)]
theorem dirC_0 {a b : Pres} (h : validB a = true) (h' : validB b = true) (h2 : validB (dirP a b) = true) : dirC a b = 0 := by unfold dirC; rw [if_pos ⟨h, h'⟩, if_pos h2]
def dirX (a b : Pres) : Pres := okP (dirC a b) (dirP a b)
theorem getD_of_mem {β : Type} {x : β} {L : List β} (h : x ∈ L) (d : β) : ∃ i, i < L.length ∧ L.getD i d = x := by
  obtain ⟨i, hi, rfl⟩ := List.getElem_of_mem h
  exact ⟨i, hi, by simp [List.getD, hi]⟩
theorem valid_size {p : Pres} (hV : ValidP p) : psize p ≤ 1000000000 := by
  have hn6 := hV.n6
  have hol : p.orders.length = p.n := rfl
  refine psize_bd (by omega) (by have := hV.pl; omega) (by have := hV.cl; omega) (fun x hx => ?_) (fun y hy => ?_)
  · obtain ⟨i, hi, rfl⟩ := getD_of_mem hx []
    have := (hV.valid.pow i (by have := hV.pl; omega)).len
    have e : (p.P i).length = (p.powers.getD i []).length := rfl
    omega
  · obtain ⟨i, hi, rfl⟩ := getD_of_mem hy []
    have hi' : i < p.n := by have := hV.cl; omega
    obtain ⟨r1, r2, r3⟩ := rowB_true (hV.row i hi')
    refine ⟨by omega, fun x hx => ?_⟩
    obtain ⟨k, hk, rfl⟩ := getD_of_mem hx []
    have := (tailB_true (r3 k hk)).1
    omega
theorem len_DirectProduct (a b : Pres) : psize (dirX a b) ≤ 1000000000 := by
  unfold dirX
  by_cases h : validB (dirP a b) = true
  · by_cases hc : dirC a b = 0
    · rw [hc, okP_zero]; exact valid_size (validB_true.1 h)
    · rw [okP_ne _ hc]; exact psize_bd (by simp [noP]) (by simp [noP]) (by simp [noP]) (fun x hx => by simp [noP] at hx) (fun y hy => by simp [noP] at hy)
  · have hc : ¬ dirC a b = 0 := by
      unfold dirC
      split <;> omega
    rw [okP_ne _ hc]; exact psize_bd (by simp [noP]) (by simp [noP]) (by simp [noP]) (fun x hx => by simp [noP] at hx) (fun y hy => by simp [noP] at hy)
end Go.Proofs.Ythnpndheaailjaa
