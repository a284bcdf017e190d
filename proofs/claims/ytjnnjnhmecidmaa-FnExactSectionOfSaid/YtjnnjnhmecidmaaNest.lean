/-
  Lists of lists of lists: what reads, what a call owns.
-/
import Derived.Test.YtjnnjnhmecidmaaJoin
namespace Go.Proofs.Ytjnnjnhmecidmaa
set_option linter.unusedVariables false
set_option linter.unusedSimpArgs false
set_option maxRecDepth 100000
open Go.RowKit

/-! lists by index -/
theorem gset_self {β : Type} (l : List β) (i : Nat) (x d : β) (h : i < l.length) : (l.set i x).getD i d = x := by rw [List.getD_eq_getElem?_getD, List.getElem?_set_self h]; rfl
theorem gset_ne {β : Type} (l : List β) (i j : Nat) (x d : β) (h : i ≠ j) : (l.set i x).getD j d = l.getD j d := by rw [List.getD_eq_getElem?_getD, List.getElem?_set_ne h, List.getD_eq_getElem?_getD]
theorem gapp_left {β : Type} (l m : List β) (j : Nat) (d : β) (h : j < l.length) : (l ++ m).getD j d = l.getD j d := by rw [List.getD_eq_getElem?_getD, List.getElem?_append_left h, List.getD_eq_getElem?_getD]
theorem gapp_last {β : Type} (l : List β) (x d : β) : (l ++ [x]).getD l.length d = x := by rw [List.getD_eq_getElem?_getD, List.getElem?_append_right (Nat.le_refl _)]; simp
theorem grep_at {β : Type} (n j : Nat) (x d : β) (h : j < n) : (List.replicate n x).getD j d = x := by rw [List.getD_eq_getElem?_getD, List.getElem?_replicate, if_pos h]; rfl

--== reading, three levels
/-- The slice value v reads as the lists xsss. -/
def Rd3 (w : World) (v : Value) (xsss : List (List (List Int))) : Prop :=
  ∃ vs, RdV w v vs ∧ vs.length = xsss.length ∧ ∀ i, i < xsss.length → Rd2 w (vs.getD i undef) (xsss.getD i [])
theorem Rd3.of_cells {w w' : World} {v : Value} {xsss : List (List (List Int))} (h : Rd3 w v xsss) (hc : ∀ a u, w.cell? a = some u → w'.cell? a = some u) : Rd3 w' v xsss := by
  obtain ⟨vs, h1, h2, h3⟩ := h
  exact ⟨vs, h1.of_cells hc, h2, fun i hi => (h3 i hi).of_cells hc⟩
theorem Rd3.below {w w' : World} {v : Value} {xsss : List (List (List Int))} (h : Rd3 w v xsss) (hb : Below w.heap.size w w') : Rd3 w' v xsss :=
  h.of_cells (below_cells hb)
theorem Rd3.open {w : World} {v : Value} {xsss : List (List (List Int))} (h : Rd3 w v xsss) :
    ∃ ao cap, v = .slice ao xsss.length cap ∧ xsss.length ≤ cap ∧ cap ≤ 9223372036854775807 ∧
      (xsss.length = 0 ∨ ∃ b off, ao = some ⟨b, off, none⟩ ∧ ∀ j, j < xsss.length → ∃ r, w.cell? ⟨b, off + j, none⟩ = some r ∧ Rd2 w r (xsss.getD j [])) := by
  obtain ⟨vs, ⟨ao, cap, hv, h1, h2, h0, h3⟩, hl, hr⟩ := h
  rw [hl] at hv h1 h3
  refine ⟨ao, cap, hv, h1, h2, ?_⟩
  rcases h3 with h3 | ⟨b, off, rfl, h3⟩
  · exact .inl h3
  · refine .inr ⟨b, off, rfl, fun j hj => ⟨vs.getD j undef, ?_, hr j hj⟩⟩
    rw [h3 j hj, List.getD, List.getElem?_eq_getElem (by omega)]; rfl
theorem Rd2.form {w : World} {v : Value} {xss : List (List Int)} (h : Rd2 w v xss) : ∃ ao cap, v = .slice ao xss.length cap ∧ xss.length ≤ cap ∧ cap ≤ 9223372036854775807 := by
  obtain ⟨ao, cap, h1, h2, h3, _⟩ := h.open
  exact ⟨ao, cap, h1, h2, h3⟩
theorem Rd3.form {w : World} {v : Value} {xsss : List (List (List Int))} (h : Rd3 w v xsss) : ∃ ao cap, v = .slice ao xsss.length cap ∧ xsss.length ≤ cap ∧ cap ≤ 9223372036854775807 := by
  obtain ⟨ao, cap, h1, h2, h3, _⟩ := h.open
  exact ⟨ao, cap, h1, h2, h3⟩
theorem Rd2.nil (w : World) : Rd2 w (.slice none 0 0) [] := ⟨[], ⟨none, 0, rfl, by simp, by simp, fun _ => rfl, .inl rfl⟩, rfl, fun i hi => by simp at hi⟩
theorem Rd3.nil (w : World) : Rd3 w (.slice none 0 0) [] := ⟨[], ⟨none, 0, rfl, by simp, by simp, fun _ => rfl, .inl rfl⟩, rfl, fun i hi => by simp at hi⟩

--== owning
/-- a set of blocks: lo .. hi-1 -/
def win (lo hi : Nat) : Nat → Prop := fun k => lo ≤ k ∧ k < hi
/-- the block of v, if it has one, is in S -/
def BlkS (v : Value) (S : Nat → Prop) : Prop := ∀ g, v.ownBlock = some g → S g
/-- w' is w, but for new blocks and for what has been written to blocks of S -/
structure ChgS (S : Nat → Prop) (w w' : World) : Prop where
  os : w'.os = w.os
  tape : w'.tape = w.tape
  output : w'.output = w.output
  size : w.heap.size ≤ w'.heap.size
  block : ∀ k, k < w.heap.size → ¬ S k → w'.heap[k]? = w.heap[k]?
theorem ChgS.refl (S : Nat → Prop) (w : World) : ChgS S w w := ⟨rfl, rfl, rfl, Nat.le_refl _, fun _ _ _ => rfl⟩
theorem ChgS.trans {S T U : Nat → Prop} {a b c : World} (h : ChgS S a b) (k : ChgS T b c) (h1 : ∀ x, S x → U x) (h2 : ∀ x, T x → U x) : ChgS U a c :=
  ⟨k.os.trans h.os, k.tape.trans h.tape, k.output.trans h.output, Nat.le_trans h.size k.size, fun i hi hh => (k.block i (by have := h.size; omega) fun x => hh (h2 i x)).trans (h.block i hi fun x => hh (h1 i x))⟩
theorem ChgS.below {S : Nat → Prop} {B : Nat} {w w' : World} (h : ChgS S w w') (h1 : ∀ k, S k → B ≤ k) (h2 : B ≤ w.heap.size) : Below B w w' :=
  ⟨h.os, h.tape, h.output, h.size, fun k hk => h.block k (by omega) fun hs => by have := h1 k hs; omega⟩
theorem ChgS.of_grew {w w' : World} {v v' : Value} {S : Nat → Prop} (h : Grew w w' v v') (hb : BlkS v S) : ChgS S w w' :=
  ⟨h.grown.os, h.grown.tape, h.grown.output, h.grown.size, fun k hk hd => h.grown.block k hk fun e => hd (hb k e.symm)⟩
theorem ChgS.of_chg {w w' : World} {g : Nat} (h : Chg g (g + 1) w w') : ChgS (fun k => k = g) w w' :=
  ⟨h.os, h.tape, h.output, h.size, fun k hk hd => h.block k hk (by omega)⟩
theorem ChgS.win {w w' : World} {lo hi : Nat} (h : ChgS (win lo hi) w w') : Chg lo hi w w' :=
  ⟨h.os, h.tape, h.output, h.size, fun k hk hd => h.block k hk fun hs => by unfold Go.Proofs.Ytjnnjnhmecidmaa.win at hs; omega⟩

/-- v owns the integers xs, in blocks of S -/
def O1 (w : World) (S : Nat → Prop) (v : Value) (xs : List Int) : Prop := Ints w 0 v xs ∧ BlkS v S

/-- a row of values, each of which owns its own part -/
def ON {α : Type} (e : TypeId) (O : World → (Nat → Prop) → Value → List α → Prop) (w : World) (S : Nat → Prop) (v : Value) (ds : List (List α)) : Prop :=
  ∃ (vs : List Value) (T : Nat → Nat → Prop), w.ownsRow 0 e 1 v ds.length vs ∧ BlkS v S ∧
    (∀ i, i < ds.length → (∀ k, T i k → S k) ∧ O w (T i) (vs.getD i undef) (ds.getD i [])) ∧
    (∀ i, i < ds.length → ∀ g, v.ownBlock = some g → ¬ T i g) ∧
    (∀ i j, i < ds.length → j < ds.length → i ≠ j → ∀ k, T i k → ¬ T j k)

/-- what an owner says of memory speaks of its own blocks alone -/
structure Local {α : Type} (O : World → (Nat → Prop) → Value → List α → Prop) : Prop where
  loc : ∀ {w w' : World} {S : Nat → Prop} {v : Value} {d : List α}, O w S v d → (∀ k, S k → k < w.heap.size → w'.heap[k]? = w.heap[k]?) → O w' S v d
  mono : ∀ {w : World} {S S' : Nat → Prop} {v : Value} {d : List α}, O w S v d → (∀ k, k < w.heap.size → S k → S' k) → O w S' v d
  nil : ∀ (w : World) (S : Nat → Prop), O w S (.slice none 0 0) []

theorem local_O1 : Local O1 where
  loc := fun h hb => ⟨own_of_block h.1 fun g hg => hb g (h.2 g hg) (h.1.lt g hg).2, h.2⟩
  mono := fun h h1 => ⟨h.1, fun g hg => h1 g (h.1.lt g hg).2 (h.2 g hg)⟩
  nil := fun w S => ⟨Ints.nil w 0, fun g hg => by simp [Value.ownBlock] at hg⟩

theorem local_ON {α : Type} {e : TypeId} {O : World → (Nat → Prop) → Value → List α → Prop} (hO : Local O) : Local (ON e O) where
  loc := fun {w w' S v d} h hb => by
    obtain ⟨vs, T, h1, h2, h3, h4, h5⟩ := h
    exact ⟨vs, T, own_of_block h1 fun g hg => hb g (h2 g hg) (own_lt h1 hg).2, h2,
      fun i hi => ⟨(h3 i hi).1, hO.loc (h3 i hi).2 fun k hk1 hk3 => hb k ((h3 i hi).1 k hk1) hk3⟩, h4, h5⟩
  mono := fun {w S S' v d} h h1 => by
    obtain ⟨vs, T, k1, k2, k3, k4, k5⟩ := h
    exact ⟨vs, fun i k => T i k ∧ k < w.heap.size, k1, fun g hg => h1 g (own_lt k1 hg).2 (k2 g hg), fun i hi => ⟨fun k hk => h1 k hk.2 ((k3 i hi).1 k hk.1), hO.mono (k3 i hi).2 fun k hk1 hk2 => ⟨hk2, hk1⟩⟩,
      fun i hi g hg ht => k4 i hi g hg ht.1, fun i j hi hj hij k ht ht' => k5 i j hi hj hij k ht.1 ht'.1⟩
  nil := fun w S => ⟨[], fun _ _ => False, World.ownsRow_nil _ _ _ _, fun g hg => by simp [Value.ownBlock] at hg, fun i hi => by simp at hi, fun i hi => by simp at hi, fun i j hi => by simp at hi⟩

theorem Local.below {α : Type} {O : World → (Nat → Prop) → Value → List α → Prop} (hO : Local O) {w w' : World} {S : Nat → Prop} {v : Value} {d : List α} (h : O w S v d) (hb : Below w.heap.size w w') : O w' S v d :=
  hO.loc h fun k _ hk => hb.block k hk
theorem Local.chg {α : Type} {O : World → (Nat → Prop) → Value → List α → Prop} (hO : Local O) {w w' : World} {S T : Nat → Prop} {v : Value} {d : List α} (h : O w S v d) (hc : ChgS T w w') (hd : ∀ k, S k → ¬ T k) : O w' S v d :=
  hO.loc h fun k h1 hk => hc.block k hk (hd k h1)
/-- the blocks that are there -/
theorem Local.cut {α : Type} {O : World → (Nat → Prop) → Value → List α → Prop} (hO : Local O) {w : World} {S : Nat → Prop} {v : Value} {d : List α} (h : O w S v d) : O w (fun k => S k ∧ k < w.heap.size) v d :=
  hO.mono h fun k hk hs => ⟨hs, hk⟩

theorem O1.rd {w : World} {S : Nat → Prop} {v : Value} {xs : List Int} (h : O1 w S v xs) : Rd w v xs := h.1.rd

section
variable {α : Type} {e : TypeId} {O : World → (Nat → Prop) → Value → List α → Prop}

/-- the shape of what is owned: its value, and each element's cell -/
theorem ON.open {w : World} {S : Nat → Prop} {v : Value} {ds : List (List α)} (h : ON e O w S v ds) :
    ∃ ao cap, v = .slice ao ds.length cap ∧ ds.length ≤ cap ∧ cap ≤ 9223372036854775807 ∧
      (ds.length = 0 ∨ ∃ g, ao = some ⟨g, 0, none⟩ ∧ S g ∧ g < w.heap.size ∧ ∀ j, j < ds.length → w.frozen? ⟨g, j, none⟩ = false ∧ ∃ r, w.cell? ⟨g, j, none⟩ = some r) := by
  obtain ⟨vs, T, h1, h2, h3, h4, h5⟩ := h
  have hvl : vs.length = ds.length := by have := h1.1; omega
  have h1' := h1
  rcases h1'.2 with ⟨rfl, h0⟩ | ⟨g, cap, cur, rfl, hb, hg, hnc, hcm, hcs, htake⟩
  · exact ⟨none, 0, by rw [h0], by omega, by omega, .inl h0⟩
  · refine ⟨_, cap, rfl, hnc, by unfold maxLen at hcm; omega, .inr ⟨g, rfl, h2 g rfl, (own_lt h1 rfl).2, fun j hj => ⟨h1.frozenAt j, vs.getD j undef, ?_⟩⟩⟩
    rw [h1.cellAt j (by omega), List.getD, List.getElem?_eq_getElem (by omega)]; rfl

/-- element i, and what stands when it alone is written -/
theorem ON.focus (hO : Local O) {w : World} {S : Nat → Prop} {v : Value} {ds : List (List α)} (h : ON e O w S v ds) (i : Nat) (hi' : i < ds.length) :
    ∃ g cap r T, v = .slice (some ⟨g, 0, none⟩) ds.length cap ∧ w.cell? ⟨g, i, none⟩ = some r ∧ O w T r (ds.getD i []) ∧ (∀ k, T k → S k) ∧
      ∀ w' d', ChgS T w w' → O w' T r d' → ON e O w' S v (ds.set i d') := by
  obtain ⟨vs, T, h1, h2, h3, h4, h5⟩ := h
  have hvl : vs.length = ds.length := by have := h1.1; omega
  have h1' := h1
  rcases h1'.2 with ⟨rfl, h0⟩ | ⟨g, cap, cur, rfl, hb, hg, hnc, hcm, hcs, htake⟩
  · omega
  have h3i := h3 i hi'
  have h4i := h4 i hi' g rfl
  refine ⟨g, cap, vs.getD i undef, T i, rfl, ?_, h3i.2, h3i.1, fun w' d' hc ho => ?_⟩
  · rw [h1.cellAt i (by omega), List.getD, List.getElem?_eq_getElem (by omega)]; rfl
  refine ⟨vs, T, ?_, h2, fun j hj => ?_, fun j hj => ?_, fun j k hj hk hjk => ?_⟩
  · rw [List.length_set]
    exact own_of_block h1 fun g' hg' => by
      obtain rfl : g = g' := Option.some.inj hg'
      exact hc.block g (own_lt h1 rfl).2 h4i
  · rw [List.length_set] at hj
    refine ⟨(h3 j hj).1, ?_⟩
    by_cases hij : i = j
    · subst hij
      rw [gset_self _ _ _ _ hi']
      exact ho
    · rw [gset_ne _ _ _ _ _ hij]
      exact hO.chg (h3 j hj).2 hc fun k hk => h5 j i hj hi' (Ne.symm hij) k hk
  · rw [List.length_set] at hj; exact h4 j hj
  · rw [List.length_set] at hj hk; exact h5 j k hj hk hjk

/-- a store of an element -/
theorem ON.set (hO : Local O) {w : World} {S T' : Nat → Prop} {g n cap : Nat} {ds : List (List α)} {i : Nat} {y : Value} {d : List α} (hn : n = ds.length) (h : ON e O w S (.slice (some ⟨g, 0, none⟩) n cap) ds) (hi' : i < ds.length)
    (hy : O w T' y d) (hd : ∀ k, T' k → ¬ S k) :
    ON e O (w.setCell ⟨g, i, none⟩ y) (fun k => S k ∨ T' k) (.slice (some ⟨g, 0, none⟩) n cap) (ds.set i d) ∧ Chg g (g + 1) w (w.setCell ⟨g, i, none⟩ y) := by
  subst hn
  obtain ⟨vs, T, h1, h2, h3, h4, h5⟩ := h
  have hvl : vs.length = ds.length := by have := h1.1; omega
  obtain ⟨s1, s2⟩ := h1.stored i y
  have hc := Chg.of_grown s2
  have hcS := ChgS.of_chg hc
  have hg := h2 g rfl
  refine ⟨⟨vs.set i y, fun j => if j = i then T' else T j, by rw [List.length_set]; exact s1, fun g' hg' => .inl (h2 g' hg'), fun j hj => ?_, fun j hj g' hg' => ?_, fun j k hj hk hjk => ?_⟩, hc⟩
  · rw [List.length_set] at hj
    by_cases hij : j = i
    · subst hij
      simp only [if_true]
      rw [gset_self _ _ _ _ (by omega), gset_self _ _ _ _ hj]
      exact ⟨fun k hk => .inr hk, hO.chg hy hcS fun k hk e => hd k hk (e ▸ hg)⟩
    · simp only [if_neg hij]
      rw [gset_ne _ _ _ _ _ (Ne.symm hij), gset_ne _ _ _ _ _ (Ne.symm hij)]
      exact ⟨fun k hk => .inl ((h3 j hj).1 k hk), hO.chg (h3 j hj).2 hcS fun k hk e => h4 j hj g rfl (e ▸ hk)⟩
  · rw [List.length_set] at hj
    obtain rfl : g = g' := Option.some.inj hg'
    by_cases hij : j = i
    · simp only [if_pos hij]; exact fun h => hd g h hg
    · simp only [if_neg hij]; exact h4 j hj g rfl
  · rw [List.length_set] at hj hk
    by_cases hij : j = i
    · by_cases hik : k = i
      · omega
      · simp only [if_pos hij, if_neg hik]; exact fun x hx hx' => hd x hx ((h3 k hk).1 x hx')
    · by_cases hik : k = i
      · simp only [if_neg hij, if_pos hik]; exact fun x hx hx' => hd x hx' ((h3 j hj).1 x hx)
      · simp only [if_neg hij, if_neg hik]; exact h5 j k hj hk hjk

theorem ON.form {w : World} {S : Nat → Prop} {v : Value} {ds : List (List α)} (h : ON e O w S v ds) : ∃ ao cap, v = .slice ao ds.length cap ∧ ds.length ≤ cap ∧ cap ≤ 9223372036854775807 := by
  obtain ⟨ao, cap, h1, h2, h3, _⟩ := h.open
  exact ⟨ao, cap, h1, h2, h3⟩

/-- 'append(out, x)': one element that the call owns already; the blocks behind it: the old ones, the element's, and new ones -/
theorem wp_appO (hO : Local O) {P : Program} (w : World) {ops : Array Oper} {rest : List Oper} {o : Oper} {a : Act} {Q : Exit → Act → World → Prop} (hgd : o.guard = none) (s x : Operand) (t : TypeId)
    (ho : o.op = .call { callee := .builtin .append, args := #[s, x], argTypes := #[t, t] })
    (i : TypeInfo) (ht : P.underlying t = some (.slice e)) (hi : P.info? e = some i) (hz : i.zero = some (.slice none 0 0)) (hsize : i.size = 1) (hby : i.bytes = 24)
    (S T' : Nat → Prop) (v : Value) (ds : List (List α)) (hs : a.eval s = v) (hown : ON e O w S v ds) (y : Value) (d : List α) (hy : O w T' y d) (hone : y.oneCell' = true) (hd : ∀ k, T' k → ¬ S k)
    (hx : a.eval x = .slice (some ⟨w.heap.size, 0, none⟩) 1 1) (hn : ds.length ≤ 1000000000)
    (h : ∀ v' w', ON e O w' (fun k => (S k ∨ T' k) ∧ k < w.heap.size ∨ w.heap.size ≤ k ∧ k < w'.heap.size) v' (ds ++ [d]) → ChgS (fun k => S k ∧ v.ownBlock = some k) w w' → wpList P ops Q rest (a.put o.dst v') w') : wpList P ops Q (o :: rest) a (w.alloc (.cells #[y] e)) := by
  obtain ⟨vs, T, k1, k2, k3, k4, k5⟩ := hown
  have hvl : vs.length = ds.length := by have := k1.1; omega
  refine wp_app _ hgd s x t ho 0 e i (.slice none 0 0) 24 ht hi hz hsize hby rfl v ds.length vs hs (World.ownsRow.alloc k1 _) _ [y] hx ?_ ?_ ?_ ?_ (Nat.zero_le _) ?_
  · refine ⟨_, 1, rfl, by simp, by simp, fun h => by (cases h), .inr ⟨w.heap.size, 0, rfl, fun j hj => ?_⟩⟩
    obtain rfl : j = 0 := by simpa using hj
    simp
  · intro u hu; simp at hu; subst hu; exact hone
  · simp [maxLen]; omega
  · simp; omega
  · intro v' w' g1 g2 g3
    have hG : Grew w w' v v' := ⟨⟨g2.os, g2.tape, g2.output, by have := g2.size; simp at this; omega, fun k hk hne => (g2.block k (by simp; omega) hne).trans (Below.heap_alloc w _ k hk)⟩, fun g hg => (g3 g hg).imp id fun h => by simp at h; omega⟩
    have hsz := hG.grown.size
    have keep : ∀ (A : Nat → Prop) (u : Value) (c : List α), O w A u c → (∀ g, v.ownBlock = some g → ¬ A g) → O w' (fun k => A k ∧ k < w.heap.size) u c := fun A u c hu hd' =>
      hO.loc (hO.cut hu) fun k hk1 hk3 => hG.grown.block k hk3 fun e => hd' k e.symm hk1.1
    have hvT : ∀ g, v.ownBlock = some g → ¬ T' g := fun g hg ht => hd g ht (k2 g hg)
    refine h v' w' ⟨vs ++ [y], fun j => if j = ds.length then fun k => T' k ∧ k < w.heap.size else fun k => T j k ∧ k < w.heap.size, by rw [List.length_append]; exact g1, fun g hg => ?_, fun j hj => ?_, fun j hj g hg => ?_, fun j k hj hk hjk => ?_⟩ (ChgS.of_grew hG fun g hg => ⟨k2 g hg, hg⟩)
    · have hlt := own_lt g1 hg
      rcases hG.moved g hg with hm | hm
      · exact .inl ⟨.inl (k2 g hm), (own_lt k1 hm).2⟩
      · exact .inr ⟨hm, hlt.2⟩
    · rw [List.length_append] at hj
      simp only [List.length_cons, List.length_nil] at hj
      by_cases hjl : j = ds.length
      · subst hjl
        simp only [if_true]
        rw [gapp_last, ← hvl, gapp_last]
        exact ⟨fun k hk => .inl ⟨.inr hk.1, hk.2⟩, keep _ _ _ hy hvT⟩
      · simp only [if_neg hjl]
        rw [gapp_left _ _ _ _ (by omega), gapp_left _ _ _ _ (by omega)]
        have := k3 j (by omega)
        exact ⟨fun k hk => .inl ⟨.inl (this.1 k hk.1), hk.2⟩, keep _ _ _ this.2 fun g hg => k4 j (by omega) g hg⟩
    · rw [List.length_append] at hj
      simp only [List.length_cons, List.length_nil] at hj
      by_cases hjl : j = ds.length
      · simp only [if_pos hjl]
        rcases hG.moved g hg with hm | hm
        · exact fun h => hvT g hm h.1
        · exact fun h => by have := h.2; omega
      · simp only [if_neg hjl]
        rcases hG.moved g hg with hm | hm
        · exact fun h => k4 j (by omega) g hm h.1
        · exact fun h => by have := h.2; omega
    · rw [List.length_append] at hj hk
      simp only [List.length_cons, List.length_nil] at hj hk
      by_cases hjn : j = ds.length
      · by_cases hkl : k = ds.length
        · omega
        · simp only [if_pos hjn, if_neg hkl]; exact fun x hx hx' => hd x hx.1 ((k3 k (by omega)).1 x hx'.1)
      · by_cases hkl : k = ds.length
        · simp only [if_neg hjn, if_pos hkl]; exact fun x hx hx' => hd x hx'.1 ((k3 j (by omega)).1 x hx.1)
        · simp only [if_neg hjn, if_neg hkl]; exact fun x hx hx' => k5 j k (by omega) (by omega) hjk x hx.1 hx'.1

/-- 'make([]T, n)' of nil slices -/
theorem wp_mkO (hO : Local O) {P : Program} (w : World) {ops : Array Oper} {rest : List Oper} {o : Oper} {a : Act} {Q : Exit → Act → World → Prop} (hgd : o.guard = none) (l c : Operand) (t : TypeId) (ho : o.op = Op.makeSlice t l c)
    (i : TypeInfo) (ht : P.underlying t = some (.slice e)) (hi : P.info? e = some i) (hz : i.zero = some (.slice none 0 0)) (hsize : i.size = 1) (hby : i.bytes = 24)
    (kl kc : IntKind) (L C : Int) (n : Nat) (hl : a.eval l = .int kl L) (hc : a.eval c = .int kc C) (hL : L = (n : Int)) (hC : C = (n : Int)) (hn : n ≤ 1000000000)
    (h : ∀ w', ON e O w' (win w.heap.size w'.heap.size) (.slice (some ⟨w.heap.size, 0, none⟩) n n) (List.replicate n []) → Below w.heap.size w w' → w.heap.size < w'.heap.size → wpList P ops Q rest (a.put o.dst (.slice (some ⟨w.heap.size, 0, none⟩) n n)) w') :
    wpList P ops Q (o :: rest) a w := by
  refine wpList_make_full w hgd l c t ho 0 e i (.slice none 0 0) 1 ht hi hz hsize kl kc L C n hl hc hL hC (by rw [hby]; omega) (by unfold maxLen; omega) (Nat.zero_le _) ?_
  intro w' hown hg
  rw [Nat.mul_one, show (Value.slice none 0 0).cells = #[.slice none 0 0] from rfl, toList_madeCells_one] at hown
  have hlt := own_lt hown (g := w.heap.size) rfl
  refine h w' ⟨List.replicate n (.slice none 0 0), fun _ _ => False, by rw [List.length_replicate]; exact hown, fun g hg => ?_, fun j hj => ?_, fun j hj g hg h => h, fun j k _ _ _ x hx => hx.elim⟩ ((Below.refl _ _).grown hg (Nat.le_refl _) (by intro k hk; cases hk)) hlt.2
  · obtain rfl : w.heap.size = g := Option.some.inj hg
    exact ⟨Nat.le_refl _, hlt.2⟩
  · rw [List.length_replicate] at hj
    refine ⟨fun k hk => hk.elim, ?_⟩
    rw [grep_at _ _ _ _ hj, grep_at _ _ _ _ hj]
    exact hO.nil _ _
end

def O2 := ON 22 O1
theorem local_O2 : Local O2 := local_ON local_O1
theorem O2.rd {w : World} {S : Nat → Prop} {v : Value} {xss : List (List Int)} (h : O2 w S v xss) : Rd2 w v xss := by
  obtain ⟨vs, T, h1, h2, h3, h4, h5⟩ := h
  exact ⟨vs, rdV_of_own h1, by have := h1.1; omega, fun i hi => (h3 i hi).2.rd⟩
--== three levels
def O3 := ON 23 O2
theorem local_O3 : Local O3 := local_ON local_O2
theorem O3.rd {w : World} {S : Nat → Prop} {v : Value} {xsss : List (List (List Int))} (h : O3 w S v xsss) : Rd3 w v xsss := by
  obtain ⟨vs, T, h1, h2, h3, h4, h5⟩ := h
  exact ⟨vs, rdV_of_own h1, by have := h1.1; omega, fun i hi => (h3 i hi).2.rd⟩
end Go.Proofs.Ytjnnjnhmecidmaa
