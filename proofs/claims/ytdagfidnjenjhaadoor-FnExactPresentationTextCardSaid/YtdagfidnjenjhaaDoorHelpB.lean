/-
  slices.Grow, slices.Concat, copies; products of words.
  Lists of lists of lists: what reads, what a call owns.
  The laws' helpers on lists of lists: copies, marks, comparisons, sizes.
  The laws' helpers on lists of lists of lists, and on presentations.
-/
import Derived.Test.YtdagfidnjenjhaaDoorWordsD
namespace Go.Proofs.YtdagfidnjenjhaaDoor
set_option linter.unusedVariables false
set_option linter.unusedSimpArgs false
set_option maxRecDepth 100000
open Go.RowKit

--== plain (Join)
theorem zeroInts (n : Nat) : (Builtin.zeroCells (Value.int .i64 0).cells n).toList = (List.replicate n (0 : Int)).map (Value.int .i64) := by
  have := toList_madeCells_one (Value.int .i64 0) n
  simp only [madeCells] at this
  simp only [Builtin.zeroCells, show (Value.int .i64 0).cells = #[.int .i64 0] from rfl, List.map_replicate]
  simpa using this

/-- 'append([]int64(nil), make([]int64, n)...)', as the translation has it -/
theorem wp_appZ {P : Program} (w : World) {ops : Array Oper} {rest : List Oper} {o : Oper} {a : Act} {Q : Exit → Act → World → Prop} (hgd : o.guard = none) (s x : Operand)
    (ho : o.op = .call { callee := .builtin .append, args := #[s, x], argTypes := #[22, 3] })
    (i : TypeInfo) (ht : P.underlying 22 = some (.slice 2)) (htn : P.underlying 3 = some (.int .i64)) (hi : P.info? 2 = some i) (hz : i.zero = some (.int .i64 0)) (hsize : i.size = 1) (hby : i.bytes = 8)
    (hs : a.eval s = .slice none 0 0) (n : Nat) (N : Int) (hN : N = (n : Int)) (hx : a.eval x = .int .i64 N) (h0 : 0 < n) (hn : n ≤ 1000000000)
    (h : ∀ w' cap, Ints w' w.heap.size (.slice (some ⟨w.heap.size, 0, none⟩) n cap) (List.replicate n 0) → n ≤ cap → cap ≤ 9223372036854775807 → Below w.heap.size w w' → wpList P ops Q rest (a.put o.dst (.slice (some ⟨w.heap.size, 0, none⟩) n cap)) w') :
    wpList P ops Q (o :: rest) a w := by
  subst hN
  refine wpList_plain hgd fun K hK' => ?_
  have hr := Lib.run_append_nil_zeros (P := P) w 22 3 o.type 2 i (.int .i64 0) .i64 .i64 ht htn hi hz n h0 (by omega) (by omega) (by rw [hby]; omega)
  have hge := grownCap_ge w n 0 2
  have hcm : grownCap w n 0 2 ≤ maxLen := grownCap_le_maxLen w n 0 2 (by unfold maxLen; omega)
  unfold Oper.wp execOp
  simp only [ho, resolve, invoke, builtin, Sem.run_bind, Sem.run_pure, Result.andThen_ok, List.map_toArray, List.map_cons, List.map_nil, hs, hx, hr]
  refine hK' _ _ (h _ _ ?_ hge (by unfold maxLen at hcm; omega) ?_)
  · refine ⟨by simp, .inr ⟨w.heap.size, _, _, by simp, Nat.le_refl _, heap_alloc_new w.drew _, by simpa using hge, hcm, ?_, ?_⟩⟩
    · simp only [Array.size_append, size_zeroCells, show (Value.int .i64 0).cells.size = 1 from rfl]; omega
    · rw [Array.toList_append, zeroInts]
      simp
  · exact ⟨rfl, rfl, rfl, by simp, fun k hk => Below.heap_alloc w.drew _ k hk⟩

--== lists of lists
/-- the lists of a list, joined (no simp rule looks inside) -/
def cat (xss : List (List Int)) : List Int := xss.flatten
theorem flat_succ (xss : List (List Int)) (k : Nat) (h : k < xss.length) : cat (xss.take (k + 1)) = cat (xss.take k) ++ xss.getD k [] := by
  unfold cat; rw [take_snoc xss k [] h]; simp
theorem flat_le (xss : List (List Int)) (k : Nat) : (cat (xss.take k)).length ≤ (cat xss).length := by
  have h : xss.flatten = (xss.take k).flatten ++ (xss.drop k).flatten := by rw [← List.flatten_append, List.take_append_drop]
  unfold cat
  rw [h, List.length_append]; omega
--== plain (Nest)
/-! lists by index -/
theorem gset_self {β : Type} (l : List β) (i : Nat) (x d : β) (h : i < l.length) : (l.set i x).getD i d = x := by rw [List.getD_eq_getElem?_getD, List.getElem?_set_self h]; rfl
theorem gset_ne {β : Type} (l : List β) (i j : Nat) (x d : β) (h : i ≠ j) : (l.set i x).getD j d = l.getD j d := by rw [List.getD_eq_getElem?_getD, List.getElem?_set_ne h, List.getD_eq_getElem?_getD]
theorem gapp_left {β : Type} (l m : List β) (j : Nat) (d : β) (h : j < l.length) : (l ++ m).getD j d = l.getD j d := by rw [List.getD_eq_getElem?_getD, List.getElem?_append_left h, List.getD_eq_getElem?_getD]
theorem gapp_last {β : Type} (l : List β) (x d : β) : (l ++ [x]).getD l.length d = x := by rw [List.getD_eq_getElem?_getD, List.getElem?_append_right (Nat.le_refl _)]; simp
theorem grep_at {β : Type} (n j : Nat) (x d : β) (h : j < n) : (List.replicate n x).getD j d = x := by rw [List.getD_eq_getElem?_getD, List.getElem?_replicate, if_pos h]; rfl

--== reading, three levels
/-- The slice value v reads as the lists xsss. -/
def Rd3 (w : World) (v : Value) (xsss : List (List (List Int))) : Prop :=
  ∃ vs, RdV w v vs ∧ vs.length = xsss.length ∧ ∀ i, i < xsss.length → Rd2 w (vs.getD i undef) (xsss.getD i [])
theorem Rd3.of_cells {w w' : World} {v : Value} {xsss : List (List (List Int))} (h : Rd3 w v xsss) (hc : ∀ a u, w.cell? a = some u → w'.cell? a = some u) : Rd3 w' v xsss := by
  obtain ⟨vs, h1, h2, h3⟩ := h
  exact ⟨vs, h1.of_cells hc, h2, fun i hi => (h3 i hi).of_cells hc⟩
theorem Rd3.below {w w' : World} {v : Value} {xsss : List (List (List Int))} (h : Rd3 w v xsss) (hb : Below w.heap.size w w') : Rd3 w' v xsss :=
  h.of_cells (below_cells hb)
theorem Rd3.open {w : World} {v : Value} {xsss : List (List (List Int))} (h : Rd3 w v xsss) :
    ∃ ao cap, v = .slice ao xsss.length cap ∧ xsss.length ≤ cap ∧ cap ≤ 9223372036854775807 ∧
      (xsss.length = 0 ∨ ∃ b off, ao = some ⟨b, off, none⟩ ∧ ∀ j, j < xsss.length → ∃ r, w.cell? ⟨b, off + j, none⟩ = some r ∧ Rd2 w r (xsss.getD j [])) := by
  obtain ⟨vs, ⟨ao, cap, hv, h1, h2, h0, h3⟩, hl, hr⟩ := h
  rw [hl] at hv h1 h3
  refine ⟨ao, cap, hv, h1, h2, ?_⟩
  rcases h3 with h3 | ⟨b, off, rfl, h3⟩
  · exact .inl h3
  · refine .inr ⟨b, off, rfl, fun j hj => ⟨vs.getD j undef, ?_, hr j hj⟩⟩
    rw [h3 j hj, List.getD, List.getElem?_eq_getElem (by omega)]; rfl
theorem Rd2.form {w : World} {v : Value} {xss : List (List Int)} (h : Rd2 w v xss) : ∃ ao cap, v = .slice ao xss.length cap ∧ xss.length ≤ cap ∧ cap ≤ 9223372036854775807 := by
  obtain ⟨ao, cap, h1, h2, h3, _⟩ := h.open
  exact ⟨ao, cap, h1, h2, h3⟩
theorem Rd3.form {w : World} {v : Value} {xsss : List (List (List Int))} (h : Rd3 w v xsss) : ∃ ao cap, v = .slice ao xsss.length cap ∧ xsss.length ≤ cap ∧ cap ≤ 9223372036854775807 := by
  obtain ⟨ao, cap, h1, h2, h3, _⟩ := h.open
  exact ⟨ao, cap, h1, h2, h3⟩
theorem Rd2.nil (w : World) : Rd2 w (.slice none 0 0) [] := ⟨[], ⟨none, 0, rfl, by simp, by simp, fun _ => rfl, .inl rfl⟩, rfl, fun i hi => by simp at hi⟩
theorem Rd3.nil (w : World) : Rd3 w (.slice none 0 0) [] := ⟨[], ⟨none, 0, rfl, by simp, by simp, fun _ => rfl, .inl rfl⟩, rfl, fun i hi => by simp at hi⟩

--== owning
/-- a set of blocks: lo .. hi-1 -/
def win (lo hi : Nat) : Nat → Prop := fun k => lo ≤ k ∧ k < hi
/-- the block of v, if it has one, is in S -/
def BlkS (v : Value) (S : Nat → Prop) : Prop := ∀ g, v.ownBlock = some g → S g
/-- w' is w, but for new blocks and for what has been written to blocks of S -/
structure ChgS (S : Nat → Prop) (w w' : World) : Prop where
  os : w'.os = w.os
  tape : w'.tape = w.tape
  output : w'.output = w.output
  size : w.heap.size ≤ w'.heap.size
  block : ∀ k, k < w.heap.size → ¬ S k → w'.heap[k]? = w.heap[k]?
theorem ChgS.refl (S : Nat → Prop) (w : World) : ChgS S w w := ⟨rfl, rfl, rfl, Nat.le_refl _, fun _ _ _ => rfl⟩
theorem ChgS.trans {S T U : Nat → Prop} {a b c : World} (h : ChgS S a b) (k : ChgS T b c) (h1 : ∀ x, S x → U x) (h2 : ∀ x, T x → U x) : ChgS U a c :=
  ⟨k.os.trans h.os, k.tape.trans h.tape, k.output.trans h.output, Nat.le_trans h.size k.size, fun i hi hh => (k.block i (by have := h.size; omega) fun x => hh (h2 i x)).trans (h.block i hi fun x => hh (h1 i x))⟩
theorem ChgS.below {S : Nat → Prop} {B : Nat} {w w' : World} (h : ChgS S w w') (h1 : ∀ k, S k → B ≤ k) (h2 : B ≤ w.heap.size) : Below B w w' :=
  ⟨h.os, h.tape, h.output, h.size, fun k hk => h.block k (by omega) fun hs => by have := h1 k hs; omega⟩
theorem ChgS.of_grew {w w' : World} {v v' : Value} {S : Nat → Prop} (h : Grew w w' v v') (hb : BlkS v S) : ChgS S w w' :=
  ⟨h.grown.os, h.grown.tape, h.grown.output, h.grown.size, fun k hk hd => h.grown.block k hk fun e => hd (hb k e.symm)⟩
theorem ChgS.of_chg {w w' : World} {g : Nat} (h : Chg g (g + 1) w w') : ChgS (fun k => k = g) w w' :=
  ⟨h.os, h.tape, h.output, h.size, fun k hk hd => h.block k hk (by omega)⟩
theorem ChgS.win {w w' : World} {lo hi : Nat} (h : ChgS (win lo hi) w w') : Chg lo hi w w' :=
  ⟨h.os, h.tape, h.output, h.size, fun k hk hd => h.block k hk fun hs => by unfold Go.Proofs.YtdagfidnjenjhaaDoor.win at hs; omega⟩

/-- v owns the integers xs, in blocks of S -/
def O1 (w : World) (S : Nat → Prop) (v : Value) (xs : List Int) : Prop := Ints w 0 v xs ∧ BlkS v S

/-- a row of values, each of which owns its own part -/
def ON {α : Type} (e : TypeId) (O : World → (Nat → Prop) → Value → List α → Prop) (w : World) (S : Nat → Prop) (v : Value) (ds : List (List α)) : Prop :=
  ∃ (vs : List Value) (T : Nat → Nat → Prop), w.ownsRow 0 e 1 v ds.length vs ∧ BlkS v S ∧
    (∀ i, i < ds.length → (∀ k, T i k → S k) ∧ O w (T i) (vs.getD i undef) (ds.getD i [])) ∧
    (∀ i, i < ds.length → ∀ g, v.ownBlock = some g → ¬ T i g) ∧
    (∀ i j, i < ds.length → j < ds.length → i ≠ j → ∀ k, T i k → ¬ T j k)

/-- what an owner says of memory speaks of its own blocks alone -/
structure Local {α : Type} (O : World → (Nat → Prop) → Value → List α → Prop) : Prop where
  loc : ∀ {w w' : World} {S : Nat → Prop} {v : Value} {d : List α}, O w S v d → (∀ k, S k → k < w.heap.size → w'.heap[k]? = w.heap[k]?) → O w' S v d
  mono : ∀ {w : World} {S S' : Nat → Prop} {v : Value} {d : List α}, O w S v d → (∀ k, k < w.heap.size → S k → S' k) → O w S' v d
  nil : ∀ (w : World) (S : Nat → Prop), O w S (.slice none 0 0) []

theorem local_O1 : Local O1 where
  loc := fun h hb => ⟨own_of_block h.1 fun g hg => hb g (h.2 g hg) (h.1.lt g hg).2, h.2⟩
  mono := fun h h1 => ⟨h.1, fun g hg => h1 g (h.1.lt g hg).2 (h.2 g hg)⟩
  nil := fun w S => ⟨Ints.nil w 0, fun g hg => by simp [Value.ownBlock] at hg⟩

theorem local_ON {α : Type} {e : TypeId} {O : World → (Nat → Prop) → Value → List α → Prop} (hO : Local O) : Local (ON e O) where
  loc := fun {w w' S v d} h hb => by
    obtain ⟨vs, T, h1, h2, h3, h4, h5⟩ := h
    exact ⟨vs, T, own_of_block h1 fun g hg => hb g (h2 g hg) (own_lt h1 hg).2, h2,
      fun i hi => ⟨(h3 i hi).1, hO.loc (h3 i hi).2 fun k hk1 hk3 => hb k ((h3 i hi).1 k hk1) hk3⟩, h4, h5⟩
  mono := fun {w S S' v d} h h1 => by
    obtain ⟨vs, T, k1, k2, k3, k4, k5⟩ := h
    exact ⟨vs, fun i k => T i k ∧ k < w.heap.size, k1, fun g hg => h1 g (own_lt k1 hg).2 (k2 g hg), fun i hi => ⟨fun k hk => h1 k hk.2 ((k3 i hi).1 k hk.1), hO.mono (k3 i hi).2 fun k hk1 hk2 => ⟨hk2, hk1⟩⟩,
      fun i hi g hg ht => k4 i hi g hg ht.1, fun i j hi hj hij k ht ht' => k5 i j hi hj hij k ht.1 ht'.1⟩
  nil := fun w S => ⟨[], fun _ _ => False, World.ownsRow_nil _ _ _ _, fun g hg => by simp [Value.ownBlock] at hg, fun i hi => by simp at hi, fun i hi => by simp at hi, fun i j hi => by simp at hi⟩

theorem Local.below {α : Type} {O : World → (Nat → Prop) → Value → List α → Prop} (hO : Local O) {w w' : World} {S : Nat → Prop} {v : Value} {d : List α} (h : O w S v d) (hb : Below w.heap.size w w') : O w' S v d :=
  hO.loc h fun k _ hk => hb.block k hk
theorem Local.chg {α : Type} {O : World → (Nat → Prop) → Value → List α → Prop} (hO : Local O) {w w' : World} {S T : Nat → Prop} {v : Value} {d : List α} (h : O w S v d) (hc : ChgS T w w') (hd : ∀ k, S k → ¬ T k) : O w' S v d :=
  hO.loc h fun k h1 hk => hc.block k hk (hd k h1)
/-- the blocks that are there -/
theorem Local.cut {α : Type} {O : World → (Nat → Prop) → Value → List α → Prop} (hO : Local O) {w : World} {S : Nat → Prop} {v : Value} {d : List α} (h : O w S v d) : O w (fun k => S k ∧ k < w.heap.size) v d :=
  hO.mono h fun k hk hs => ⟨hs, hk⟩

theorem O1.rd {w : World} {S : Nat → Prop} {v : Value} {xs : List Int} (h : O1 w S v xs) : Rd w v xs := h.1.rd

section
variable {α : Type} {e : TypeId} {O : World → (Nat → Prop) → Value → List α → Prop}

/-- the shape of what is owned: its value, and each element's cell -/
theorem ON.open {w : World} {S : Nat → Prop} {v : Value} {ds : List (List α)} (h : ON e O w S v ds) :
    ∃ ao cap, v = .slice ao ds.length cap ∧ ds.length ≤ cap ∧ cap ≤ 9223372036854775807 ∧
      (ds.length = 0 ∨ ∃ g, ao = some ⟨g, 0, none⟩ ∧ S g ∧ g < w.heap.size ∧ ∀ j, j < ds.length → w.frozen? ⟨g, j, none⟩ = false ∧ ∃ r, w.cell? ⟨g, j, none⟩ = some r) := by
  obtain ⟨vs, T, h1, h2, h3, h4, h5⟩ := h
  have hvl : vs.length = ds.length := by have := h1.1; omega
  have h1' := h1
  rcases h1'.2 with ⟨rfl, h0⟩ | ⟨g, cap, cur, rfl, hb, hg, hnc, hcm, hcs, htake⟩
  · exact ⟨none, 0, by rw [h0], by omega, by omega, .inl h0⟩
  · refine ⟨_, cap, rfl, hnc, by unfold maxLen at hcm; omega, .inr ⟨g, rfl, h2 g rfl, (own_lt h1 rfl).2, fun j hj => ⟨h1.frozenAt j, vs.getD j undef, ?_⟩⟩⟩
    rw [h1.cellAt j (by omega), List.getD, List.getElem?_eq_getElem (by omega)]; rfl

/-- element i, and what stands when it alone is written -/
theorem ON.focus (hO : Local O) {w : World} {S : Nat → Prop} {v : Value} {ds : List (List α)} (h : ON e O w S v ds) (i : Nat) (hi' : i < ds.length) :
    ∃ g cap r T, v = .slice (some ⟨g, 0, none⟩) ds.length cap ∧ w.cell? ⟨g, i, none⟩ = some r ∧ O w T r (ds.getD i []) ∧ (∀ k, T k → S k) ∧
      ∀ w' d', ChgS T w w' → O w' T r d' → ON e O w' S v (ds.set i d') := by
  obtain ⟨vs, T, h1, h2, h3, h4, h5⟩ := h
  have hvl : vs.length = ds.length := by have := h1.1; omega
  have h1' := h1
  rcases h1'.2 with ⟨rfl, h0⟩ | ⟨g, cap, cur, rfl, hb, hg, hnc, hcm, hcs, htake⟩
  · omega
  have h3i := h3 i hi'
  have h4i := h4 i hi' g rfl
  refine ⟨g, cap, vs.getD i undef, T i, rfl, ?_, h3i.2, h3i.1, fun w' d' hc ho => ?_⟩
  · rw [h1.cellAt i (by omega), List.getD, List.getElem?_eq_getElem (by omega)]; rfl
  refine ⟨vs, T, ?_, h2, fun j hj => ?_, fun j hj => ?_, fun j k hj hk hjk => ?_⟩
  · rw [List.length_set]
    exact own_of_block h1 fun g' hg' => by
      obtain rfl : g = g' := Option.some.inj hg'
      exact hc.block g (own_lt h1 rfl).2 h4i
  · rw [List.length_set] at hj
    refine ⟨(h3 j hj).1, ?_⟩
    by_cases hij : i = j
    · subst hij
      rw [gset_self _ _ _ _ hi']
      exact ho
    · rw [gset_ne _ _ _ _ _ hij]
      exact hO.chg (h3 j hj).2 hc fun k hk => h5 j i hj hi' (Ne.symm hij) k hk
  · rw [List.length_set] at hj; exact h4 j hj
  · rw [List.length_set] at hj hk; exact h5 j k hj hk hjk

/-- a store of an element -/
theorem ON.set (hO : Local O) {w : World} {S T' : Nat → Prop} {g n cap : Nat} {ds : List (List α)} {i : Nat} {y : Value} {d : List α} (hn : n = ds.length) (h : ON e O w S (.slice (some ⟨g, 0, none⟩) n cap) ds) (hi' : i < ds.length)
    (hy : O w T' y d) (hd : ∀ k, T' k → ¬ S k) :
    ON e O (w.setCell ⟨g, i, none⟩ y) (fun k => S k ∨ T' k) (.slice (some ⟨g, 0, none⟩) n cap) (ds.set i d) ∧ Chg g (g + 1) w (w.setCell ⟨g, i, none⟩ y) := by
  subst hn
  obtain ⟨vs, T, h1, h2, h3, h4, h5⟩ := h
  have hvl : vs.length = ds.length := by have := h1.1; omega
  obtain ⟨s1, s2⟩ := h1.stored i y
  have hc := Chg.of_grown s2
  have hcS := ChgS.of_chg hc
  have hg := h2 g rfl
  refine ⟨⟨vs.set i y, fun j => if j = i then T' else T j, by rw [List.length_set]; exact s1, fun g' hg' => .inl (h2 g' hg'), fun j hj => ?_, fun j hj g' hg' => ?_, fun j k hj hk hjk => ?_⟩, hc⟩
  · rw [List.length_set] at hj
    by_cases hij : j = i
    · subst hij
      simp only [if_true]
      rw [gset_self _ _ _ _ (by omega), gset_self _ _ _ _ hj]
      exact ⟨fun k hk => .inr hk, hO.chg hy hcS fun k hk e => hd k hk (e ▸ hg)⟩
    · simp only [if_neg hij]
      rw [gset_ne _ _ _ _ _ (Ne.symm hij), gset_ne _ _ _ _ _ (Ne.symm hij)]
      exact ⟨fun k hk => .inl ((h3 j hj).1 k hk), hO.chg (h3 j hj).2 hcS fun k hk e => h4 j hj g rfl (e ▸ hk)⟩
  · rw [List.length_set] at hj
    obtain rfl : g = g' := Option.some.inj hg'
    by_cases hij : j = i
    · simp only [if_pos hij]; exact fun h => hd g h hg
    · simp only [if_neg hij]; exact h4 j hj g rfl
  · rw [List.length_set] at hj hk
    by_cases hij : j = i
    · by_cases hik : k = i
      · omega
      · simp only [if_pos hij, if_neg hik]; exact fun x hx hx' => hd x hx ((h3 k hk).1 x hx')
    · by_cases hik : k = i
      · simp only [if_neg hij, if_pos hik]; exact fun x hx hx' => hd x hx' ((h3 j hj).1 x hx)
      · simp only [if_neg hij, if_neg hik]; exact h5 j k hj hk hjk

theorem ON.form {w : World} {S : Nat → Prop} {v : Value} {ds : List (List α)} (h : ON e O w S v ds) : ∃ ao cap, v = .slice ao ds.length cap ∧ ds.length ≤ cap ∧ cap ≤ 9223372036854775807 := by
  obtain ⟨ao, cap, h1, h2, h3, _⟩ := h.open
  exact ⟨ao, cap, h1, h2, h3⟩

/-- 'append(out, x)': one element that the call owns already; the blocks behind it: the old ones, the element's, and new ones -/
theorem wp_appO (hO : Local O) {P : Program} (w : World) {ops : Array Oper} {rest : List Oper} {o : Oper} {a : Act} {Q : Exit → Act → World → Prop} (hgd : o.guard = none) (s x : Operand) (t : TypeId)
    (ho : o.op = .call { callee := .builtin .append, args := #[s, x], argTypes := #[t, t] })
    (i : TypeInfo) (ht : P.underlying t = some (.slice e)) (hi : P.info? e = some i) (hz : i.zero = some (.slice none 0 0)) (hsize : i.size = 1) (hby : i.bytes = 24)
    (S T' : Nat → Prop) (v : Value) (ds : List (List α)) (hs : a.eval s = v) (hown : ON e O w S v ds) (y : Value) (d : List α) (hy : O w T' y d) (hone : y.oneCell' = true) (hd : ∀ k, T' k → ¬ S k)
    (hx : a.eval x = .slice (some ⟨w.heap.size, 0, none⟩) 1 1) (hn : ds.length ≤ 1000000000)
    (h : ∀ v' w', ON e O w' (fun k => (S k ∨ T' k) ∧ k < w.heap.size ∨ w.heap.size ≤ k ∧ k < w'.heap.size) v' (ds ++ [d]) → ChgS (fun k => S k ∧ v.ownBlock = some k) w w' → wpList P ops Q rest (a.put o.dst v') w') : wpList P ops Q (o :: rest) a (w.alloc (.cells #[y] e)) := by
  obtain ⟨vs, T, k1, k2, k3, k4, k5⟩ := hown
  have hvl : vs.length = ds.length := by have := k1.1; omega
  refine wp_app _ hgd s x t ho 0 e i (.slice none 0 0) 24 ht hi hz hsize hby rfl v ds.length vs hs (World.ownsRow.alloc k1 _) _ [y] hx ?_ ?_ ?_ ?_ (Nat.zero_le _) ?_
  · refine ⟨_, 1, rfl, by simp, by simp, fun h => by (cases h), .inr ⟨w.heap.size, 0, rfl, fun j hj => ?_⟩⟩
    obtain rfl : j = 0 := by simpa using hj
    simp
  · intro u hu; simp at hu; subst hu; exact hone
  · simp [maxLen]; omega
  · simp; omega
  · intro v' w' g1 g2 g3
    have hG : Grew w w' v v' := ⟨⟨g2.os, g2.tape, g2.output, by have := g2.size; simp at this; omega, fun k hk hne => (g2.block k (by simp; omega) hne).trans (Below.heap_alloc w _ k hk)⟩, fun g hg => (g3 g hg).imp id fun h => by simp at h; omega⟩
    have hsz := hG.grown.size
    have keep : ∀ (A : Nat → Prop) (u : Value) (c : List α), O w A u c → (∀ g, v.ownBlock = some g → ¬ A g) → O w' (fun k => A k ∧ k < w.heap.size) u c := fun A u c hu hd' =>
      hO.loc (hO.cut hu) fun k hk1 hk3 => hG.grown.block k hk3 fun e => hd' k e.symm hk1.1
    have hvT : ∀ g, v.ownBlock = some g → ¬ T' g := fun g hg ht => hd g ht (k2 g hg)
    refine h v' w' ⟨vs ++ [y], fun j => if j = ds.length then fun k => T' k ∧ k < w.heap.size else fun k => T j k ∧ k < w.heap.size, by rw [List.length_append]; exact g1, fun g hg => ?_, fun j hj => ?_, fun j hj g hg => ?_, fun j k hj hk hjk => ?_⟩ (ChgS.of_grew hG fun g hg => ⟨k2 g hg, hg⟩)
    · have hlt := own_lt g1 hg
      rcases hG.moved g hg with hm | hm
      · exact .inl ⟨.inl (k2 g hm), (own_lt k1 hm).2⟩
      · exact .inr ⟨hm, hlt.2⟩
    · rw [List.length_append] at hj
      simp only [List.length_cons, List.length_nil] at hj
      by_cases hjl : j = ds.length
      · subst hjl
        simp only [if_true]
        rw [gapp_last, ← hvl, gapp_last]
        exact ⟨fun k hk => .inl ⟨.inr hk.1, hk.2⟩, keep _ _ _ hy hvT⟩
      · simp only [if_neg hjl]
        rw [gapp_left _ _ _ _ (by omega), gapp_left _ _ _ _ (by omega)]
        have := k3 j (by omega)
        exact ⟨fun k hk => .inl ⟨.inl (this.1 k hk.1), hk.2⟩, keep _ _ _ this.2 fun g hg => k4 j (by omega) g hg⟩
    · rw [List.length_append] at hj
      simp only [List.length_cons, List.length_nil] at hj
      by_cases hjl : j = ds.length
      · simp only [if_pos hjl]
        rcases hG.moved g hg with hm | hm
        · exact fun h => hvT g hm h.1
        · exact fun h => by have := h.2; omega
      · simp only [if_neg hjl]
        rcases hG.moved g hg with hm | hm
        · exact fun h => k4 j (by omega) g hm h.1
        · exact fun h => by have := h.2; omega
    · rw [List.length_append] at hj hk
      simp only [List.length_cons, List.length_nil] at hj hk
      by_cases hjn : j = ds.length
      · by_cases hkl : k = ds.length
        · omega
        · simp only [if_pos hjn, if_neg hkl]; exact fun x hx hx' => hd x hx.1 ((k3 k (by omega)).1 x hx'.1)
      · by_cases hkl : k = ds.length
        · simp only [if_neg hjn, if_pos hkl]; exact fun x hx hx' => hd x hx'.1 ((k3 j (by omega)).1 x hx.1)
        · simp only [if_neg hjn, if_neg hkl]; exact fun x hx hx' => k5 j k (by omega) (by omega) hjk x hx.1 hx'.1

/-- 'make([]T, n)' of nil slices -/
theorem wp_mkO (hO : Local O) {P : Program} (w : World) {ops : Array Oper} {rest : List Oper} {o : Oper} {a : Act} {Q : Exit → Act → World → Prop} (hgd : o.guard = none) (l c : Operand) (t : TypeId) (ho : o.op = Op.makeSlice t l c)
    (i : TypeInfo) (ht : P.underlying t = some (.slice e)) (hi : P.info? e = some i) (hz : i.zero = some (.slice none 0 0)) (hsize : i.size = 1) (hby : i.bytes = 24)
    (kl kc : IntKind) (L C : Int) (n : Nat) (hl : a.eval l = .int kl L) (hc : a.eval c = .int kc C) (hL : L = (n : Int)) (hC : C = (n : Int)) (hn : n ≤ 1000000000)
    (h : ∀ w', ON e O w' (win w.heap.size w'.heap.size) (.slice (some ⟨w.heap.size, 0, none⟩) n n) (List.replicate n []) → Below w.heap.size w w' → w.heap.size < w'.heap.size → wpList P ops Q rest (a.put o.dst (.slice (some ⟨w.heap.size, 0, none⟩) n n)) w') :
    wpList P ops Q (o :: rest) a w := by
  refine wpList_make_full w hgd l c t ho 0 e i (.slice none 0 0) 1 ht hi hz hsize kl kc L C n hl hc hL hC (by rw [hby]; omega) (by unfold maxLen; omega) (Nat.zero_le _) ?_
  intro w' hown hg
  rw [Nat.mul_one, show (Value.slice none 0 0).cells = #[.slice none 0 0] from rfl, toList_madeCells_one] at hown
  have hlt := own_lt hown (g := w.heap.size) rfl
  refine h w' ⟨List.replicate n (.slice none 0 0), fun _ _ => False, by rw [List.length_replicate]; exact hown, fun g hg => ?_, fun j hj => ?_, fun j hj g hg h => h, fun j k _ _ _ x hx => hx.elim⟩ ((Below.refl _ _).grown hg (Nat.le_refl _) (by intro k hk; cases hk)) hlt.2
  · obtain rfl : w.heap.size = g := Option.some.inj hg
    exact ⟨Nat.le_refl _, hlt.2⟩
  · rw [List.length_replicate] at hj
    refine ⟨fun k hk => hk.elim, ?_⟩
    rw [grep_at _ _ _ _ hj, grep_at _ _ _ _ hj]
    exact hO.nil _ _
end

def O2 := ON 22 O1
theorem local_O2 : Local O2 := local_ON local_O1
theorem O2.rd {w : World} {S : Nat → Prop} {v : Value} {xss : List (List Int)} (h : O2 w S v xss) : Rd2 w v xss := by
  obtain ⟨vs, T, h1, h2, h3, h4, h5⟩ := h
  exact ⟨vs, rdV_of_own h1, by have := h1.1; omega, fun i hi => (h3 i hi).2.rd⟩
--== three levels
def O3 := ON 23 O2
theorem local_O3 : Local O3 := local_ON local_O2
theorem O3.rd {w : World} {S : Nat → Prop} {v : Value} {xsss : List (List (List Int))} (h : O3 w S v xsss) : Rd3 w v xsss := by
  obtain ⟨vs, T, h1, h2, h3, h4, h5⟩ := h
  exact ⟨vs, rdV_of_own h1, by have := h1.1; omega, fun i hi => (h3 i hi).2.rd⟩

--== plain (Help)
/-- what a call returns that makes a list of lists -/
def RetO {α : Type} (O : World → (Nat → Prop) → Value → List α → Prop) (w : World) (d : List α) (e : Ending) (w' : World) : Prop := ∃ v, e = .returned v ∧ O w' (win w.heap.size w'.heap.size) v d ∧ Below w.heap.size w w'
theorem Ints.o1 {w : World} {B : Nat} {v : Value} {xs : List Int} (h : Ints w B v xs) : O1 w (win B w.heap.size) v xs := ⟨h.mono (Nat.zero_le _), fun g hg => h.lt g hg⟩

--== a row that is filled by index
def fillR {α : Type} (ds : List (List α)) (j : Nat) : List (List α) := ds.take j ++ List.replicate (ds.length - j) []
theorem fillR_length {α : Type} (ds : List (List α)) (j : Nat) (h : j ≤ ds.length) : (fillR ds j).length = ds.length := by simp [fillR]; omega
theorem fillR_zero {α : Type} (ds : List (List α)) : fillR ds 0 = List.replicate ds.length [] := by simp [fillR]
theorem fillR_all {α : Type} (ds : List (List α)) : fillR ds ds.length = ds := by simp [fillR]
theorem fillR_set {α : Type} (ds : List (List α)) (j : Nat) (h : j < ds.length) : (fillR ds j).set j (ds.getD j []) = fillR ds (j + 1) := by
  unfold fillR
  rw [take_snoc ds j [] h, List.set_append_right _ _ (by simp; omega)]
  have : ds.length - j = (ds.length - (j + 1)) + 1 := by omega
  rw [this, List.replicate_succ]
  simp [List.length_take, Nat.min_eq_left (Nat.le_of_lt h)]
theorem len_le_cat (xss : List (List Int)) (j : Nat) (h : j < xss.length) : (xss.getD j []).length ≤ (cat xss).length := by
  have h1 := flat_le xss (j + 1)
  rw [flat_succ xss j h, List.length_append] at h1
  omega

--== laws.toInt64SS
set_option maxHeartbeats 2000000 in
theorem l_toInt64SS (v : Value) (xss : List (List Int)) (w : World) (hv : Rd2 w v xss) (hs : xss.length ≤ 1000000000) (hc : (cat xss).length ≤ 1000000000) :
    Calls Tryd.prog 15 #[v] w (RetO O2 w xss) := by
  obtain ⟨i0, hi, hz0, hz1, hz2⟩ := info_parts Tryd.infoRow
  obtain ⟨ao, cap, rfl, _, _, hA⟩ := hv.open
  go_enter Tryd.func15, Tryd.ntmps15
  go_wp2_with (at_make; refine wp_mkO local_O1 _ rfl _ _ 23 rfl i0 Tryd.underlying23 hi hz0 hz1 hz2 _ _ _ _ xss.length rfl rfl rfl rfl (by omega) ?_)
  intro w1 hI0 hB0 hgt
  have hI0' : O2 w1 (win w.heap.size w1.heap.size) (.slice (some ⟨w.heap.size, 0, none⟩) xss.length xss.length) (fillR xss 0) := by rw [fillR_zero]; exact hI0
  clear hI0
  go_wp2_with fail
  go_loopw [4] (fun i wr => ∃ j : Nat, j ≤ xss.length ∧ i = .int .i64 j ∧ O2 wr (win w.heap.size wr.heap.size) (.slice (some ⟨w.heap.size, 0, none⟩) xss.length xss.length) (fillR xss j) ∧ Below w.heap.size w wr) (fun i _ => xss.length - (intOf i).toNat)
  case atStart => exact ⟨0, Nat.zero_le _, rfl, hI0', hB0⟩
  case round =>
    clear hI0' hB0 hgt
    obtain ⟨j, hj, rfl, hI, hB⟩ := hrel
    have hS := hB.size
    by_cases hlt : j < xss.length
    · rcases hA with hA | ⟨b, off, rfl, hA⟩
      · omega
      obtain ⟨r, hc0, hr⟩ := hA j hlt
      have hcell : wr.cell? ⟨b, off + j, none⟩ = some r := (hB.cell (World.block_lt_of_cell? w _ hc0)).trans hc0
      have hr' := hr.below hB
      have hlen := len_le_cat xss j hlt
      have HF := Lib.hid (fillR_set xss j hlt)
      have HL := Lib.hid (fillR_length xss j hj)
      clear hA hc0 hr
      generalize xss.getD j [] = x at *
      go_wp2_with fail
      refine (l_toInt64S _ x _ hr' (by omega)).mono ?_
      rintro e w2 ⟨v2, rfl, hI2, hB2⟩
      have hI' := local_O2.below hI hB2
      have ho2 := hI2.o1
      have hS2 := hB2.size
      obtain ⟨ao', cap', he, _, _, hopen⟩ := ON.open hI'
      obtain ⟨h1, h2⟩ := ON.set local_O1 HL.out.symm hI' (by rw [HL.out]; exact hlt) ho2 (fun k hk hk' => by unfold win at hk hk'; omega)
      rw [HF.out] at h1
      rcases hopen with hopen | ⟨g, rfl, _, _, hopen⟩
      · rw [HL.out] at hopen; omega
      · rw [HL.out] at he
        simp only [Value.slice.injEq, Option.some.injEq, Addr.mk.injEq, and_true, true_and] at he
        obtain ⟨rfl, rfl⟩ := he
        obtain ⟨hfz, r0, hcell0⟩ := hopen j (by rw [HL.out]; exact hlt)
        have hB3 := (hB.trans (hB2.mono hS)).trans (h2.below (Nat.le_refl _) (by omega))
        obtain ⟨ao2, cap2, rfl, _, _⟩ := hI2.form
        have h1' := local_O2.mono h1 (S' := win w.heap.size w2.heap.size) (fun k _ hk => by unfold win at hk ⊢; omega)
        clear hopen hI hI' h2 hI2 ho2 h1
        go_wp2_with fail
        go_roundw
        case rel => exact ⟨j + 1, by omega, by go_num, by simpa [O2] using h1', hB3⟩
        case measure => simp [intOf]; omega
    · obtain rfl : j = xss.length := by omega
      rw [fillR_all] at hI
      go_wp2
      go_ret
      exact ⟨_, rfl, hI, hB⟩
--== readings and draws
theorem Rd.drewN {w : World} {n : Nat} {v : Value} {xs : List Int} (h : Rd w v xs) : Rd (w.drewN n) v xs := h
theorem Rd2.drewN {w : World} {n : Nat} {v : Value} {xs : List (List Int)} (h : Rd2 w v xs) : Rd2 (w.drewN n) v xs := h
--== laws.eqInt64SS
theorem l_eqInt64S_q (va vb : Value) (xs : List Int) (w : World) (ha : Rd w va xs) (hb : Rd w vb xs) : Calls Tryd.prog 19 #[va, vb] w (RetQuiet w (.bool true)) :=
  (l_eqInt64S va vb xs xs w ha hb).mono fun _ _ h => by simpa [RetQuiet] using h
set_option maxHeartbeats 2000000 in
theorem l_eqInt64SS_q (va vb : Value) (xss : List (List Int)) (w : World) (ha : Rd2 w va xss) (hb : Rd2 w vb xss) : Calls Tryd.prog 20 #[va, vb] w (RetQuiet w (.bool true)) := by
  obtain ⟨ao, cap, rfl, _, _, hA⟩ := ha.open
  obtain ⟨bo, cap', rfl, _, _, hB⟩ := hb.open
  go_enter Tryd.func20, Tryd.ntmps20
  go_wp2_with fail
  go_loopw [5] (fun i wr => ∃ k : Nat, k ≤ xss.length ∧ i = .int .i64 k ∧ ∃ n, wr = w.drewN n) (fun i _ => xss.length - (intOf i).toNat)
  case atStart => exact ⟨0, Nat.zero_le _, rfl, 0, rfl⟩
  case round =>
    obtain ⟨k, hk, rfl, n, hn⟩ := hrel
    have HN := Lib.hid hn
    clear hn
    by_cases hlt : k < xss.length
    · rcases hA with hA | ⟨b, off, rfl, hA⟩
      · omega
      rcases hB with hB | ⟨b', off', rfl, hB⟩
      · omega
      obtain ⟨r, hc0, hr0⟩ := hA k hlt
      obtain ⟨r', hc0', hr0'⟩ := hB k hlt
      have hcell : wr.cell? ⟨b, off + k, none⟩ = some r := by rw [HN.out]; exact hc0
      have hcell' : wr.cell? ⟨b', off' + k, none⟩ = some r' := by rw [HN.out]; exact hc0'
      have hr : Rd wr r (xss.getD k []) := by rw [HN.out]; exact hr0
      have hr' : Rd wr r' (xss.getD k []) := by rw [HN.out]; exact hr0'
      clear hA hB hc0 hc0' hr0 hr0'
      generalize xss.getD k [] = x at *
      go_wp2_with fail
      go_quiet ((go_at_call 19; exact Calls.quiet_of (l_eqInt64S_q _ _ x _ (Rd.drewN hr) (Rd.drewN hr'))))
      go_wp2_with fail
      go_roundw
      case rel => exact ⟨k + 1, by omega, by go_num, by rw [HN.out]; exact drewN_drewN _ _ _⟩
      case measure => simp [intOf]; omega
    · go_wp2_with fail
      go_ret
      exact ⟨rfl, n, HN.out⟩
theorem l_eqInt64SS_same (va vb : Value) (xss : List (List Int)) (w : World) (ha : Rd2 w va xss) (hb : Rd2 w vb xss) : Calls Tryd.prog 20 #[va, vb] w (RetV w (.bool true)) :=
  (l_eqInt64SS_q va vb xss w ha hb).mono fun _ _ h => h.below
--== marks of lists of lists
def off2 (xss : List (List Int)) (i : Nat) : Nat := (cat (xss.take i)).length
theorem off2_succ (xss : List (List Int)) (j : Nat) (h : j < xss.length) : off2 xss (j + 1) = off2 xss j + (xss.getD j []).length := by
  unfold off2; rw [flat_succ xss j h, List.length_append]
theorem off2_all (xss : List (List Int)) : off2 xss xss.length = (cat xss).length := by unfold off2; rw [List.take_length]
theorem off2_le (xss : List (List Int)) (j : Nat) : off2 xss j ≤ (cat xss).length := flat_le xss j
/-- the first j rows marked -/
def M2 (k : Int) (xss : List (List Int)) (j : Nat) : List (List Int) := (List.range xss.length).map fun i => if i < j then marks (k + off2 xss i) (xss.getD i []).length else xss.getD i []
theorem M2_length (k : Int) (xss : List (List Int)) (j : Nat) : (M2 k xss j).length = xss.length := by simp [M2]
theorem M2_getD (k : Int) (xss : List (List Int)) (j i : Nat) (h : i < xss.length) : (M2 k xss j).getD i [] = if i < j then marks (k + off2 xss i) (xss.getD i []).length else xss.getD i [] := by
  unfold M2; rw [List.getD_eq_getElem?_getD, List.getElem?_map, List.getElem?_range h]; rfl
theorem ext_get {β : Type} {xs ys : List (List β)} (hl : xs.length = ys.length) (h : ∀ j, j < xs.length → xs.getD j [] = ys.getD j []) : xs = ys := by
  apply List.ext_getElem hl
  intro j h1 h2
  have := h j h1
  simpa [List.getD, h1, h2] using this
theorem M2_zero (k : Int) (xss : List (List Int)) : M2 k xss 0 = xss := by
  refine ext_get (M2_length _ _ _) fun j hj => ?_
  rw [M2_length] at hj
  rw [M2_getD _ _ _ _ hj, if_neg (by omega)]
theorem M2_set (k : Int) (xss : List (List Int)) (j : Nat) (h : j < xss.length) : (M2 k xss j).set j (marks (k + off2 xss j) (xss.getD j []).length) = M2 k xss (j + 1) := by
  refine ext_get (by simp [M2_length]) fun i hi => ?_
  rw [List.length_set, M2_length] at hi
  by_cases e : j = i
  · subst e
    rw [gset_self _ _ _ _ (by rw [M2_length]; exact h), M2_getD _ _ _ _ h, if_pos (by omega)]
  · rw [gset_ne _ _ _ _ _ e, M2_getD _ _ _ _ hi, M2_getD _ _ _ _ hi]
    by_cases h2 : i < j
    · rw [if_pos h2, if_pos (by omega)]
    · rw [if_neg h2, if_neg (by omega)]

--== sizes
def szI (n : Nat) (left : Int) : Int := if (n : Int) ≤ left then left - n else -1
theorem szI_in {n : Nat} {left : Int} (h : (n : Int) ≤ left) : szI n left = left - n := if_pos h
theorem szI_out {n : Nat} {left : Int} (h : ¬ (n : Int) ≤ left) : szI n left = -1 := if_neg h
def size2 (xss : List (List Int)) : Nat := xss.length + (cat xss).length
--== laws.szInt64S
theorem l_szInt64S (v : Value) (xs : List Int) (left : Int) (w : World) (hv : Rd w v xs) (h0 : 0 ≤ left) (h1 : left ≤ 1000000000) :
    Calls Tryd.prog 9 #[v, .int .i64 left] w fun e w' => e = .returned (.int .i64 (szI xs.length left)) ∧ w = w' := by
  obtain ⟨ao, cap, rfl, _, _⟩ := hv.form
  by_cases h : (xs.length : Int) ≤ left
  · have HS := Lib.hid (szI_in h)
    go_enter Tryd.func9, Tryd.ntmps9
    go_wp2_with fail
    go_ret
    exact ⟨ret_int HS.out.symm, rfl⟩
  · have HS := Lib.hid (szI_out h)
    go_enter Tryd.func9, Tryd.ntmps9
    go_wp2_with fail
    go_ret
    exact ⟨ret_int HS.out.symm, rfl⟩
--== laws.szInt64SS
set_option maxHeartbeats 2000000 in
theorem l_szInt64SS (v : Value) (xss : List (List Int)) (left : Int) (w : World) (hv : Rd2 w v xss) (h0 : 0 ≤ left) (h1 : left ≤ 1000000000) :
    Calls Tryd.prog 10 #[v, .int .i64 left] w fun e w' => e = .returned (.int .i64 (szI (size2 xss) left)) ∧ w = w' := by
  obtain ⟨ao, cap, rfl, _, hcap, hA⟩ := hv.open
  by_cases h : (xss.length : Int) ≤ left
  · go_enter Tryd.func10, Tryd.ntmps10
    go_wp2_with fail
    go_loop [1, 5] (fun u i => ∃ j : Nat, j ≤ xss.length ∧ i = .int .i64 j ∧ u = .int .i64 (left - xss.length - off2 xss j) ∧ (xss.length : Int) + off2 xss j ≤ left) (fun _ i => xss.length - (intOf i).toNat)
    case atStart => exact ⟨0, Nat.zero_le _, rfl, by simp [off2, cat], by simp [off2, cat]; omega⟩
    case round =>
      obtain ⟨j, hj, rfl, rfl, hle⟩ := hrel
      by_cases hlt : j < xss.length
      · rcases hA with hA | ⟨b, off, rfl, hA⟩
        · omega
        obtain ⟨r, hcell, hr⟩ := hA j hlt
        have HO := Lib.hid (off2_succ xss j hlt)
        have HO1 := Lib.hid (off2_le xss (j + 1))
        clear hA
        generalize xss.getD j [] = x at *
        by_cases hin : (x.length : Int) ≤ left - xss.length - off2 xss j
        · have HS := Lib.hid (szI_in hin)
          have hle2 : Hid ((xss.length : Int) + off2 xss (j + 1) ≤ left) := by show _ ≤ _; rw [HO.out]; omega
          go_wp2_with fail
          refine (l_szInt64S _ x _ _ hr (by omega) (by omega)).mono ?_
          rintro e w2 ⟨rfl, rfl⟩
          rw [HS.out]
          go_wp2_with fail
          go_round
          case rel => exact ⟨j + 1, by omega, by go_num, by rw [HO.out]; go_num, hle2.out⟩
          case measure => simp [intOf]; omega
        · have HS := Lib.hid (szI_out hin)
          have HT : Hid (szI (size2 xss) left = -1) := szI_out (by
            have h1 := HO.out
            have h2 := HO1.out
            unfold size2; omega)
          go_wp2_with fail
          refine (l_szInt64S _ x _ _ hr (by omega) (by omega)).mono ?_
          rintro e w2 ⟨rfl, rfl⟩
          rw [HS.out]
          go_wp2_with fail
          go_ret
          exact ⟨ret_int HT.out.symm, rfl⟩
      · obtain rfl : j = xss.length := by omega
        have HT : Hid (szI (size2 xss) left = left - xss.length - off2 xss xss.length) := by
          show _ = _
          rw [szI_in (by unfold size2; rw [← off2_all]; omega), off2_all]; unfold size2; omega
        go_wp2_with fail
        go_ret
        exact ⟨ret_int HT.out.symm, rfl⟩
  · have HT : Hid (szI (size2 xss) left = -1) := szI_out (by unfold size2; omega)
    go_enter Tryd.func10, Tryd.ntmps10
    go_wp2_with fail
    go_ret
    exact ⟨ret_int HT.out.symm, rfl⟩

--== plain (HelpB)
theorem Rd3.drewN {w : World} {n : Nat} {v : Value} {xs : List (List (List Int))} (h : Rd3 w v xs) : Rd3 (w.drewN n) v xs := h
/-- a sum over a list -/
def tot {β : Type} (f : β → Nat) (l : List β) : Nat := (l.map f).sum
def toff {β : Type} (f : β → Nat) (l : List β) (i : Nat) : Nat := tot f (l.take i)
theorem toff_succ {β : Type} (f : β → Nat) (l : List (List β)) (g : List β → Nat) (j : Nat) (h : j < l.length) : toff g l (j + 1) = toff g l j + g (l.getD j []) := by
  unfold toff tot; rw [take_snoc l j [] h]; simp
theorem toff_all {β : Type} (f : β → Nat) (l : List β) : toff f l l.length = tot f l := by unfold toff; rw [List.take_length]
theorem toff_le {β : Type} (f : β → Nat) (l : List β) (j : Nat) : toff f l j ≤ tot f l := by
  have h : tot f l = tot f (l.take j) + tot f (l.drop j) := by
    unfold tot; rw [← List.sum_append, ← List.map_append, List.take_append_drop]
  unfold toff; omega
theorem tot_elem {β : Type} (g : List β → Nat) (l : List (List β)) (j : Nat) (h : j < l.length) : g (l.getD j []) ≤ tot g l := by
  have h1 := toff_le g l (j + 1)
  rw [toff_succ (fun _ => 0) l g j h] at h1
  omega
theorem toff_zero {β : Type} (f : β → Nat) (l : List β) : toff f l 0 = 0 := by simp [toff, tot]
def lenc (x : List (List Int)) : Nat := (cat x).length
def tot3 (x : List (List (List Int))) : Nat := tot lenc x
def off3 (x : List (List (List Int))) (i : Nat) : Nat := toff lenc x i
theorem off3_succ (x : List (List (List Int))) (j : Nat) (h : j < x.length) : off3 x (j + 1) = off3 x j + lenc (x.getD j []) := toff_succ (fun _ => 0) x lenc j h
theorem off3_all (x : List (List (List Int))) : off3 x x.length = tot3 x := toff_all _ _
theorem off3_le (x : List (List (List Int))) (j : Nat) : off3 x j ≤ tot3 x := toff_le _ _ _
theorem len_le_tot3 (x : List (List (List Int))) (j : Nat) (h : j < x.length) : lenc (x.getD j []) ≤ tot3 x := tot_elem lenc x j h
def tots (x : List (List (List Int))) : Nat := tot List.length x
theorem len_le_tots (x : List (List (List Int))) (j : Nat) (h : j < x.length) : (x.getD j []).length ≤ tots x := tot_elem List.length x j h
def M3 (k : Int) (x : List (List (List Int))) (j : Nat) : List (List (List Int)) := (List.range x.length).map fun i => if i < j then M2 (k + off3 x i) (x.getD i []) (x.getD i []).length else x.getD i []
theorem M3_length (k : Int) (x : List (List (List Int))) (j : Nat) : (M3 k x j).length = x.length := by simp [M3]
theorem M3_getD (k : Int) (x : List (List (List Int))) (j i : Nat) (h : i < x.length) : (M3 k x j).getD i [] = if i < j then M2 (k + off3 x i) (x.getD i []) (x.getD i []).length else x.getD i [] := by
  unfold M3; rw [List.getD_eq_getElem?_getD, List.getElem?_map, List.getElem?_range h]; rfl
theorem M3_zero (k : Int) (x : List (List (List Int))) : M3 k x 0 = x := by
  refine ext_get (M3_length _ _ _) fun j hj => ?_
  rw [M3_length] at hj
  rw [M3_getD _ _ _ _ hj, if_neg (by omega)]
theorem M3_set (k : Int) (x : List (List (List Int))) (j : Nat) (h : j < x.length) : (M3 k x j).set j (M2 (k + off3 x j) (x.getD j []) (x.getD j []).length) = M3 k x (j + 1) := by
  refine ext_get (by simp [M3_length]) fun i hi => ?_
  rw [List.length_set, M3_length] at hi
  by_cases e : j = i
  · subst e
    rw [gset_self _ _ _ _ (by rw [M3_length]; exact h), M3_getD _ _ _ _ h, if_pos (by omega)]
  · rw [gset_ne _ _ _ _ _ e, M3_getD _ _ _ _ hi, M3_getD _ _ _ _ hi]
    by_cases h2 : i < j
    · rw [if_pos h2, if_pos (by omega)]
    · rw [if_neg h2, if_neg (by omega)]
theorem Tryd.infoRow2 : (Tryd.prog.info? 23).map (fun i => (i.zero, i.size, i.bytes)) = some (some (.slice none 0 0), 1, 24) := by kernel_rfl
--== laws.toInt64SSS
set_option maxHeartbeats 2000000 in
theorem l_toInt64SSS (v : Value) (xss : List (List (List Int))) (w : World) (hv : Rd3 w v xss) (hs : xss.length ≤ 1000000000) (hc : tot3 xss ≤ 1000000000) (hts : tots xss ≤ 1000000000) :
    Calls Tryd.prog 16 #[v] w (RetO O3 w xss) := by
  obtain ⟨i0, hi, hz0, hz1, hz2⟩ := info_parts Tryd.infoRow2
  obtain ⟨ao, cap, rfl, _, _, hA⟩ := hv.open
  go_enter Tryd.func16, Tryd.ntmps16
  go_wp2_with (at_make; refine wp_mkO local_O2 _ rfl _ _ 24 rfl i0 Tryd.underlying24 hi hz0 hz1 hz2 _ _ _ _ xss.length rfl rfl rfl rfl (by omega) ?_)
  intro w1 hI0 hB0 hgt
  have hI0' : O3 w1 (win w.heap.size w1.heap.size) (.slice (some ⟨w.heap.size, 0, none⟩) xss.length xss.length) (fillR xss 0) := by rw [fillR_zero]; exact hI0
  clear hI0
  go_wp2_with fail
  go_loopw [4] (fun i wr => ∃ j : Nat, j ≤ xss.length ∧ i = .int .i64 j ∧ O3 wr (win w.heap.size wr.heap.size) (.slice (some ⟨w.heap.size, 0, none⟩) xss.length xss.length) (fillR xss j) ∧ Below w.heap.size w wr) (fun i _ => xss.length - (intOf i).toNat)
  case atStart => exact ⟨0, Nat.zero_le _, rfl, hI0', hB0⟩
  case round =>
    clear hI0' hB0 hgt
    obtain ⟨j, hj, rfl, hI, hB⟩ := hrel
    have hS := hB.size
    by_cases hlt : j < xss.length
    · rcases hA with hA | ⟨b, off, rfl, hA⟩
      · omega
      obtain ⟨r, hc0, hr⟩ := hA j hlt
      have hcell : wr.cell? ⟨b, off + j, none⟩ = some r := (hB.cell (World.block_lt_of_cell? w _ hc0)).trans hc0
      have hr' := hr.below hB
      have hlen := len_le_tot3 xss j hlt
      have hlens := len_le_tots xss j hlt
      unfold lenc at hlen
      have HF := Lib.hid (fillR_set xss j hlt)
      have HL := Lib.hid (fillR_length xss j hj)
      clear hA hc0 hr
      generalize xss.getD j [] = x at *
      go_wp2_with fail
      refine (l_toInt64SS _ x _ hr' (by omega) (by omega)).mono ?_
      rintro e w2 ⟨v2, rfl, hI2, hB2⟩
      have hI' := local_O3.below hI hB2
      have ho2 := hI2
      have hS2 := hB2.size
      obtain ⟨ao', cap', he, _, _, hopen⟩ := ON.open hI'
      obtain ⟨h1, h2⟩ := ON.set local_O2 HL.out.symm hI' (by rw [HL.out]; exact hlt) ho2 (fun k hk hk' => by unfold win at hk hk'; omega)
      rw [HF.out] at h1
      rcases hopen with hopen | ⟨g, rfl, _, _, hopen⟩
      · rw [HL.out] at hopen; omega
      · rw [HL.out] at he
        simp only [Value.slice.injEq, Option.some.injEq, Addr.mk.injEq, and_true, true_and] at he
        obtain ⟨rfl, rfl⟩ := he
        obtain ⟨hfz, r0, hcell0⟩ := hopen j (by rw [HL.out]; exact hlt)
        have hB3 := (hB.trans (hB2.mono hS)).trans (h2.below (Nat.le_refl _) (by omega))
        obtain ⟨ao2, cap2, rfl, _, _⟩ := hI2.rd.form
        have h1' := local_O3.mono h1 (S' := win w.heap.size w2.heap.size) (fun k _ hk => by unfold win at hk ⊢; omega)
        clear hopen hI hI' h2 hI2 ho2 h1
        go_wp2_with fail
        go_roundw
        case rel => exact ⟨j + 1, by omega, by go_num, by simpa [O3] using h1', hB3⟩
        case measure => simp [intOf]; omega
    · obtain rfl : j = xss.length := by omega
      rw [fillR_all] at hI
      go_wp2
      go_ret
      exact ⟨_, rfl, hI, hB⟩
--== laws.eqInt64SSS
set_option maxHeartbeats 2000000 in
theorem l_eqInt64SSS_q (va vb : Value) (xss : List (List (List Int))) (w : World) (ha : Rd3 w va xss) (hb : Rd3 w vb xss) : Calls Tryd.prog 21 #[va, vb] w (RetQuiet w (.bool true)) := by
  obtain ⟨ao, cap, rfl, _, _, hA⟩ := ha.open
  obtain ⟨bo, cap', rfl, _, _, hB⟩ := hb.open
  go_enter Tryd.func21, Tryd.ntmps21
  go_wp2_with fail
  go_loopw [5] (fun i wr => ∃ k : Nat, k ≤ xss.length ∧ i = .int .i64 k ∧ ∃ n, wr = w.drewN n) (fun i _ => xss.length - (intOf i).toNat)
  case atStart => exact ⟨0, Nat.zero_le _, rfl, 0, rfl⟩
  case round =>
    obtain ⟨k, hk, rfl, n, hn⟩ := hrel
    have HN := Lib.hid hn
    clear hn
    by_cases hlt : k < xss.length
    · rcases hA with hA | ⟨b, off, rfl, hA⟩
      · omega
      rcases hB with hB | ⟨b', off', rfl, hB⟩
      · omega
      obtain ⟨r, hc0, hr0⟩ := hA k hlt
      obtain ⟨r', hc0', hr0'⟩ := hB k hlt
      have hcell : wr.cell? ⟨b, off + k, none⟩ = some r := by rw [HN.out]; exact hc0
      have hcell' : wr.cell? ⟨b', off' + k, none⟩ = some r' := by rw [HN.out]; exact hc0'
      have hr : Rd2 wr r (xss.getD k []) := by rw [HN.out]; exact hr0
      have hr' : Rd2 wr r' (xss.getD k []) := by rw [HN.out]; exact hr0'
      clear hA hB hc0 hc0' hr0 hr0'
      generalize xss.getD k [] = x at *
      go_wp2_with fail
      go_quiet ((go_at_call 20; exact Calls.quiet_of (l_eqInt64SS_q _ _ x _ (Rd2.drewN hr) (Rd2.drewN hr'))))
      go_wp2_with fail
      go_roundw
      case rel => exact ⟨k + 1, by omega, by go_num, by rw [HN.out]; exact drewN_drewN _ _ _⟩
      case measure => simp [intOf]; omega
    · go_wp2_with fail
      go_ret
      exact ⟨rfl, n, HN.out⟩
theorem l_eqInt64SSS_same (va vb : Value) (xss : List (List (List Int))) (w : World) (ha : Rd3 w va xss) (hb : Rd3 w vb xss) : Calls Tryd.prog 21 #[va, vb] w (RetV w (.bool true)) :=
  (l_eqInt64SSS_q va vb xss w ha hb).mono fun _ _ h => h.below
--== sizes
--needs toff
def size3 (x : List (List (List Int))) : Nat := x.length + tot size2 x
theorem tsize_succ (x : List (List (List Int))) (j : Nat) (h : j < x.length) : toff size2 x (j + 1) = toff size2 x j + size2 (x.getD j []) := toff_succ (fun _ => 0) x size2 j h
--== laws.szInt64SSS
set_option maxHeartbeats 2000000 in
theorem l_szInt64SSS (v : Value) (xss : List (List (List Int))) (left : Int) (w : World) (hv : Rd3 w v xss) (h0 : 0 ≤ left) (h1 : left ≤ 1000000000) :
    Calls Tryd.prog 11 #[v, .int .i64 left] w fun e w' => e = .returned (.int .i64 (szI (size3 xss) left)) ∧ w = w' := by
  obtain ⟨ao, cap, rfl, _, hcap, hA⟩ := hv.open
  by_cases h : (xss.length : Int) ≤ left
  · go_enter Tryd.func11, Tryd.ntmps11
    go_wp2_with fail
    go_loop [1, 5] (fun u i => ∃ j : Nat, j ≤ xss.length ∧ i = .int .i64 j ∧ u = .int .i64 (left - xss.length - toff size2 xss j) ∧ (xss.length : Int) + toff size2 xss j ≤ left) (fun _ i => xss.length - (intOf i).toNat)
    case atStart => exact ⟨0, Nat.zero_le _, rfl, by simp [toff_zero], by simp [toff_zero]; omega⟩
    case round =>
      obtain ⟨j, hj, rfl, rfl, hle⟩ := hrel
      by_cases hlt : j < xss.length
      · rcases hA with hA | ⟨b, off, rfl, hA⟩
        · omega
        obtain ⟨r, hcell, hr⟩ := hA j hlt
        have HO := Lib.hid (tsize_succ xss j hlt)
        have HO1 := Lib.hid (toff_le size2 xss (j + 1))
        clear hA
        generalize xss.getD j [] = x at *
        by_cases hin : (size2 x : Int) ≤ left - xss.length - toff size2 xss j
        · have HS := Lib.hid (szI_in hin)
          have hle2 : Hid ((xss.length : Int) + toff size2 xss (j + 1) ≤ left) := by show _ ≤ _; rw [HO.out]; omega
          go_wp2_with fail
          refine (l_szInt64SS _ x _ _ hr (by omega) (by omega)).mono ?_
          rintro e w2 ⟨rfl, rfl⟩
          rw [HS.out]
          go_wp2_with fail
          go_round
          case rel => exact ⟨j + 1, by omega, by go_num, by rw [HO.out]; go_num, hle2.out⟩
          case measure => simp [intOf]; omega
        · have HS := Lib.hid (szI_out hin)
          have HT : Hid (szI (size3 xss) left = -1) := szI_out (by
            have h1 := HO.out
            have h2 := HO1.out
            unfold size3; omega)
          go_wp2_with fail
          refine (l_szInt64SS _ x _ _ hr (by omega) (by omega)).mono ?_
          rintro e w2 ⟨rfl, rfl⟩
          rw [HS.out]
          go_wp2_with fail
          go_ret
          exact ⟨ret_int HT.out.symm, rfl⟩
      · obtain rfl : j = xss.length := by omega
        have HT : Hid (szI (size3 xss) left = left - xss.length - toff size2 xss xss.length) := by
          show _ = _
          rw [szI_in (by unfold size3; rw [← toff_all]; omega), toff_all]; unfold size3; omega
        go_wp2_with fail
        go_ret
        exact ⟨ret_int HT.out.symm, rfl⟩
  · have HT : Hid (szI (size3 xss) left = -1) := szI_out (by unfold size3; omega)
    go_enter Tryd.func11, Tryd.ntmps11
    go_wp2_with fail
    go_ret
    exact ⟨ret_int HT.out.symm, rfl⟩
--== end
end Go.Proofs.YtdagfidnjenjhaaDoor
