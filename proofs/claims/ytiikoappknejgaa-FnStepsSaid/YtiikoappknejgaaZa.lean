/-
  The vocabulary of the walks: a slice that reads as a list of integers ('Rd'), one that a call has made ('Ints'), what a call may have changed ('Chg').
  The contracts of the smallest functions: ranges, copies, comparisons, marks.
  Words: is a list a word; its reduced form; its inverse. Words: the reduced form, the inverse, the codes. slices.Reverse in place. Words: the inverse, the codes of arguments, joins. Words: the exported functions; joins.
  slices.Grow, slices.Concat, copies; products of words. Lists of lists of lists: what reads, what a call owns. The laws' helpers on lists of lists: copies, marks, comparisons, sizes. The laws' helpers on lists of lists of lists, and on presentations.
  What the walks of the laws share: an argument that came in, results and blocks that do not meet.
-/
import Derived.Test.YtiikoappknejgaaRows
import Derived.WalkKit
import Derived.WalkSpells
import Derived.WalkLawsBesides
import Derived.BigQuiet
import Derived.Deep.QuietTactic
import Derived.Deep.LoopGhost
import Derived.Deep.DeepMust
import Derived.Lib.Hide
import Derived.Lib.AppendZeros
import Derived.ProofKit
import Derived.OpenShut
import Derived.ShutString
import Derived.ChangeOld
namespace Go.Proofs.Ytiikoappknejgaa
set_option linter.unusedVariables false
set_option linter.unusedSimpArgs false
set_option maxRecDepth 100000
open Go.RowKit

theorem Try.info2 : (Try.prog.info? 2).map (fun i => (i.zero, i.size, i.bytes)) = some (some (.int .i64 0), 1, 8) := by kernel_rfl
--== bools
theorem Try.infoBool : (Try.prog.info? 4).map (fun i => (i.zero, i.size, i.bytes)) = some (some (.bool false), 1, 1) := by kernel_rfl
--== bytes
theorem Try.infoByte : (Try.prog.info? 5).map (fun i => (i.zero, i.size, i.bytes)) = some (some (.int .u8 0), 1, 1) := by kernel_rfl
--== rows
theorem Try.infoRow : (Try.prog.info? 24).map (fun i => (i.zero, i.size, i.bytes)) = some (some (.slice none 0 0), 1, 24) := by kernel_rfl
--== rest

/-- The cells of the slice value v are vs (whoever owns them). -/
def RdV (w : World) (v : Value) (vs : List Value) : Prop :=
  ∃ ao cap, v = .slice ao vs.length cap ∧ vs.length ≤ cap ∧ cap ≤ 9223372036854775807 ∧ (ao = none → cap = 0) ∧
    (vs.length = 0 ∨ ∃ b off, ao = some ⟨b, off, none⟩ ∧ ∀ j, j < vs.length → w.cell? ⟨b, off + j, none⟩ = vs[j]?)

theorem RdV.of_cells {w w' : World} {v : Value} {vs : List Value} (h : RdV w v vs) (hc : ∀ a u, w.cell? a = some u → w'.cell? a = some u) : RdV w' v vs := by
  obtain ⟨ao, cap, rfl, h1, h2, h0, h3⟩ := h
  refine ⟨ao, cap, rfl, h1, h2, h0, ?_⟩
  rcases h3 with h3 | ⟨b, off, rfl, h3⟩
  · exact .inl h3
  · refine .inr ⟨b, off, rfl, fun j hj => ?_⟩
    have := h3 j hj
    rw [List.getElem?_eq_getElem hj] at this ⊢
    exact hc _ _ this

theorem RdV.below {w w' : World} {v : Value} {vs : List Value} (h : RdV w v vs) (hb : Below w.heap.size w w') : RdV w' v vs :=
  h.of_cells fun a _ ha => (hb.cell (World.block_lt_of_cell? w a ha)).trans ha

/-- The slice value v reads as the integers xs (whoever owns its cells). -/
def Rd (w : World) (v : Value) (xs : List Int) : Prop :=
  ∃ ao cap, v = .slice ao xs.length cap ∧ xs.length ≤ cap ∧ cap ≤ 9223372036854775807 ∧ (ao = none → cap = 0) ∧
    (xs.length = 0 ∨ ∃ b off, ao = some ⟨b, off, none⟩ ∧ ∀ j, j < xs.length → w.cell? ⟨b, off + j, none⟩ = some (.int .i64 (xs.getD j 0)))

theorem Rd.of_cells {w w' : World} {v : Value} {xs : List Int} (h : Rd w v xs) (hc : ∀ a u, w.cell? a = some u → w'.cell? a = some u) : Rd w' v xs := by
  obtain ⟨ao, cap, rfl, h1, h2, h0, h3⟩ := h
  refine ⟨ao, cap, rfl, h1, h2, h0, ?_⟩
  rcases h3 with h3 | ⟨b, off, rfl, h3⟩
  · exact .inl h3
  · exact .inr ⟨b, off, rfl, fun j hj => hc _ _ (h3 j hj)⟩

theorem Rd.below {w w' : World} {v : Value} {xs : List Int} (h : Rd w v xs) (hb : Below w.heap.size w w') : Rd w' v xs :=
  h.of_cells fun a _ ha => (hb.cell (World.block_lt_of_cell? w a ha)).trans ha

theorem Rd.form {w : World} {v : Value} {xs : List Int} (h : Rd w v xs) : ∃ ao cap, v = .slice ao xs.length cap ∧ xs.length ≤ cap ∧ cap ≤ 9223372036854775807 := by
  obtain ⟨ao, cap, h1, h2, h3, _⟩ := h
  exact ⟨ao, cap, h1, h2, h3⟩

theorem Rd.nil (w : World) : Rd w (.slice none 0 0) [] := ⟨none, 0, rfl, by simp, by simp, fun _ => rfl, .inl rfl⟩

theorem getD_map_int (xs : List Int) (j : Nat) (h : j < xs.length) : (xs.map (Value.int .i64))[j]? = some (.int .i64 (xs.getD j 0)) := by
  simp [List.getD, h]

theorem RdV.ints {w : World} {v : Value} {xs : List Int} (h : RdV w v (xs.map (Value.int .i64))) : Rd w v xs := by
  obtain ⟨ao, cap, rfl, h1, h2, h0, h3⟩ := h
  simp only [List.length_map] at h1 h3 ⊢
  refine ⟨ao, cap, rfl, h1, h2, h0, ?_⟩
  rcases h3 with h3 | ⟨b, off, rfl, h3⟩
  · exact .inl h3
  · exact .inr ⟨b, off, rfl, fun j hj => (h3 j hj).trans (getD_map_int xs j hj)⟩

theorem Rd.cells {w : World} {v : Value} {xs : List Int} (h : Rd w v xs) : RdV w v (xs.map (Value.int .i64)) := by
  obtain ⟨ao, cap, rfl, h1, h2, h0, h3⟩ := h
  refine ⟨ao, cap, by simp, by simpa using h1, h2, h0, ?_⟩
  rcases h3 with h3 | ⟨b, off, rfl, h3⟩
  · exact .inl (by simpa using h3)
  · exact .inr ⟨b, off, rfl, fun j hj => by rw [h3 j (by simpa using hj), getD_map_int xs j (by simpa using hj)]⟩

/-- What is owned reads. -/
theorem rdV_of_own {w : World} {B e : Nat} {v : Value} {n : Nat} {vs : List Value} (h : w.ownsRow B e 1 v n vs) : RdV w v vs := by
  have hn : vs.length = n := by have := h.1; omega
  rcases h.2 with ⟨rfl, rfl⟩ | ⟨g, cap, cur, rfl, hb, hg, hnc, hcm, hcs, htake⟩
  · have : vs = [] := List.eq_nil_of_length_eq_zero hn
    subst this
    exact ⟨none, 0, rfl, by simp, by simp, fun _ => rfl, .inl rfl⟩
  · refine ⟨_, cap, by rw [hn], by omega, by unfold maxLen at hcm; omega, fun h => by (cases h), .inr ⟨g, 0, rfl, fun j hj => ?_⟩⟩
    rw [Nat.zero_add]
    exact h.cellAt j (by omega)

/-- The slice value v is nil, or starts at the head of a row of its own in a block from B on, whose first cells are the integers xs. -/
def Ints (w : World) (B : Nat) (v : Value) (xs : List Int) : Prop := w.ownsRow B 2 1 v xs.length (xs.map (Value.int .i64))

theorem Ints.rd {w : World} {B : Nat} {v : Value} {xs : List Int} (h : Ints w B v xs) : Rd w v xs := (rdV_of_own h).ints

theorem own_mono {w : World} {B B' e n : Nat} {v : Value} {vs : List Value} (h : w.ownsRow B e 1 v n vs) (hB : B' ≤ B) : w.ownsRow B' e 1 v n vs := by
  refine ⟨h.1, ?_⟩
  rcases h.2 with h2 | ⟨g, cap, cur, hv, hg, r⟩
  · exact .inl h2
  · exact .inr ⟨g, cap, cur, hv, Nat.le_trans hB hg, r⟩

theorem Ints.mono {w : World} {B B' : Nat} {v : Value} {xs : List Int} (h : Ints w B v xs) (hB : B' ≤ B) : Ints w B' v xs := own_mono h hB

theorem Ints.nil (w : World) (B : Nat) : Ints w B (.slice none 0 0) [] := World.ownsRow_nil _ _ _ _

/-- What is owned lies in a block that is there. -/
theorem own_lt {w : World} {B e n : Nat} {v : Value} {vs : List Value} (h : w.ownsRow B e 1 v n vs) {g : Nat} (hg : v.ownBlock = some g) : B ≤ g ∧ g < w.heap.size := h.lt g hg

theorem own_of_block {w w' : World} {B e n : Nat} {v : Value} {vs : List Value} (h : w.ownsRow B e 1 v n vs) (hb : ∀ g, v.ownBlock = some g → w'.heap[g]? = w.heap[g]?) : w'.ownsRow B e 1 v n vs := by
  refine ⟨h.1, ?_⟩
  rcases h.2 with h2 | ⟨g, cap, cur, rfl, hg, hh, r⟩
  · exact .inl h2
  · exact .inr ⟨g, cap, cur, rfl, hg, (hb g rfl).trans hh, r⟩

theorem own_below {w w' : World} {B e n : Nat} {v : Value} {vs : List Value} (h : w.ownsRow B e 1 v n vs) (hb : Below w.heap.size w w') : w'.ownsRow B e 1 v n vs :=
  own_of_block h fun g hg => hb.block g (own_lt h hg).2

theorem Ints.below {w w' : World} {B : Nat} {v : Value} {xs : List Int} (h : Ints w B v xs) (hb : Below w.heap.size w w') : Ints w' B v xs := own_below h hb

/-- w' is w, but for new blocks and for what has been written to blocks lo .. hi-1. -/
structure Chg (lo hi : Nat) (w w' : World) : Prop where
  os : w'.os = w.os
  tape : w'.tape = w.tape
  output : w'.output = w.output
  size : w.heap.size ≤ w'.heap.size
  block : ∀ k, k < w.heap.size → (k < lo ∨ hi ≤ k) → w'.heap[k]? = w.heap[k]?

theorem Chg.below {lo hi B : Nat} {w w' : World} (h : Chg lo hi w w') (h1 : B ≤ lo) (h2 : B ≤ w.heap.size) : Below B w w' :=
  ⟨h.os, h.tape, h.output, h.size, fun k hk => h.block k (by omega) (by omega)⟩

theorem Chg.of_below {w w' : World} (h : Below w.heap.size w w') (lo hi : Nat) : Chg lo hi w w' :=
  ⟨h.os, h.tape, h.output, h.size, fun k hk _ => h.block k hk⟩

theorem Chg.of_grown {w w' : World} {g : Nat} (h : w.grownBy w' (some g)) : Chg g (g + 1) w w' :=
  ⟨h.os, h.tape, h.output, h.size, fun k hk hh => h.block k hk (by intro e; cases e; omega)⟩

theorem Chg.refl (lo hi : Nat) (w : World) : Chg lo hi w w := ⟨rfl, rfl, rfl, Nat.le_refl _, fun _ _ _ => rfl⟩

theorem Chg.trans {lo hi lo' hi' lo'' hi'' : Nat} {a b c : World} (h : Chg lo hi a b) (k : Chg lo' hi' b c) (h1 : lo'' ≤ lo) (h2 : lo'' ≤ lo') (h3 : hi ≤ hi'') (h4 : hi' ≤ hi'') : Chg lo'' hi'' a c :=
  ⟨k.os.trans h.os, k.tape.trans h.tape, k.output.trans h.output, Nat.le_trans h.size k.size, fun i hi hh => (k.block i (by have := h.size; omega) (by omega)).trans (h.block i hi (by omega))⟩

theorem own_chg {w w' : World} {B e n lo hi : Nat} {v : Value} {vs : List Value} (h : w.ownsRow B e 1 v n vs) (hc : Chg lo hi w w') (hd : ∀ g, v.ownBlock = some g → g < lo ∨ hi ≤ g) : w'.ownsRow B e 1 v n vs :=
  own_of_block h fun g hg => hc.block g (own_lt h hg).2 (hd g hg)

theorem Ints.chg {w w' : World} {B lo hi : Nat} {v : Value} {xs : List Int} (h : Ints w B v xs) (hc : Chg lo hi w w') (hd : ∀ g, v.ownBlock = some g → g < lo ∨ hi ≤ g) : Ints w' B v xs := own_chg h hc hd

theorem Ints.lt {w : World} {B : Nat} {v : Value} {xs : List Int} (h : Ints w B v xs) : ∀ g, v.ownBlock = some g → B ≤ g ∧ g < w.heap.size := h.2 |> fun _ => World.ownsRow.lt h

/-- The shape of an owned slice that is not empty. -/
theorem Ints.open {w : World} {B : Nat} {v : Value} {xs : List Int} (h : Ints w B v xs) (hx : 0 < xs.length) :
    ∃ g cap, v = .slice (some ⟨g, 0, none⟩) xs.length cap ∧ B ≤ g ∧ g < w.heap.size ∧ xs.length ≤ cap ∧ cap ≤ 9223372036854775807 ∧ (∀ j, j < xs.length → w.cell? ⟨g, j, none⟩ = some (.int .i64 (xs.getD j 0))) ∧ ∀ j, w.frozen? ⟨g, j, none⟩ = false := by
  have h' := h
  rcases h'.2 with ⟨_, h0⟩ | ⟨g, cap, cur, rfl, hb, hg, hnc, hcm, hcs, htake⟩
  · omega
  · have h1 : w.ownsRow B 2 1 (.slice (some ⟨g, 0, none⟩) xs.length cap) xs.length (xs.map (Value.int .i64)) := h
    refine ⟨g, cap, rfl, hb, (own_lt h1 rfl).2, hnc, by unfold maxLen at hcm; omega, fun j hj => ?_, fun j => h1.frozenAt j⟩
    rw [h1.cellAt j (by omega), getD_map_int xs j hj]

/-- The shape of any owned slice. -/
theorem Ints.form {w : World} {B : Nat} {v : Value} {xs : List Int} (h : Ints w B v xs) : ∃ ao cap, v = .slice ao xs.length cap ∧ xs.length ≤ cap ∧ cap ≤ 9223372036854775807 := by
  obtain ⟨ao, cap, rfl, h1, h2, h3, _⟩ := h.rd
  exact ⟨ao, cap, rfl, h1, h2⟩

/-- A store into an owned slice. -/
theorem Ints.set {w : World} {B g cap : Nat} {xs : List Int} {n : Nat} (hn : n = xs.length) (h : Ints w B (.slice (some ⟨g, 0, none⟩) n cap) xs) (j : Nat) (y : Int) :
    Ints (w.setCell ⟨g, j, none⟩ (.int .i64 y)) B (.slice (some ⟨g, 0, none⟩) n cap) (xs.set j y) ∧ Chg g (g + 1) w (w.setCell ⟨g, j, none⟩ (.int .i64 y)) := by
  subst hn
  have h1 : w.ownsRow B 2 1 (.slice (some ⟨g, 0, none⟩) xs.length cap) xs.length (xs.map (Value.int .i64)) := h
  obtain ⟨a, b⟩ := h1.stored j (.int .i64 y)
  refine ⟨?_, Chg.of_grown b⟩
  unfold Ints
  rw [List.length_set, List.map_set]
  exact a

theorem Ints.take {w : World} {B g cap n m : Nat} {xs : List Int} (hn : n = xs.length) (h : Ints w B (.slice (some ⟨g, 0, none⟩) n cap) xs) (hm : m ≤ n) : Ints w B (.slice (some ⟨g, 0, none⟩) m cap) (xs.take m) := by
  subst hn
  have h1 : w.ownsRow B 2 1 (.slice (some ⟨g, 0, none⟩) xs.length cap) xs.length (xs.map (Value.int .i64)) := h
  rcases h1.2 with ⟨h', _⟩ | ⟨g', cap', cur, h', hb, hg, hnc, hcm, hcs, htake⟩
  · simp at h'
  · simp only [Value.slice.injEq, Option.some.injEq, Addr.mk.injEq, and_true, true_and] at h'
    obtain ⟨rfl, rfl⟩ := h'
    have hl : (xs.take m).length = m := by simp; omega
    refine ⟨by simp, .inr ⟨g, cap, cur, by rw [hl], hb, hg, by omega, hcm, hcs, ?_⟩⟩
    rw [hl, List.map_take, ← htake, List.take_take]
    congr 1
    omega

/-! ### append -/

theorem moved_same {v v' : Value} {n : Nat} (h : v'.ownBlock = v.ownBlock) : ∀ g, v'.ownBlock = some g → v.ownBlock = some g ∨ n ≤ g := fun _ hg => .inl (h ▸ hg)

theorem run_app {P : Program} (w : World) (B : Nat) (t ty e : TypeId) (i : TypeInfo) (z : Value) (bytes : Nat) (ht : P.underlying t = some (.slice e)) (hi : P.info? e = some i) (hz : i.zero = some z)
    (hsize : i.size = 1) (hby : i.bytes = bytes) (hzs : z.cells.size = 1) (v : Value) (n : Nat) (xs : List Value) (hown : w.ownsRow B e 1 v n xs)
    (vx : Value) (news : List Value) (hx : RdV w vx news) (h1 : ∀ u ∈ news, u.oneCell' = true) (h63 : n + news.length ≤ maxLen) (hbytes : (n + news.length) * bytes ≤ 140737488355328) (hB : B ≤ w.heap.size) :
    ∃ v' w', (Builtin.append_ #[t, t] ty #[v, vx]).run P w = .ok v' w' ∧ w'.ownsRow B e 1 v' (n + news.length) (xs ++ news) ∧ w.grownBy w' v.ownBlock ∧ ∀ g, v'.ownBlock = some g → v.ownBlock = some g ∨ w.heap.size ≤ g := by
  obtain ⟨ao, c, rfl, hc1, hc2, h0, hcell⟩ := hx
  cases ao with
  | none =>
    have hnews : news = [] := by have := h0 rfl; exact List.eq_nil_of_length_eq_zero (by omega)
    have hc : c = 0 := h0 rfl
    subst hnews hc
    exact ⟨v, w, run_append_owned_none w B t ty e i 1 ht hi v n xs hown, by simpa using hown, World.grownBy.refl _ _, moved_same rfl⟩
  | some ad =>
    have hnews : ∀ j u, news[j]? = some u → w.cell? (ad.add j) = some u := by
      intro j u hu
      have hj : j < news.length := (List.getElem?_eq_some_iff.1 hu).1
      rcases hcell with hcell | ⟨b, off, he, hcell⟩
      · omega
      · cases he
        rw [Addr.add_lit, hcell j hj, hu]
    have hxl : xs.length = n := by have := hown.1; omega
    rcases hown.2 with ⟨rfl, rfl⟩ | ⟨g, cap, cur, rfl, hbg, hg, hnc, hcm, hcs, htake⟩
    · obtain ⟨v', w', h2, h3, h4, h5⟩ := run_append_own w B t ty e i z 1 bytes ht hi hz hsize hby hzs (by decide) _ 0 xs hown ad news.length c news (by omega) hnews h1 h63 hbytes hB
      obtain ⟨v'', w'', h2', h3', h4', h5'⟩ := run_append_own w w.heap.size t ty e i z 1 bytes ht hi hz hsize hby hzs (by decide) _ 0 xs ⟨hown.1, .inl ⟨rfl, rfl⟩⟩ ad news.length c news (by omega) hnews h1 h63 hbytes (Nat.le_refl _)
      rw [h2] at h2'
      obtain ⟨rfl, rfl⟩ : v' = v'' ∧ w' = w'' := by simpa using h2'
      exact ⟨v', w', h2, h3, h4, fun k hk => .inr (h3'.lt k hk).1⟩
    · by_cases hroom : n + news.length ≤ cap
      · obtain ⟨w', h2, h3, h4⟩ := run_append_fits w B t ty e i 1 ht hi hsize g n cap xs hown ad news.length c news (by omega) hnews h1 hroom
        exact ⟨_, w', h2, h3, h4, moved_same rfl⟩
      · have holds : ∀ j u, xs[j]? = some u → w.cell? ((⟨g, 0, none⟩ : Addr).add j) = some u := hown.cells (g := g) rfl
        obtain ⟨v', w', h2, h3, h4⟩ := run_append_arg_grows w t ty e i z 1 bytes ht hi hz hsize hby hzs (by decide) ⟨g, 0, none⟩ n cap xs (by omega) holds ad news.length c news (by omega) hnews (by omega) h63 hbytes
        exact ⟨v', w', h2, own_mono h3 hB, ⟨h4.os, h4.tape, h4.output, h4.size, fun k hk _ => h4.block k hk (by simp)⟩, fun k hk => .inr (h3.lt k hk).1⟩

theorem wp_app {P : Program} (w : World) {ops : Array Oper} {rest : List Oper} {o : Oper} {a : Act} {Q : Exit → Act → World → Prop} (hgd : o.guard = none) (s x : Operand) (t : TypeId)
    (ho : o.op = .call { callee := .builtin .append, args := #[s, x], argTypes := #[t, t] })
    (B : Nat) (e : TypeId) (i : TypeInfo) (z : Value) (bytes : Nat) (ht : P.underlying t = some (.slice e)) (hi : P.info? e = some i) (hz : i.zero = some z)
    (hsize : i.size = 1) (hby : i.bytes = bytes) (hzs : z.cells.size = 1) (v : Value) (n : Nat) (xs : List Value) (hs : a.eval s = v) (hown : w.ownsRow B e 1 v n xs)
    (vx : Value) (news : List Value) (hx : a.eval x = vx) (hrd : RdV w vx news) (h1 : ∀ u ∈ news, u.oneCell' = true) (h63 : n + news.length ≤ maxLen) (hbytes : (n + news.length) * bytes ≤ 140737488355328) (hB : B ≤ w.heap.size)
    (h : ∀ v' w', w'.ownsRow B e 1 v' (n + news.length) (xs ++ news) → w.grownBy w' v.ownBlock → (∀ g, v'.ownBlock = some g → v.ownBlock = some g ∨ w.heap.size ≤ g) → wpList P ops Q rest (a.put o.dst v') w') : wpList P ops Q (o :: rest) a w := by
  refine wpList_plain hgd fun K hK' => ?_
  obtain ⟨v', w', hr, h2, h3, h4⟩ := run_app w B t o.type e i z bytes ht hi hz hsize hby hzs v n xs hown vx news hrd h1 h63 hbytes hB
  unfold Oper.wp execOp
  simp only [ho, resolve, invoke, builtin, Sem.run_bind, Sem.run_pure, Result.andThen_ok, List.map_toArray, List.map_cons, List.map_nil, hs, hx, hr]
  exact hK' _ _ (h v' w' h2 h3 h4)

/-- What an append does to the rest: v's block may be written, v' lies there or is new. -/
structure Grew (w w' : World) (v v' : Value) : Prop where
  grown : w.grownBy w' v.ownBlock
  moved : ∀ g, v'.ownBlock = some g → v.ownBlock = some g ∨ w.heap.size ≤ g

theorem Grew.below {B : Nat} {w w' : World} {v v' : Value} (h : Grew w w' v v') (hB : B ≤ w.heap.size) (hv : ∀ g, v.ownBlock = some g → B ≤ g) : Below B w w' :=
  (Below.refl B w).grown h.grown hB fun k hk => hv k hk

theorem Grew.own {w w' : World} {v v' : Value} (h : Grew w w' v v') {B e n : Nat} {u : Value} {us : List Value} (hu : w.ownsRow B e 1 u n us) (hd : ∀ g, u.ownBlock = some g → v.ownBlock ≠ some g) : w'.ownsRow B e 1 u n us :=
  own_of_block hu fun g hg => h.grown.block g (own_lt hu hg).2 fun e => hd g hg e.symm

theorem Grew.rd {w w' : World} {v v' : Value} (h : Grew w w' v v') {a : Addr} {u : Value} (hu : w.cell? a = some u) (hd : v.ownBlock ≠ some a.block) : w'.cell? a = some u :=
  h.grown.cell hu fun e => hd e.symm

/-- 'append(out, x)': one integer; the walk has laid it into a block of its own. -/
theorem wp_app1 {P : Program} (w : World) {ops : Array Oper} {rest : List Oper} {o : Oper} {a : Act} {Q : Exit → Act → World → Prop} (hgd : o.guard = none) (s x : Operand)
    (ho : o.op = .call { callee := .builtin .append, args := #[s, x], argTypes := #[24, 24] })
    (B : Nat) (i : TypeInfo) (ht : P.underlying 24 = some (.slice 2)) (hi : P.info? 2 = some i) (hz : i.zero = some (.int .i64 0)) (hsize : i.size = 1) (hby : i.bytes = 8)
    (v : Value) (xs : List Int) (hs : a.eval s = v) (hown : Ints w B v xs) (y : Int) (hx : a.eval x = .slice (some ⟨w.heap.size, 0, none⟩) 1 1) (hn : xs.length ≤ 1000000000) (hB : B ≤ w.heap.size)
    (h : ∀ v' w', Ints w' B v' (xs ++ [y]) → Grew w w' v v' → Below B w w' → wpList P ops Q rest (a.put o.dst v') w') : wpList P ops Q (o :: rest) a (w.alloc (.cells #[.int .i64 y] 2)) := by
  refine wp_app _ hgd s x 24 ho B 2 i (.int .i64 0) 8 ht hi hz hsize hby rfl v xs.length (xs.map (Value.int .i64)) hs (World.ownsRow.alloc hown _) _ [.int .i64 y] hx ?_ ?_ ?_ ?_ ?_ ?_
  · refine ⟨_, 1, rfl, by simp, by simp, fun h => by (cases h), .inr ⟨w.heap.size, 0, rfl, fun j hj => ?_⟩⟩
    obtain rfl : j = 0 := by simpa using hj
    simp
  · intro u hu; simp at hu; subst hu; rfl
  · simp [maxLen]; omega
  · simp; omega
  · simp; omega
  · intro v' w' h1 h2 h3
    have hg : Grew w w' v v' := ⟨⟨h2.os, h2.tape, h2.output, by have := h2.size; simp at this; omega, fun k hk hne => (h2.block k (by simp; omega) hne).trans (Below.heap_alloc w _ k hk)⟩, fun g hg => (h3 g hg).imp id fun h => by simp at h; omega⟩
    refine h v' w' ?_ hg (hg.below hB fun g hg => (hown.lt g hg).1)
    unfold Ints
    rw [List.length_append, List.map_append]
    exact h1

/-- 'append(out, ys...)' -/
theorem wp_appN {P : Program} (w : World) {ops : Array Oper} {rest : List Oper} {o : Oper} {a : Act} {Q : Exit → Act → World → Prop} (hgd : o.guard = none) (s x : Operand)
    (ho : o.op = .call { callee := .builtin .append, args := #[s, x], argTypes := #[24, 24] })
    (B : Nat) (i : TypeInfo) (ht : P.underlying 24 = some (.slice 2)) (hi : P.info? 2 = some i) (hz : i.zero = some (.int .i64 0)) (hsize : i.size = 1) (hby : i.bytes = 8)
    (v : Value) (xs : List Int) (hs : a.eval s = v) (hown : Ints w B v xs) (vx : Value) (ys : List Int) (hx : a.eval x = vx) (hrd : Rd w vx ys) (hn : xs.length ≤ 1000000000) (hm : ys.length ≤ 1000000000) (hB : B ≤ w.heap.size)
    (h : ∀ v' w', Ints w' B v' (xs ++ ys) → Grew w w' v v' → Below B w w' → wpList P ops Q rest (a.put o.dst v') w') : wpList P ops Q (o :: rest) a w := by
  refine wp_app _ hgd s x 24 ho B 2 i (.int .i64 0) 8 ht hi hz hsize hby rfl v xs.length (xs.map (Value.int .i64)) hs hown _ (ys.map (Value.int .i64)) hx hrd.cells (ints_oneCell _ _) ?_ ?_ hB ?_
  · simp [maxLen]; omega
  · simp; omega
  · intro v' w' h1 h2 h3
    have hg : Grew w w' v v' := ⟨h2, h3⟩
    refine h v' w' ?_ hg (hg.below hB fun g hg => (hown.lt g hg).1)
    unfold Ints
    rw [List.length_append, List.map_append]
    simpa using h1

theorem madeInts (n : Nat) : (madeCells (Value.int .i64 0).cells (n * 1)).toList = (List.replicate n (0 : Int)).map (Value.int .i64) := by
  rw [Nat.mul_one, show (Value.int .i64 0).cells = #[.int .i64 0] from rfl, toList_madeCells_one]; simp

/-- 'make([]int64, n)' -/
theorem wp_mkInts {P : Program} (w : World) {ops : Array Oper} {rest : List Oper} {o : Oper} {a : Act} {Q : Exit → Act → World → Prop} (hgd : o.guard = none) (l c : Operand) (ho : o.op = Op.makeSlice 24 l c)
    (i : TypeInfo) (ht : P.underlying 24 = some (.slice 2)) (hi : P.info? 2 = some i) (hz : i.zero = some (.int .i64 0)) (hsize : i.size = 1) (hby : i.bytes = 8)
    (kl kc : IntKind) (L C : Int) (n : Nat) (hl : a.eval l = .int kl L) (hc : a.eval c = .int kc C) (hL : L = (n : Int)) (hC : C = (n : Int)) (hn : n ≤ 1000000000)
    (h : ∀ w', Ints w' w.heap.size (.slice (some ⟨w.heap.size, 0, none⟩) n n) (List.replicate n 0) → Below w.heap.size w w' → w.heap.size < w'.heap.size → wpList P ops Q rest (a.put o.dst (.slice (some ⟨w.heap.size, 0, none⟩) n n)) w') :
    wpList P ops Q (o :: rest) a w := by
  refine wpList_make_full w hgd l c 24 ho w.heap.size 2 i (.int .i64 0) 1 ht hi hz hsize kl kc L C n hl hc hL hC (by rw [hby]; omega) (by unfold maxLen; omega) (Nat.le_refl _) ?_
  intro w' hown hg
  have hI : Ints w' w.heap.size (.slice (some ⟨w.heap.size, 0, none⟩) n n) (List.replicate n 0) := by
    unfold Ints
    rw [madeInts] at hown
    rw [List.length_replicate]
    exact hown
  exact h w' hI ((Below.refl _ _).grown hg (Nat.le_refl _) (by intro k hk; cases hk)) (hI.lt _ rfl).2

/-- What a call returns that makes a slice of integers: the slice is new, and nothing that was there has changed. -/
def RetInts (w : World) (xs : List Int) (e : Ending) (w' : World) : Prop := ∃ v, e = .returned v ∧ Ints w' w.heap.size v xs ∧ Below w.heap.size w w'
/-- The same with a code. -/
def RetInts2 (w : World) (xs : List Int) (c : Int) (e : Ending) (w' : World) : Prop := ∃ v, e = .returned (.tuple #[v, .int .i64 c]) ∧ Ints w' w.heap.size v xs ∧ Below w.heap.size w w'
/-- A call that only reads. -/
def RetQuiet (w : World) (v : Value) (e : Ending) (w' : World) : Prop := e = .returned v ∧ ∃ n, w' = w.drewN n

theorem drewN_drewN (w : World) (n m : Nat) : ∃ k, (w.drewN n).drewN m = w.drewN k := ⟨n + m, by simp [World.drewN, Nat.add_assoc]⟩
theorem drewN_zero (w : World) : ∃ k, w = w.drewN k := ⟨0, rfl⟩

theorem RetQuiet.below {w w' : World} {v : Value} {e : Ending} (h : RetQuiet w v e w') : e = .returned v ∧ Below w.heap.size w w' := by
  obtain ⟨rfl, n, rfl⟩ := h
  exact ⟨rfl, below_drewN (Below.refl _ _) n⟩

theorem below_size {w0 w w' : World} (h : Below w0.heap.size w0 w) (h' : Below w.heap.size w w') : Below w0.heap.size w0 w' := h.trans (h'.mono h.size)

theorem below_from {w w1 w' : World} {n : Nat} (h1 : Below w.heap.size w w1) (h : Below n w1 w') (hn : w.heap.size ≤ n) : Below w.heap.size w w' := h1.trans (h.mono hn)

theorem ret_bool {a b : Bool} (h : a = b) : Ending.returned (.bool a) = .returned (.bool b) := by rw [h]
theorem ret_int {k : IntKind} {a b : Int} (h : a = b) : Ending.returned (.int k a) = .returned (.int k b) := by rw [h]

/-- The call returns v, and nothing that was there has changed. -/
def RetV (w : World) (v : Value) (e : Ending) (w' : World) : Prop := e = .returned v ∧ Below w.heap.size w w'

theorem retV_same {P : Program} {f : FuncId} {args : Array Value} {w : World} {v : Value} (h : Calls P f args w fun e w' => e = .returned v ∧ w = w') : Calls P f args w (RetV w v) :=
  h.mono fun _ _ ⟨h1, h2⟩ => ⟨h1, h2 ▸ Below.refl _ _⟩

/-- The block of v, if it has one, is one of lo .. hi-1. -/
def Blk (v : Value) (lo hi : Nat) : Prop := ∀ g, v.ownBlock = some g → lo ≤ g ∧ g < hi
theorem Ints.blk {w : World} {B : Nat} {v : Value} {xs : List Int} (h : Ints w B v xs) : Blk v B w.heap.size := h.lt
theorem Grew.ints {w w' : World} {v v' u : Value} {B lo hi lo' hi' : Nat} {xs : List Int} (h : Grew w w' v v') (hu : Ints w B u xs) (bu : Blk u lo hi) (bv : Blk v lo' hi') (hd : hi ≤ lo' ∨ hi' ≤ lo) : Ints w' B u xs :=
  h.own hu fun g hg e => by have := bu g hg; have := bv g e; omega
theorem Grew.below' {w0 w w' : World} {v v' : Value} {lo hi : Nat} (h : Grew w w' v v') (h0 : Below w0.heap.size w0 w) (bv : Blk v lo hi) (hl : w0.heap.size ≤ lo) : Below w0.heap.size w0 w' :=
  h0.trans (h.below h0.size fun g hg => Nat.le_trans hl (bv g hg).1)

theorem ret_tup {v : Value} {a b : Int} (h : a = b) : Ending.returned (.tuple #[v, .int .i64 a]) = .returned (.tuple #[v, .int .i64 b]) := by rw [h]

/-! lists -/
theorem take_snoc {α : Type} (xs : List α) (k : Nat) (d : α) (h : k < xs.length) : xs.take (k + 1) = xs.take k ++ [xs.getD k d] := by
  rw [List.take_succ_eq_append_getElem h]; simp [List.getD, h]
theorem all_eq {xs ys : List Int} (hl : xs.length = ys.length) (h : ∀ j, j < xs.length → xs.getD j 0 = ys.getD j 0) : xs = ys := by
  apply List.ext_getElem hl
  intro j h1 h2
  have := h j h1
  simpa [List.getD, h1, h2] using this
theorem getD_mem {xs : List Int} {k : Nat} (h : k < xs.length) : xs.getD k 0 ∈ xs := by simp [List.getD, h]
theorem mem_getD {xs : List Int} {x : Int} (h : x ∈ xs) : ∃ k, k < xs.length ∧ xs.getD k 0 = x := by
  obtain ⟨k, hk, rfl⟩ := List.mem_iff_getElem.1 h
  exact ⟨k, hk, by simp [List.getD, hk]⟩
end Go.Proofs.Ytiikoappknejgaa
namespace Go.Proofs.Ytiikoappknejgaa
set_option linter.unusedVariables false
set_option linter.unusedSimpArgs false
set_option maxRecDepth 100000
open Go.RowKit

def inB (n lo hi : Int) : Bool := decide (lo ≤ n) && decide (n ≤ hi)
theorem inB_true {n lo hi : Int} : inB n lo hi = true ↔ lo ≤ n ∧ n ≤ hi := by simp [inB]
theorem inB_false {n lo hi : Int} : inB n lo hi = false ↔ ¬ (lo ≤ n ∧ n ≤ hi) := by
  rw [← inB_true]; simp

--== spec.l01In
theorem s_l01In (n lo hi : Int) (w : World) : Calls Try.prog 31 #[.int .i64 n, .int .i64 lo, .int .i64 hi] w fun e w' => e = .returned (.bool (inB n lo hi)) ∧ w = w' := by
  by_cases h1 : lo ≤ n <;> by_cases h2 : n ≤ hi <;>
    (go_enter Try.func31, Try.ntmps31
     go_wp2
     go_ret
     exact ⟨ret_bool (by simp [inB, h1, h2]), rfl⟩)
--== impl.inside
theorem i_inside (n lo hi : Int) (w : World) : Calls Try.prog 28 #[.int .i64 n, .int .i64 lo, .int .i64 hi] w fun e w' => e = .returned (.bool (inB n lo hi)) ∧ w = w' := by
  by_cases h1 : lo ≤ n <;> by_cases h2 : n ≤ hi <;>
    (go_enter Try.func28, Try.ntmps28
     go_wp2
     go_ret
     exact ⟨ret_bool (by simp [inB, h1, h2]), rfl⟩)
--== marks
def marks (k : Int) (n : Nat) : List Int := (List.range n).map fun (i : Nat) => k + i
def marksTo (k : Int) (xs : List Int) (j : Nat) : List Int := marks k j ++ xs.drop j
theorem marks_length (k : Int) (n : Nat) : (marks k n).length = n := by simp [marks]
theorem marks_getD (k : Int) (n j : Nat) (h : j < n) : (marks k n).getD j 0 = k + j := by simp [marks, List.getD, h]
theorem marksTo_length (k : Int) (xs : List Int) (j : Nat) (h : j ≤ xs.length) : (marksTo k xs j).length = xs.length := by simp [marksTo, marks]; omega
theorem marksTo_zero (k : Int) (xs : List Int) : marksTo k xs 0 = xs := by simp [marksTo, marks]
theorem marksTo_all (k : Int) (xs : List Int) : marksTo k xs xs.length = marks k xs.length := by simp [marksTo]
theorem marksTo_set (k : Int) (xs : List Int) (j : Nat) (h : j < xs.length) : (marksTo k xs j).set j (k + j) = marksTo k xs (j + 1) := by
  unfold marksTo
  rw [List.set_append_right _ _ (by simp [marks]), marks_length, Nat.sub_self]
  have : xs.drop j = xs[j] :: xs.drop (j + 1) := List.drop_eq_getElem_cons h
  rw [this, List.set_cons_zero]
  simp [marks, List.range_succ]

theorem Ints.form' {w : World} {B : Nat} {v : Value} {xs : List Int} (h : Ints w B v xs) :
    ∃ ao cap, v = .slice ao xs.length cap ∧ xs.length ≤ cap ∧ cap ≤ 9223372036854775807 ∧ (xs.length = 0 ∨ ∃ g, ao = some ⟨g, 0, none⟩) := by
  by_cases h0 : xs.length = 0
  · obtain ⟨ao, cap, hv, h1, h2⟩ := h.form
    exact ⟨ao, cap, hv, h1, h2, .inl h0⟩
  · obtain ⟨g, cap, hv, _, _, h1, h2, _⟩ := h.open (by omega)
    exact ⟨_, cap, hv, h1, h2, .inr ⟨g, rfl⟩⟩

theorem Grew.refl (w : World) (v : Value) : Grew w w v v := ⟨World.grownBy.refl _ _, fun _ h => .inl h⟩
theorem Grew.trans {a b c : World} {u v x : Value} (h : Grew a b u v) (k : Grew b c v x) : Grew a c u x := by
  refine ⟨⟨k.grown.os.trans h.grown.os, k.grown.tape.trans h.grown.tape, k.grown.output.trans h.grown.output, Nat.le_trans h.grown.size k.grown.size, fun i hi hne => ?_⟩, fun g hg => ?_⟩
  · have h1 := h.grown.size
    rw [k.grown.block i (by omega) ?_, h.grown.block i hi hne]
    intro e
    rcases h.moved i e.symm with h2 | h2
    · exact hne h2.symm
    · omega
  · rcases k.moved g hg with h1 | h1
    · exact h.moved g h1
    · exact .inr (Nat.le_trans h.grown.size h1)
theorem Grew.of_chg {w w' : World} {g n c : Nat} (h : Chg g (g + 1) w w') : Grew w w' (.slice (some ⟨g, 0, none⟩) n c) (.slice (some ⟨g, 0, none⟩) n c) :=
  ⟨⟨h.os, h.tape, h.output, h.size, fun k hk hne => h.block k hk (by simp [Value.ownBlock] at hne; omega)⟩, fun _ h => .inl h⟩

/-- the cell and the mark of an owned slice -/
theorem Ints.cell {w : World} {B g n cap : Nat} {xs : List Int} (h : Ints w B (.slice (some ⟨g, 0, none⟩) n cap) xs) (hn : n = xs.length) (j : Nat) (hj : j < n) :
    w.cell? ⟨g, j, none⟩ = some (.int .i64 (xs.getD j 0)) ∧ w.frozen? ⟨g, j, none⟩ = false := by
  subst hn
  have h1 : w.ownsRow B 2 1 (.slice (some ⟨g, 0, none⟩) xs.length cap) xs.length (xs.map (Value.int .i64)) := h
  exact ⟨by rw [h1.cellAt j (by omega), getD_map_int xs j hj], h1.frozenAt j⟩
end Go.Proofs.Ytiikoappknejgaa
namespace Go.Proofs.Ytiikoappknejgaa
set_option linter.unusedVariables false
set_option linter.unusedSimpArgs false
set_option maxRecDepth 100000
open Go.RowKit

--== plain (WordsA)
/-- a letter over k generators -/
def letB (k l : Int) : Bool := (l != 0) && inB l (-k) k
/-- a word over k generators -/
def wordB (k : Int) (w : List Int) : Bool := w.all (letB k) && decide (w.length ≤ 64)

theorem all_take_succ (f : Int → Bool) (xs : List Int) (k : Nat) (h : k < xs.length) : (xs.take (k + 1)).all f = ((xs.take k).all f && f (xs.getD k 0)) := by
  rw [take_snoc xs k 0 h]; simp
theorem all_false_of (f : Int → Bool) (xs : List Int) (k : Nat) (h : k < xs.length) (hf : f (xs.getD k 0) = false) : xs.all f = false := by
  rw [List.all_eq_false]; exact ⟨_, getD_mem h, by rw [hf]; simp⟩
theorem letB_zero (k : Int) : letB k 0 = false := by simp [letB]
theorem letB_of {k l : Int} (h : l ≠ 0) : letB k l = inB l (-k) k := by simp [letB, h]

--== IsWord
def isWordB (k : Int) (w : List Int) : Bool := inB k 0 6 && wordB k w
--== plain (WordsB)
/-! ### the reduced form, as a fold -/
def redStep (out : List Int) (l : Int) : List Int := if out.getLast? = some (-l) then out.dropLast else out ++ [l]
def redW (xs : List Int) : List Int := xs.foldl redStep []
theorem redW_succ (xs : List Int) (k : Nat) (h : k < xs.length) : redW (xs.take (k + 1)) = redStep (redW (xs.take k)) (xs.getD k 0) := by
  rw [take_snoc xs k 0 h, redW, List.foldl_append]; rfl
theorem redStep_empty {out : List Int} (l : Int) (h : out.length = 0) : redStep out l = out ++ [l] := by
  have : out = [] := List.eq_nil_of_length_eq_zero h
  subst this; simp [redStep]
theorem getLast_getD {out : List Int} (h : 0 < out.length) : out.getLast? = some (out.getD (out.length - 1) 0) := by
  rw [List.getLast?_eq_getElem?, List.getElem?_eq_getElem (by omega)]
  simp [List.getD, show out.length - 1 < out.length by omega]
theorem redStep_pop {out : List Int} {l : Int} (h : 0 < out.length) (h2 : out.getD (out.length - 1) 0 = -l) : redStep out l = out.take (out.length - 1) := by
  unfold redStep
  rw [getLast_getD h, h2, if_pos rfl, List.dropLast_eq_take]
theorem redStep_push {out : List Int} {l : Int} (h : 0 < out.length) (h2 : out.getD (out.length - 1) 0 ≠ -l) : redStep out l = out ++ [l] := by
  unfold redStep
  rw [getLast_getD h, if_neg (by simpa using h2)]
theorem redStep_length (out : List Int) (l : Int) : (redStep out l).length ≤ out.length + 1 := by
  unfold redStep; split <;> simp
  omega
theorem redW_length (xs : List Int) : (redW xs).length ≤ xs.length := by
  suffices h : ∀ (xs out : List Int), (xs.foldl redStep out).length ≤ out.length + xs.length by simpa [redW] using h xs []
  intro xs
  induction xs with
  | nil => simp
  | cons x xs ih => intro out; have := ih (redStep out x); have := redStep_length out x; simp only [List.foldl_cons, List.length_cons]; omega

/-- numbers that can be negated -/
def Small (xs : List Int) : Prop := ∀ x ∈ xs, -1000000000 ≤ x ∧ x ≤ 1000000000
theorem Small.getD {xs : List Int} (h : Small xs) (j : Nat) (hj : j < xs.length) : -1000000000 ≤ xs.getD j 0 ∧ xs.getD j 0 ≤ 1000000000 := h _ (getD_mem hj)
theorem redW_small {xs : List Int} (h : Small xs) : Small (redW xs) := by
  suffices g : ∀ (ys out : List Int), Small ys → Small out → Small (ys.foldl redStep out) by
    exact g xs [] h fun x hx => by cases hx
  intro ys
  induction ys with
  | nil => intro out _ ho; exact ho
  | cons y ys ih =>
    intro out hy ho
    refine ih _ (fun x hx => hy x (List.mem_cons_of_mem _ hx)) fun x hx => ?_
    unfold redStep at hx
    split at hx
    · exact ho x (List.dropLast_subset _ hx)
    · rcases List.mem_append.1 hx with hx | hx
      · exact ho x hx
      · simp at hx; subst hx; exact hy x (List.mem_cons_self)

--== blocks that a call makes
/-- an empty slice that is not nil -/
theorem Ints.empty (w : World) : Ints (w.alloc (.cells #[] 2)) w.heap.size (.slice (some ⟨w.heap.size, 0, none⟩) 0 0) [] :=
  ⟨rfl, .inr ⟨w.heap.size, 0, #[], rfl, Nat.le_refl _, heap_alloc_new w _, Nat.le_refl _, by simp [maxLen], rfl, rfl⟩⟩
theorem below_alloc (w : World) (o : Obj) : Below w.heap.size w (w.alloc o) := (Below.refl _ _).alloc (Nat.le_refl _) o
--== plain (Rev)
def revTo (xs : List Int) (j : Nat) : List Int := (List.range xs.length).map fun t => if t < j ∨ xs.length ≤ t + j then xs.getD (xs.length - 1 - t) 0 else xs.getD t 0
theorem revTo_length (xs : List Int) (j : Nat) : (revTo xs j).length = xs.length := by simp [revTo]
theorem revTo_getD (xs : List Int) (j t : Nat) (h : t < xs.length) : (revTo xs j).getD t 0 = if t < j ∨ xs.length ≤ t + j then xs.getD (xs.length - 1 - t) 0 else xs.getD t 0 := by
  unfold revTo
  rw [List.getD_eq_getElem?_getD, List.getElem?_map, List.getElem?_range h]
  rfl
theorem ext_getD {xs ys : List Int} (hl : xs.length = ys.length) (h : ∀ j, j < xs.length → xs.getD j 0 = ys.getD j 0) : xs = ys := all_eq hl h
theorem getD_set (xs : List Int) (i t : Nat) (y : Int) (h : t < xs.length) : (xs.set i y).getD t 0 = if i = t then y else xs.getD t 0 := by
  rw [List.getD_eq_getElem?_getD, List.getElem?_set]
  by_cases e : i = t
  · subst e; simp [h]
  · simp [e, List.getD_eq_getElem?_getD]
theorem getD_reverse (xs : List Int) (t : Nat) (h : t < xs.length) : xs.reverse.getD t 0 = xs.getD (xs.length - 1 - t) 0 := by
  rw [List.getD_eq_getElem?_getD, List.getElem?_reverse h, List.getD_eq_getElem?_getD]
theorem revTo_zero (xs : List Int) : revTo xs 0 = xs := by
  refine ext_getD (revTo_length _ _) fun t ht => ?_
  rw [revTo_length] at ht
  rw [revTo_getD _ _ _ ht, if_neg (by omega)]
theorem revTo_end (xs : List Int) (j : Nat) (h : xs.length ≤ 2 * j + 1) : revTo xs j = xs.reverse := by
  refine ext_getD (by rw [revTo_length, List.length_reverse]) fun t ht => ?_
  rw [revTo_length] at ht
  rw [revTo_getD _ _ _ ht, getD_reverse _ _ ht]
  by_cases h1 : t < j ∨ xs.length ≤ t + j
  · rw [if_pos h1]
  · rw [if_neg h1]
    congr 1
    omega
theorem revTo_step (xs : List Int) (j : Nat) (h : 2 * j + 1 < xs.length) :
    ((revTo xs j).set j (xs.getD (xs.length - 1 - j) 0)).set (xs.length - 1 - j) (xs.getD j 0) = revTo xs (j + 1) := by
  refine ext_getD (by simp [revTo_length]) fun t ht => ?_
  rw [List.length_set, List.length_set, revTo_length] at ht
  rw [getD_set _ _ _ _ (by rw [List.length_set, revTo_length]; exact ht), getD_set _ _ _ _ (by rw [revTo_length]; exact ht), revTo_getD _ _ _ ht, revTo_getD _ _ _ ht]
  by_cases e1 : xs.length - 1 - j = t
  · rw [if_pos e1, if_pos (by omega)]
    congr 1; omega
  · rw [if_neg e1]
    by_cases e2 : j = t
    · rw [if_pos e2, if_pos (by omega), e2]
    · rw [if_neg e2]
      by_cases h1 : t < j ∨ xs.length ≤ t + j
      · rw [if_pos h1, if_pos (by omega)]
      · rw [if_neg h1, if_neg (by omega)]

--== plain (WordsC)
/-- The slice value v reads as the lists xss. -/
def Rd2 (w : World) (v : Value) (xss : List (List Int)) : Prop :=
  ∃ vs, RdV w v vs ∧ vs.length = xss.length ∧ ∀ i, i < xss.length → Rd w (vs.getD i undef) (xss.getD i [])

theorem Rd2.of_cells {w w' : World} {v : Value} {xss : List (List Int)} (h : Rd2 w v xss) (hc : ∀ a u, w.cell? a = some u → w'.cell? a = some u) : Rd2 w' v xss := by
  obtain ⟨vs, h1, h2, h3⟩ := h
  exact ⟨vs, h1.of_cells hc, h2, fun i hi => (h3 i hi).of_cells hc⟩
theorem Rd2.below {w w' : World} {v : Value} {xss : List (List Int)} (h : Rd2 w v xss) (hb : Below w.heap.size w w') : Rd2 w' v xss :=
  h.of_cells fun a _ ha => (hb.cell (World.block_lt_of_cell? w a ha)).trans ha

/-- The shape, for a walk: the value, and each row. -/
theorem Rd2.open {w : World} {v : Value} {xss : List (List Int)} (h : Rd2 w v xss) :
    ∃ ao cap, v = .slice ao xss.length cap ∧ xss.length ≤ cap ∧ cap ≤ 9223372036854775807 ∧
      (xss.length = 0 ∨ ∃ b off, ao = some ⟨b, off, none⟩ ∧ ∀ j, j < xss.length → ∃ r, w.cell? ⟨b, off + j, none⟩ = some r ∧ Rd w r (xss.getD j [])) := by
  obtain ⟨vs, ⟨ao, cap, hv, h1, h2, h0, h3⟩, hl, hr⟩ := h
  rw [hl] at hv h1 h3
  refine ⟨ao, cap, hv, h1, h2, ?_⟩
  rcases h3 with h3 | ⟨b, off, rfl, h3⟩
  · exact .inl h3
  · refine .inr ⟨b, off, rfl, fun j hj => ⟨vs.getD j undef, ?_, hr j hj⟩⟩
    rw [h3 j hj, List.getD, List.getElem?_eq_getElem (by omega)]; rfl

theorem below_cells {w w' : World} (hb : Below w.heap.size w w') : ∀ a u, w.cell? a = some u → w'.cell? a = some u :=
  fun a _ ha => (hb.cell (World.block_lt_of_cell? w a ha)).trans ha

/-- A list of lists that the call itself has laid. -/
theorem Rd2.lit {w : World} (t : TypeId) (vs : List Value) (xss : List (List Int)) (hl : vs.length = xss.length) (hm : vs.length ≤ 1000) (h : ∀ i, i < xss.length → Rd w (vs.getD i undef) (xss.getD i [])) :
    Rd2 (w.alloc (.cells vs.toArray t)) (.slice (some ⟨w.heap.size, 0, none⟩) vs.length vs.length) xss := by
  refine ⟨vs, ⟨_, vs.length, rfl, Nat.le_refl _, by omega, fun h => by (cases h), .inr ⟨w.heap.size, 0, rfl, fun j hj => ?_⟩⟩, hl, fun i hi => (h i hi).of_cells (below_cells (below_alloc w _))⟩
  rw [Nat.zero_add, World.cell?_alloc_new]
  simp
theorem Rd2.lit1 {w : World} (t : TypeId) (v : Value) (xs : List Int) (h : Rd w v xs) : Rd2 (w.alloc (.cells #[v] t)) (.slice (some ⟨w.heap.size, 0, none⟩) 1 1) [xs] :=
  Rd2.lit t [v] [xs] rfl (by simp) fun i hi => by
    obtain rfl : i = 0 := by simpa using hi
    exact h
theorem Rd2.lit2 {w : World} (t : TypeId) (v v' : Value) (xs ys : List Int) (h : Rd w v xs) (h' : Rd w v' ys) : Rd2 (w.alloc (.cells #[v, v'] t)) (.slice (some ⟨w.heap.size, 0, none⟩) 2 2) [xs, ys] :=
  Rd2.lit t [v, v'] [xs, ys] rfl (by simp) fun i hi => by
    match i, hi with
    | 0, _ => exact h
    | 1, _ => exact h'
    | i + 2, hi => simp at hi; omega
theorem Rd2.lit4 {w : World} (t : TypeId) (v v' v'' v3 : Value) (xs ys zs us : List Int) (h : Rd w v xs) (h' : Rd w v' ys) (h'' : Rd w v'' zs) (h3 : Rd w v3 us) : Rd2 (w.alloc (.cells #[v, v', v'', v3] t)) (.slice (some ⟨w.heap.size, 0, none⟩) 4 4) [xs, ys, zs, us] :=
  Rd2.lit t [v, v', v'', v3] [xs, ys, zs, us] rfl (by simp) fun i hi => by
    match i, hi with
    | 0, _ => exact h
    | 1, _ => exact h'
    | 2, _ => exact h''
    | 3, _ => exact h3
    | i + 4, hi => simp at hi; omega

/-! ### the inverse -/
def invW (xs : List Int) : List Int := (xs.map fun x => -x).reverse
theorem invW_length (xs : List Int) : (invW xs).length = xs.length := by simp [invW]
theorem neg_succ (xs : List Int) (k : Nat) (h : k < xs.length) : (xs.take (k + 1)).map (fun x => -x) = (xs.take k).map (fun x => -x) ++ [-(xs.getD k 0)] := by
  rw [take_snoc xs k 0 h]; simp
theorem invW_succ (xs : List Int) (k : Nat) (h : k < xs.length) : invW (xs.drop (xs.length - (k + 1))) = invW (xs.drop (xs.length - k)) ++ [-(xs.getD (xs.length - 1 - k) 0)] := by
  have e : xs.drop (xs.length - (k + 1)) = xs.getD (xs.length - 1 - k) 0 :: xs.drop (xs.length - k) := by
    rw [List.drop_eq_getElem_cons (by omega)]
    have h1 : xs.length - (k + 1) = xs.length - 1 - k := by omega
    have h2 : xs.length - (k + 1) + 1 = xs.length - k := by omega
    rw [h2]
    simp [List.getD, h1, show xs.length - 1 - k < xs.length by omega]
  rw [e]; simp [invW]
theorem invW_small {xs : List Int} (h : Small xs) : Small (invW xs) := by
  intro x hx
  simp only [invW, List.mem_reverse, List.mem_map] at hx
  obtain ⟨y, hy, rfl⟩ := hx
  have := h y hy
  omega

--== codes
def codeOf (k : Int) (ws : List (List Int)) : Int := if inB k 0 6 then (if ws.all (wordB k) then 0 else 1) else 2
theorem codeOf_out {k : Int} (ws : List (List Int)) (h : inB k 0 6 = false) : codeOf k ws = 2 := by simp [codeOf, h]
theorem codeOf_in {k : Int} (ws : List (List Int)) (h : inB k 0 6 = true) : codeOf k ws = if ws.all (wordB k) then 0 else 1 := by simp [codeOf, h]
theorem wordB_nil (k : Int) : wordB k [] = true := by simp [wordB]
theorem codeOf_nil (k : Int) (xs : List Int) : codeOf k [xs, []] = codeOf k [xs] := by simp [codeOf, wordB_nil]
theorem codeOf_zero {k : Int} {ws : List (List Int)} (h : codeOf k ws = 0) : (0 ≤ k ∧ k ≤ 6) ∧ ∀ x ∈ ws, wordB k x = true := by
  unfold codeOf at h
  split at h
  · rename_i hk
    refine ⟨inB_true.1 hk, ?_⟩
    split at h
    · rename_i ha; exact List.all_eq_true.1 ha
    · simp at h
  · simp at h
theorem wordB_small {k : Int} {xs : List Int} (hk : k ≤ 6) (h : wordB k xs = true) : Small xs ∧ xs.length ≤ 64 := by
  simp only [wordB, Bool.and_eq_true, decide_eq_true_eq, List.all_eq_true] at h
  refine ⟨fun x hx => ?_, h.2⟩
  have := h.1 x hx
  simp only [letB, Bool.and_eq_true] at this
  have := inB_true.1 this.2
  omega
--== short
def shortW (xs : List Int) : List Int := if xs.length ≤ 64 then xs else []
def codeS (xs : List Int) : Int := if xs.length ≤ 64 then 0 else 3
theorem codeS_in {xs : List Int} (h : xs.length ≤ 64) : codeS xs = 0 ∧ shortW xs = xs := by simp [codeS, shortW, h]
theorem codeS_out {xs : List Int} (h : ¬ xs.length ≤ 64) : codeS xs = 3 ∧ shortW xs = [] := by simp [codeS, shortW, h]
--== plain (WordsD)
def okW (c : Int) (r : List Int) : List Int := if c = 0 then r else []
theorem okW_zero {c : Int} {r : List Int} (h : c = 0) : okW c r = r := if_pos h
theorem okW_ne {c : Int} {r : List Int} (h : ¬ c = 0) : okW c r = [] := if_neg h
theorem below_allocd {w w' : World} {o : Obj} (h : Below (w.alloc o).heap.size (w.alloc o) w') : Below w.heap.size w w' := (below_alloc w o).trans (h.mono (by simp))
theorem Ints.allocd {w w' : World} {o : Obj} {v : Value} {xs : List Int} (h : Ints w' (w.alloc o).heap.size v xs) : Ints w' w.heap.size v xs := h.mono (by simp)
theorem wf_len {xs : List Int} (h : xs.length ≤ 64) : xs.length ≤ 100000000 := by omega

theorem okW_len {k : Int} {xs r : List Int} (h : r.length ≤ xs.length) : (okW (codeOf k [xs]) r).length ≤ 1000000000 := by
  by_cases hc : codeOf k [xs] = 0
  · obtain ⟨⟨_, h6⟩, hw⟩ := codeOf_zero hc
    have := (wordB_small h6 (hw xs (by simp))).2
    rw [okW_zero hc]; omega
  · rw [okW_ne hc]; simp
theorem len_ReduceWord (k : Int) (xs : List Int) : (okW (codeOf k [xs]) (redW xs)).length ≤ 1000000000 := okW_len (redW_length xs)
theorem len_InvertWord (k : Int) (xs : List Int) : (okW (codeOf k [xs]) (invW xs)).length ≤ 1000000000 := okW_len (Nat.le_of_eq (invW_length xs))

--== IsReducedWord
def isRedB (k : Int) (w : List Int) : Bool := isWordB k w && decide (redW w = w)
theorem redW_fix (xs : List Int) : redW xs = xs ↔ (redW xs).length = xs.length := by
  constructor
  · intro h; rw [h]
  · intro h
    -- a fold that never gets shorter only ever appends
    suffices g : ∀ (ys out : List Int), (ys.foldl redStep out).length = out.length + ys.length → ys.foldl redStep out = out ++ ys by
      simpa [redW] using g xs [] (by simpa [redW] using h)
    intro ys
    induction ys with
    | nil => intro out _; simp
    | cons y ys ih =>
      intro out ho
      have hle : ∀ (zs o : List Int), (zs.foldl redStep o).length ≤ o.length + zs.length := by
        intro zs
        induction zs with
        | nil => simp
        | cons z zs ih => intro o; have := ih (redStep o z); have := redStep_length o z; simp only [List.foldl_cons, List.length_cons]; omega
      simp only [List.foldl_cons, List.length_cons] at ho ⊢
      have h1 := hle ys (redStep out y)
      have h2 := redStep_length out y
      have h3 : redStep out y = out ++ [y] := by
        unfold redStep
        split
        · rename_i hq
          exfalso
          have : (redStep out y).length ≤ out.length := by unfold redStep; rw [if_pos hq]; simp
          omega
        · rfl
      rw [h3] at ho h1 ⊢
      rw [ih (out ++ [y]) (by simp at ho ⊢; omega)]
      simp
theorem isRedB_no {k : Int} {w : List Int} (h : isWordB k w = false) : isRedB k w = false := by simp [isRedB, h]
theorem isWordB_in {k : Int} {w : List Int} (h : isWordB k w = true) : (0 ≤ k ∧ k ≤ 6) ∧ wordB k w = true ∧ Small w ∧ w.length ≤ 64 := by
  simp only [isWordB, Bool.and_eq_true] at h
  have hk := inB_true.1 h.1
  exact ⟨hk, h.2, wordB_small hk.2 h.2⟩
--== end
end Go.Proofs.Ytiikoappknejgaa
namespace Go.Proofs.Ytiikoappknejgaa
set_option linter.unusedVariables false
set_option linter.unusedSimpArgs false
set_option maxRecDepth 100000
open Go.RowKit

--== plain (Join)
theorem zeroInts (n : Nat) : (Builtin.zeroCells (Value.int .i64 0).cells n).toList = (List.replicate n (0 : Int)).map (Value.int .i64) := by
  have := toList_madeCells_one (Value.int .i64 0) n
  simp only [madeCells] at this
  simp only [Builtin.zeroCells, show (Value.int .i64 0).cells = #[.int .i64 0] from rfl, List.map_replicate]
  simpa using this

/-- 'append([]int64(nil), make([]int64, n)...)', as the translation has it -/
theorem wp_appZ {P : Program} (w : World) {ops : Array Oper} {rest : List Oper} {o : Oper} {a : Act} {Q : Exit → Act → World → Prop} (hgd : o.guard = none) (s x : Operand)
    (ho : o.op = .call { callee := .builtin .append, args := #[s, x], argTypes := #[24, 3] })
    (i : TypeInfo) (ht : P.underlying 24 = some (.slice 2)) (htn : P.underlying 3 = some (.int .i64)) (hi : P.info? 2 = some i) (hz : i.zero = some (.int .i64 0)) (hsize : i.size = 1) (hby : i.bytes = 8)
    (hs : a.eval s = .slice none 0 0) (n : Nat) (N : Int) (hN : N = (n : Int)) (hx : a.eval x = .int .i64 N) (h0 : 0 < n) (hn : n ≤ 1000000000)
    (h : ∀ w' cap, Ints w' w.heap.size (.slice (some ⟨w.heap.size, 0, none⟩) n cap) (List.replicate n 0) → n ≤ cap → cap ≤ 9223372036854775807 → Below w.heap.size w w' → wpList P ops Q rest (a.put o.dst (.slice (some ⟨w.heap.size, 0, none⟩) n cap)) w') :
    wpList P ops Q (o :: rest) a w := by
  subst hN
  refine wpList_plain hgd fun K hK' => ?_
  have hr := Lib.run_append_nil_zeros (P := P) w 24 3 o.type 2 i (.int .i64 0) .i64 .i64 ht htn hi hz n h0 (by omega) (by omega) (by rw [hby]; omega)
  have hge := grownCap_ge w n 0 2
  have hcm : grownCap w n 0 2 ≤ maxLen := grownCap_le_maxLen w n 0 2 (by unfold maxLen; omega)
  unfold Oper.wp execOp
  simp only [ho, resolve, invoke, builtin, Sem.run_bind, Sem.run_pure, Result.andThen_ok, List.map_toArray, List.map_cons, List.map_nil, hs, hx, hr]
  refine hK' _ _ (h _ _ ?_ hge (by unfold maxLen at hcm; omega) ?_)
  · refine ⟨by simp, .inr ⟨w.heap.size, _, _, by simp, Nat.le_refl _, heap_alloc_new w.drew _, by simpa using hge, hcm, ?_, ?_⟩⟩
    · simp only [Array.size_append, size_zeroCells, show (Value.int .i64 0).cells.size = 1 from rfl]; omega
    · rw [Array.toList_append, zeroInts]
      simp
  · exact ⟨rfl, rfl, rfl, by simp, fun k hk => Below.heap_alloc w.drew _ k hk⟩

--== slices.Grow
set_option maxHeartbeats 1000000 in
theorem f_Grow (n : Nat) (w : World) (hn : n ≤ 1000000000) :
    Calls Try.prog 62 #[.slice none 0 0, .int .i64 n] w (RetInts w []) := by
  obtain ⟨i0, hi, hz0, hz1, hz2⟩ := info_parts Try.info2
  by_cases h0 : n = 0
  · subst h0
    go_enter Try.func62, Try.ntmps62
    go_wp2
    go_ret
    exact ⟨_, rfl, Ints.nil _ _, Below.refl _ _⟩
  · have hpos : 0 < n := by omega
    clear h0
    go_enter Try.func62, Try.ntmps62
    go_wp2_with (at_builtin; refine wp_appZ _ rfl _ _ rfl i0 Try.underlying24 Try.underlying3 hi hz0 hz1 hz2 rfl n _ ?c1 rfl hpos hn ?_)
    case c1 => rfl
    intro w1 cap hI hc hc2 hB
    have hT := hI.take (by simp) (Nat.zero_le n)
    clear hI
    go_wp2
    go_ret
    exact ⟨_, rfl, hT, hB⟩
--== lists of lists
/-- the lists of a list, joined (no simp rule looks inside) -/
def cat (xss : List (List Int)) : List Int := xss.flatten
theorem flat_succ (xss : List (List Int)) (k : Nat) (h : k < xss.length) : cat (xss.take (k + 1)) = cat (xss.take k) ++ xss.getD k [] := by
  unfold cat; rw [take_snoc xss k [] h]; simp
theorem flat_le (xss : List (List Int)) (k : Nat) : (cat (xss.take k)).length ≤ (cat xss).length := by
  have h : xss.flatten = (xss.take k).flatten ++ (xss.drop k).flatten := by rw [← List.flatten_append, List.take_append_drop]
  unfold cat
  rw [h, List.length_append]; omega
--== slices.Concat
set_option maxHeartbeats 1000000 in
theorem f_Concat (v : Value) (xss : List (List Int)) (w : World) (hv : Rd2 w v xss) (hs : (cat xss).length ≤ 100000000) :
    Calls Try.prog 49 #[v] w (RetInts w (cat xss)) := by
  obtain ⟨i0, hi, hz0, hz1, hz2⟩ := info_parts Try.info2
  obtain ⟨ao, cap, rfl, hc1, hc2, hA⟩ := hv.open
  go_enter Try.func49, Try.ntmps49
  go_wp2
  go_loop [3, 5, 11] (fun s _ i => ∃ j : Nat, j ≤ xss.length ∧ i = .int .i64 j ∧ s = .int .i64 ((cat (xss.take j)).length : Int)) (fun _ _ i => xss.length - (intOf i).toNat)
  case atStart => exact ⟨0, Nat.zero_le _, rfl, rfl⟩
  case round =>
    obtain ⟨j, hj, rfl, rfl⟩ := hrel
    have hle := flat_le xss j
    by_cases hlt : j < xss.length
    · rcases hA with hA | ⟨b, off, rfl, hA⟩
      · omega
      obtain ⟨r, hcell, hr⟩ := hA j hlt
      have HS := Lib.hid (flat_succ xss j hlt)
      have hle2 := flat_le xss (j + 1)
      rw [flat_succ xss j hlt, List.length_append] at hle2
      clear hA
      generalize xss.getD j [] = x at *
      obtain ⟨ao', cap', rfl, _, _⟩ := hr.form
      generalize cat (xss.take j) = m at *
      go_wp2
      go_round
      case rel => exact ⟨j + 1, by omega, by go_num, by rw [HS.out, List.length_append]; go_num⟩
      case measure => simp [intOf]; omega
    · obtain rfl : j = xss.length := by omega
      rw [List.take_length]
      go_wp2_with fail
      refine (f_Grow (cat xss).length _ (by omega)).mono ?_
      rintro e w1 ⟨v1, rfl, hI, hB⟩
      go_wp2_with fail
      go_loopw [6, 8, 27] (fun u _ i wr => ∃ j : Nat, j ≤ xss.length ∧ i = .int .i64 j ∧ Ints wr w.heap.size u (cat (xss.take j)) ∧ Below w.heap.size w wr) (fun _ _ i _ => xss.length - (intOf i).toNat)
      case atStart => exact ⟨0, Nat.zero_le _, rfl, hI, hB⟩
      case round =>
        clear hI hB
        obtain ⟨j, hj', rfl, hI, hB⟩ := hrel
        have hS := hB.size
        have hle := flat_le xss j
        by_cases hlt : j < xss.length
        · rcases hA with hA | ⟨b, off, rfl, hA⟩
          · omega
          obtain ⟨r, hc, hr⟩ := hA j hlt
          have hcell : wr.cell? ⟨b, off + j, none⟩ = some r := (hB.cell (World.block_lt_of_cell? w _ hc)).trans hc
          have HS := Lib.hid (flat_succ xss j hlt)
          have hle2 := flat_le xss (j + 1)
          rw [flat_succ xss j hlt, List.length_append] at hle2
          have hr' := hr.below hB
          clear hA hc hr
          generalize xss.getD j [] = x at *
          obtain ⟨ao', cap', rfl, _, _⟩ := hr'.form
          generalize (cat (xss.take j)) = m at *
          go_wp2_with (at_builtin; refine wp_appN _ rfl _ _ rfl w.heap.size i0 Try.underlying24 hi hz0 hz1 hz2 _ _ rfl hI _ x rfl hr' (by omega) (by omega) (by omega) ?_)
          intro v' w2 hI1 hG hB1
          go_wp2
          go_roundw
          case rel => exact ⟨j + 1, by omega, by go_num, by rw [HS.out]; exact hI1, hB.trans hB1⟩
          case measure => simp [intOf]; omega
        · obtain rfl : j = xss.length := by omega
          rw [List.take_length] at hI
          go_wp2
          go_ret
          exact ⟨_, rfl, hI, hB⟩
--== spec.l01Own
set_option maxHeartbeats 1000000 in
theorem s_l01Own (v : Value) (xs : List Int) (w : World) (hv : Rd w v xs) (hs : xs.length ≤ 100000000) :
    Calls Try.prog 52 #[v] w (RetInts w xs) := by
  obtain ⟨i0, hi, hz0, hz1, hz2⟩ := info_parts Try.info2
  go_enter Try.func52, Try.ntmps52
  have hE := Ints.empty w
  have hv' := hv.below (below_alloc w (.cells #[] 2))
  go_wp2_with (at_builtin; refine wp_appN _ rfl _ _ rfl w.heap.size i0 Try.underlying24 hi hz0 hz1 hz2 _ _ rfl hE _ xs rfl hv' (by simp) (by omega) (by simp) ?_)
  intro v' w2 hI1 hG hB1
  go_wp2
  go_ret
  exact ⟨_, rfl, by simpa using hI1, (below_alloc w _).trans hB1⟩

--== plain (Nest)
/-! lists by index -/
theorem gset_self {β : Type} (l : List β) (i : Nat) (x d : β) (h : i < l.length) : (l.set i x).getD i d = x := by rw [List.getD_eq_getElem?_getD, List.getElem?_set_self h]; rfl
theorem gset_ne {β : Type} (l : List β) (i j : Nat) (x d : β) (h : i ≠ j) : (l.set i x).getD j d = l.getD j d := by rw [List.getD_eq_getElem?_getD, List.getElem?_set_ne h, List.getD_eq_getElem?_getD]
theorem gapp_left {β : Type} (l m : List β) (j : Nat) (d : β) (h : j < l.length) : (l ++ m).getD j d = l.getD j d := by rw [List.getD_eq_getElem?_getD, List.getElem?_append_left h, List.getD_eq_getElem?_getD]
theorem gapp_last {β : Type} (l : List β) (x d : β) : (l ++ [x]).getD l.length d = x := by rw [List.getD_eq_getElem?_getD, List.getElem?_append_right (Nat.le_refl _)]; simp
theorem grep_at {β : Type} (n j : Nat) (x d : β) (h : j < n) : (List.replicate n x).getD j d = x := by rw [List.getD_eq_getElem?_getD, List.getElem?_replicate, if_pos h]; rfl

--== reading, three levels
/-- The slice value v reads as the lists xsss. -/
def Rd3 (w : World) (v : Value) (xsss : List (List (List Int))) : Prop :=
  ∃ vs, RdV w v vs ∧ vs.length = xsss.length ∧ ∀ i, i < xsss.length → Rd2 w (vs.getD i undef) (xsss.getD i [])
theorem Rd3.of_cells {w w' : World} {v : Value} {xsss : List (List (List Int))} (h : Rd3 w v xsss) (hc : ∀ a u, w.cell? a = some u → w'.cell? a = some u) : Rd3 w' v xsss := by
  obtain ⟨vs, h1, h2, h3⟩ := h
  exact ⟨vs, h1.of_cells hc, h2, fun i hi => (h3 i hi).of_cells hc⟩
theorem Rd3.below {w w' : World} {v : Value} {xsss : List (List (List Int))} (h : Rd3 w v xsss) (hb : Below w.heap.size w w') : Rd3 w' v xsss :=
  h.of_cells (below_cells hb)
theorem Rd3.open {w : World} {v : Value} {xsss : List (List (List Int))} (h : Rd3 w v xsss) :
    ∃ ao cap, v = .slice ao xsss.length cap ∧ xsss.length ≤ cap ∧ cap ≤ 9223372036854775807 ∧
      (xsss.length = 0 ∨ ∃ b off, ao = some ⟨b, off, none⟩ ∧ ∀ j, j < xsss.length → ∃ r, w.cell? ⟨b, off + j, none⟩ = some r ∧ Rd2 w r (xsss.getD j [])) := by
  obtain ⟨vs, ⟨ao, cap, hv, h1, h2, h0, h3⟩, hl, hr⟩ := h
  rw [hl] at hv h1 h3
  refine ⟨ao, cap, hv, h1, h2, ?_⟩
  rcases h3 with h3 | ⟨b, off, rfl, h3⟩
  · exact .inl h3
  · refine .inr ⟨b, off, rfl, fun j hj => ⟨vs.getD j undef, ?_, hr j hj⟩⟩
    rw [h3 j hj, List.getD, List.getElem?_eq_getElem (by omega)]; rfl
theorem Rd2.form {w : World} {v : Value} {xss : List (List Int)} (h : Rd2 w v xss) : ∃ ao cap, v = .slice ao xss.length cap ∧ xss.length ≤ cap ∧ cap ≤ 9223372036854775807 := by
  obtain ⟨ao, cap, h1, h2, h3, _⟩ := h.open
  exact ⟨ao, cap, h1, h2, h3⟩
theorem Rd3.form {w : World} {v : Value} {xsss : List (List (List Int))} (h : Rd3 w v xsss) : ∃ ao cap, v = .slice ao xsss.length cap ∧ xsss.length ≤ cap ∧ cap ≤ 9223372036854775807 := by
  obtain ⟨ao, cap, h1, h2, h3, _⟩ := h.open
  exact ⟨ao, cap, h1, h2, h3⟩
theorem Rd2.nil (w : World) : Rd2 w (.slice none 0 0) [] := ⟨[], ⟨none, 0, rfl, by simp, by simp, fun _ => rfl, .inl rfl⟩, rfl, fun i hi => by simp at hi⟩
theorem Rd3.nil (w : World) : Rd3 w (.slice none 0 0) [] := ⟨[], ⟨none, 0, rfl, by simp, by simp, fun _ => rfl, .inl rfl⟩, rfl, fun i hi => by simp at hi⟩

--== owning
/-- a set of blocks: lo .. hi-1 -/
def win (lo hi : Nat) : Nat → Prop := fun k => lo ≤ k ∧ k < hi
/-- the block of v, if it has one, is in S -/
def BlkS (v : Value) (S : Nat → Prop) : Prop := ∀ g, v.ownBlock = some g → S g
/-- w' is w, but for new blocks and for what has been written to blocks of S -/
structure ChgS (S : Nat → Prop) (w w' : World) : Prop where
  os : w'.os = w.os
  tape : w'.tape = w.tape
  output : w'.output = w.output
  size : w.heap.size ≤ w'.heap.size
  block : ∀ k, k < w.heap.size → ¬ S k → w'.heap[k]? = w.heap[k]?
theorem ChgS.refl (S : Nat → Prop) (w : World) : ChgS S w w := ⟨rfl, rfl, rfl, Nat.le_refl _, fun _ _ _ => rfl⟩
theorem ChgS.trans {S T U : Nat → Prop} {a b c : World} (h : ChgS S a b) (k : ChgS T b c) (h1 : ∀ x, S x → U x) (h2 : ∀ x, T x → U x) : ChgS U a c :=
  ⟨k.os.trans h.os, k.tape.trans h.tape, k.output.trans h.output, Nat.le_trans h.size k.size, fun i hi hh => (k.block i (by have := h.size; omega) fun x => hh (h2 i x)).trans (h.block i hi fun x => hh (h1 i x))⟩
theorem ChgS.below {S : Nat → Prop} {B : Nat} {w w' : World} (h : ChgS S w w') (h1 : ∀ k, S k → B ≤ k) (h2 : B ≤ w.heap.size) : Below B w w' :=
  ⟨h.os, h.tape, h.output, h.size, fun k hk => h.block k (by omega) fun hs => by have := h1 k hs; omega⟩
theorem ChgS.of_grew {w w' : World} {v v' : Value} {S : Nat → Prop} (h : Grew w w' v v') (hb : BlkS v S) : ChgS S w w' :=
  ⟨h.grown.os, h.grown.tape, h.grown.output, h.grown.size, fun k hk hd => h.grown.block k hk fun e => hd (hb k e.symm)⟩
theorem ChgS.of_chg {w w' : World} {g : Nat} (h : Chg g (g + 1) w w') : ChgS (fun k => k = g) w w' :=
  ⟨h.os, h.tape, h.output, h.size, fun k hk hd => h.block k hk (by omega)⟩
theorem ChgS.win {w w' : World} {lo hi : Nat} (h : ChgS (win lo hi) w w') : Chg lo hi w w' :=
  ⟨h.os, h.tape, h.output, h.size, fun k hk hd => h.block k hk fun hs => by unfold Go.Proofs.Ytiikoappknejgaa.win at hs; omega⟩

/-- v owns the integers xs, in blocks of S -/
def O1 (w : World) (S : Nat → Prop) (v : Value) (xs : List Int) : Prop := Ints w 0 v xs ∧ BlkS v S

/-- a row of values, each of which owns its own part -/
def ON {α : Type} (e : TypeId) (O : World → (Nat → Prop) → Value → List α → Prop) (w : World) (S : Nat → Prop) (v : Value) (ds : List (List α)) : Prop :=
  ∃ (vs : List Value) (T : Nat → Nat → Prop), w.ownsRow 0 e 1 v ds.length vs ∧ BlkS v S ∧
    (∀ i, i < ds.length → (∀ k, T i k → S k) ∧ O w (T i) (vs.getD i undef) (ds.getD i [])) ∧
    (∀ i, i < ds.length → ∀ g, v.ownBlock = some g → ¬ T i g) ∧
    (∀ i j, i < ds.length → j < ds.length → i ≠ j → ∀ k, T i k → ¬ T j k)

/-- what an owner says of memory speaks of its own blocks alone -/
structure Local {α : Type} (O : World → (Nat → Prop) → Value → List α → Prop) : Prop where
  loc : ∀ {w w' : World} {S : Nat → Prop} {v : Value} {d : List α}, O w S v d → (∀ k, S k → k < w.heap.size → w'.heap[k]? = w.heap[k]?) → O w' S v d
  mono : ∀ {w : World} {S S' : Nat → Prop} {v : Value} {d : List α}, O w S v d → (∀ k, k < w.heap.size → S k → S' k) → O w S' v d
  nil : ∀ (w : World) (S : Nat → Prop), O w S (.slice none 0 0) []

theorem local_O1 : Local O1 where
  loc := fun h hb => ⟨own_of_block h.1 fun g hg => hb g (h.2 g hg) (h.1.lt g hg).2, h.2⟩
  mono := fun h h1 => ⟨h.1, fun g hg => h1 g (h.1.lt g hg).2 (h.2 g hg)⟩
  nil := fun w S => ⟨Ints.nil w 0, fun g hg => by simp [Value.ownBlock] at hg⟩

theorem local_ON {α : Type} {e : TypeId} {O : World → (Nat → Prop) → Value → List α → Prop} (hO : Local O) : Local (ON e O) where
  loc := fun {w w' S v d} h hb => by
    obtain ⟨vs, T, h1, h2, h3, h4, h5⟩ := h
    exact ⟨vs, T, own_of_block h1 fun g hg => hb g (h2 g hg) (own_lt h1 hg).2, h2,
      fun i hi => ⟨(h3 i hi).1, hO.loc (h3 i hi).2 fun k hk1 hk3 => hb k ((h3 i hi).1 k hk1) hk3⟩, h4, h5⟩
  mono := fun {w S S' v d} h h1 => by
    obtain ⟨vs, T, k1, k2, k3, k4, k5⟩ := h
    exact ⟨vs, fun i k => T i k ∧ k < w.heap.size, k1, fun g hg => h1 g (own_lt k1 hg).2 (k2 g hg), fun i hi => ⟨fun k hk => h1 k hk.2 ((k3 i hi).1 k hk.1), hO.mono (k3 i hi).2 fun k hk1 hk2 => ⟨hk2, hk1⟩⟩,
      fun i hi g hg ht => k4 i hi g hg ht.1, fun i j hi hj hij k ht ht' => k5 i j hi hj hij k ht.1 ht'.1⟩
  nil := fun w S => ⟨[], fun _ _ => False, World.ownsRow_nil _ _ _ _, fun g hg => by simp [Value.ownBlock] at hg, fun i hi => by simp at hi, fun i hi => by simp at hi, fun i j hi => by simp at hi⟩

theorem Local.below {α : Type} {O : World → (Nat → Prop) → Value → List α → Prop} (hO : Local O) {w w' : World} {S : Nat → Prop} {v : Value} {d : List α} (h : O w S v d) (hb : Below w.heap.size w w') : O w' S v d :=
  hO.loc h fun k _ hk => hb.block k hk
theorem Local.chg {α : Type} {O : World → (Nat → Prop) → Value → List α → Prop} (hO : Local O) {w w' : World} {S T : Nat → Prop} {v : Value} {d : List α} (h : O w S v d) (hc : ChgS T w w') (hd : ∀ k, S k → ¬ T k) : O w' S v d :=
  hO.loc h fun k h1 hk => hc.block k hk (hd k h1)
/-- the blocks that are there -/
theorem Local.cut {α : Type} {O : World → (Nat → Prop) → Value → List α → Prop} (hO : Local O) {w : World} {S : Nat → Prop} {v : Value} {d : List α} (h : O w S v d) : O w (fun k => S k ∧ k < w.heap.size) v d :=
  hO.mono h fun k hk hs => ⟨hs, hk⟩

theorem O1.rd {w : World} {S : Nat → Prop} {v : Value} {xs : List Int} (h : O1 w S v xs) : Rd w v xs := h.1.rd

section
variable {α : Type} {e : TypeId} {O : World → (Nat → Prop) → Value → List α → Prop}

/-- the shape of what is owned: its value, and each element's cell -/
theorem ON.open {w : World} {S : Nat → Prop} {v : Value} {ds : List (List α)} (h : ON e O w S v ds) :
    ∃ ao cap, v = .slice ao ds.length cap ∧ ds.length ≤ cap ∧ cap ≤ 9223372036854775807 ∧
      (ds.length = 0 ∨ ∃ g, ao = some ⟨g, 0, none⟩ ∧ S g ∧ g < w.heap.size ∧ ∀ j, j < ds.length → w.frozen? ⟨g, j, none⟩ = false ∧ ∃ r, w.cell? ⟨g, j, none⟩ = some r) := by
  obtain ⟨vs, T, h1, h2, h3, h4, h5⟩ := h
  have hvl : vs.length = ds.length := by have := h1.1; omega
  have h1' := h1
  rcases h1'.2 with ⟨rfl, h0⟩ | ⟨g, cap, cur, rfl, hb, hg, hnc, hcm, hcs, htake⟩
  · exact ⟨none, 0, by rw [h0], by omega, by omega, .inl h0⟩
  · refine ⟨_, cap, rfl, hnc, by unfold maxLen at hcm; omega, .inr ⟨g, rfl, h2 g rfl, (own_lt h1 rfl).2, fun j hj => ⟨h1.frozenAt j, vs.getD j undef, ?_⟩⟩⟩
    rw [h1.cellAt j (by omega), List.getD, List.getElem?_eq_getElem (by omega)]; rfl

/-- element i, and what stands when it alone is written -/
theorem ON.focus (hO : Local O) {w : World} {S : Nat → Prop} {v : Value} {ds : List (List α)} (h : ON e O w S v ds) (i : Nat) (hi' : i < ds.length) :
    ∃ g cap r T, v = .slice (some ⟨g, 0, none⟩) ds.length cap ∧ w.cell? ⟨g, i, none⟩ = some r ∧ O w T r (ds.getD i []) ∧ (∀ k, T k → S k) ∧
      ∀ w' d', ChgS T w w' → O w' T r d' → ON e O w' S v (ds.set i d') := by
  obtain ⟨vs, T, h1, h2, h3, h4, h5⟩ := h
  have hvl : vs.length = ds.length := by have := h1.1; omega
  have h1' := h1
  rcases h1'.2 with ⟨rfl, h0⟩ | ⟨g, cap, cur, rfl, hb, hg, hnc, hcm, hcs, htake⟩
  · omega
  have h3i := h3 i hi'
  have h4i := h4 i hi' g rfl
  refine ⟨g, cap, vs.getD i undef, T i, rfl, ?_, h3i.2, h3i.1, fun w' d' hc ho => ?_⟩
  · rw [h1.cellAt i (by omega), List.getD, List.getElem?_eq_getElem (by omega)]; rfl
  refine ⟨vs, T, ?_, h2, fun j hj => ?_, fun j hj => ?_, fun j k hj hk hjk => ?_⟩
  · rw [List.length_set]
    exact own_of_block h1 fun g' hg' => by
      obtain rfl : g = g' := Option.some.inj hg'
      exact hc.block g (own_lt h1 rfl).2 h4i
  · rw [List.length_set] at hj
    refine ⟨(h3 j hj).1, ?_⟩
    by_cases hij : i = j
    · subst hij
      rw [gset_self _ _ _ _ hi']
      exact ho
    · rw [gset_ne _ _ _ _ _ hij]
      exact hO.chg (h3 j hj).2 hc fun k hk => h5 j i hj hi' (Ne.symm hij) k hk
  · rw [List.length_set] at hj; exact h4 j hj
  · rw [List.length_set] at hj hk; exact h5 j k hj hk hjk

/-- a store of an element -/
theorem ON.set (hO : Local O) {w : World} {S T' : Nat → Prop} {g n cap : Nat} {ds : List (List α)} {i : Nat} {y : Value} {d : List α} (hn : n = ds.length) (h : ON e O w S (.slice (some ⟨g, 0, none⟩) n cap) ds) (hi' : i < ds.length)
    (hy : O w T' y d) (hd : ∀ k, T' k → ¬ S k) :
    ON e O (w.setCell ⟨g, i, none⟩ y) (fun k => S k ∨ T' k) (.slice (some ⟨g, 0, none⟩) n cap) (ds.set i d) ∧ Chg g (g + 1) w (w.setCell ⟨g, i, none⟩ y) := by
  subst hn
  obtain ⟨vs, T, h1, h2, h3, h4, h5⟩ := h
  have hvl : vs.length = ds.length := by have := h1.1; omega
  obtain ⟨s1, s2⟩ := h1.stored i y
  have hc := Chg.of_grown s2
  have hcS := ChgS.of_chg hc
  have hg := h2 g rfl
  refine ⟨⟨vs.set i y, fun j => if j = i then T' else T j, by rw [List.length_set]; exact s1, fun g' hg' => .inl (h2 g' hg'), fun j hj => ?_, fun j hj g' hg' => ?_, fun j k hj hk hjk => ?_⟩, hc⟩
  · rw [List.length_set] at hj
    by_cases hij : j = i
    · subst hij
      simp only [if_true]
      rw [gset_self _ _ _ _ (by omega), gset_self _ _ _ _ hj]
      exact ⟨fun k hk => .inr hk, hO.chg hy hcS fun k hk e => hd k hk (e ▸ hg)⟩
    · simp only [if_neg hij]
      rw [gset_ne _ _ _ _ _ (Ne.symm hij), gset_ne _ _ _ _ _ (Ne.symm hij)]
      exact ⟨fun k hk => .inl ((h3 j hj).1 k hk), hO.chg (h3 j hj).2 hcS fun k hk e => h4 j hj g rfl (e ▸ hk)⟩
  · rw [List.length_set] at hj
    obtain rfl : g = g' := Option.some.inj hg'
    by_cases hij : j = i
    · simp only [if_pos hij]; exact fun h => hd g h hg
    · simp only [if_neg hij]; exact h4 j hj g rfl
  · rw [List.length_set] at hj hk
    by_cases hij : j = i
    · by_cases hik : k = i
      · omega
      · simp only [if_pos hij, if_neg hik]; exact fun x hx hx' => hd x hx ((h3 k hk).1 x hx')
    · by_cases hik : k = i
      · simp only [if_neg hij, if_pos hik]; exact fun x hx hx' => hd x hx' ((h3 j hj).1 x hx)
      · simp only [if_neg hij, if_neg hik]; exact h5 j k hj hk hjk

theorem ON.form {w : World} {S : Nat → Prop} {v : Value} {ds : List (List α)} (h : ON e O w S v ds) : ∃ ao cap, v = .slice ao ds.length cap ∧ ds.length ≤ cap ∧ cap ≤ 9223372036854775807 := by
  obtain ⟨ao, cap, h1, h2, h3, _⟩ := h.open
  exact ⟨ao, cap, h1, h2, h3⟩

/-- 'append(out, x)': one element that the call owns already; the blocks behind it: the old ones, the element's, and new ones -/
theorem wp_appO (hO : Local O) {P : Program} (w : World) {ops : Array Oper} {rest : List Oper} {o : Oper} {a : Act} {Q : Exit → Act → World → Prop} (hgd : o.guard = none) (s x : Operand) (t : TypeId)
    (ho : o.op = .call { callee := .builtin .append, args := #[s, x], argTypes := #[t, t] })
    (i : TypeInfo) (ht : P.underlying t = some (.slice e)) (hi : P.info? e = some i) (hz : i.zero = some (.slice none 0 0)) (hsize : i.size = 1) (hby : i.bytes = 24)
    (S T' : Nat → Prop) (v : Value) (ds : List (List α)) (hs : a.eval s = v) (hown : ON e O w S v ds) (y : Value) (d : List α) (hy : O w T' y d) (hone : y.oneCell' = true) (hd : ∀ k, T' k → ¬ S k)
    (hx : a.eval x = .slice (some ⟨w.heap.size, 0, none⟩) 1 1) (hn : ds.length ≤ 1000000000)
    (h : ∀ v' w', ON e O w' (fun k => (S k ∨ T' k) ∧ k < w.heap.size ∨ w.heap.size ≤ k ∧ k < w'.heap.size) v' (ds ++ [d]) → ChgS (fun k => S k ∧ v.ownBlock = some k) w w' → wpList P ops Q rest (a.put o.dst v') w') : wpList P ops Q (o :: rest) a (w.alloc (.cells #[y] e)) := by
  obtain ⟨vs, T, k1, k2, k3, k4, k5⟩ := hown
  have hvl : vs.length = ds.length := by have := k1.1; omega
  refine wp_app _ hgd s x t ho 0 e i (.slice none 0 0) 24 ht hi hz hsize hby rfl v ds.length vs hs (World.ownsRow.alloc k1 _) _ [y] hx ?_ ?_ ?_ ?_ (Nat.zero_le _) ?_
  · refine ⟨_, 1, rfl, by simp, by simp, fun h => by (cases h), .inr ⟨w.heap.size, 0, rfl, fun j hj => ?_⟩⟩
    obtain rfl : j = 0 := by simpa using hj
    simp
  · intro u hu; simp at hu; subst hu; exact hone
  · simp [maxLen]; omega
  · simp; omega
  · intro v' w' g1 g2 g3
    have hG : Grew w w' v v' := ⟨⟨g2.os, g2.tape, g2.output, by have := g2.size; simp at this; omega, fun k hk hne => (g2.block k (by simp; omega) hne).trans (Below.heap_alloc w _ k hk)⟩, fun g hg => (g3 g hg).imp id fun h => by simp at h; omega⟩
    have hsz := hG.grown.size
    have keep : ∀ (A : Nat → Prop) (u : Value) (c : List α), O w A u c → (∀ g, v.ownBlock = some g → ¬ A g) → O w' (fun k => A k ∧ k < w.heap.size) u c := fun A u c hu hd' =>
      hO.loc (hO.cut hu) fun k hk1 hk3 => hG.grown.block k hk3 fun e => hd' k e.symm hk1.1
    have hvT : ∀ g, v.ownBlock = some g → ¬ T' g := fun g hg ht => hd g ht (k2 g hg)
    refine h v' w' ⟨vs ++ [y], fun j => if j = ds.length then fun k => T' k ∧ k < w.heap.size else fun k => T j k ∧ k < w.heap.size, by rw [List.length_append]; exact g1, fun g hg => ?_, fun j hj => ?_, fun j hj g hg => ?_, fun j k hj hk hjk => ?_⟩ (ChgS.of_grew hG fun g hg => ⟨k2 g hg, hg⟩)
    · have hlt := own_lt g1 hg
      rcases hG.moved g hg with hm | hm
      · exact .inl ⟨.inl (k2 g hm), (own_lt k1 hm).2⟩
      · exact .inr ⟨hm, hlt.2⟩
    · rw [List.length_append] at hj
      simp only [List.length_cons, List.length_nil] at hj
      by_cases hjl : j = ds.length
      · subst hjl
        simp only [if_true]
        rw [gapp_last, ← hvl, gapp_last]
        exact ⟨fun k hk => .inl ⟨.inr hk.1, hk.2⟩, keep _ _ _ hy hvT⟩
      · simp only [if_neg hjl]
        rw [gapp_left _ _ _ _ (by omega), gapp_left _ _ _ _ (by omega)]
        have := k3 j (by omega)
        exact ⟨fun k hk => .inl ⟨.inl (this.1 k hk.1), hk.2⟩, keep _ _ _ this.2 fun g hg => k4 j (by omega) g hg⟩
    · rw [List.length_append] at hj
      simp only [List.length_cons, List.length_nil] at hj
      by_cases hjl : j = ds.length
      · simp only [if_pos hjl]
        rcases hG.moved g hg with hm | hm
        · exact fun h => hvT g hm h.1
        · exact fun h => by have := h.2; omega
      · simp only [if_neg hjl]
        rcases hG.moved g hg with hm | hm
        · exact fun h => k4 j (by omega) g hm h.1
        · exact fun h => by have := h.2; omega
    · rw [List.length_append] at hj hk
      simp only [List.length_cons, List.length_nil] at hj hk
      by_cases hjn : j = ds.length
      · by_cases hkl : k = ds.length
        · omega
        · simp only [if_pos hjn, if_neg hkl]; exact fun x hx hx' => hd x hx.1 ((k3 k (by omega)).1 x hx'.1)
      · by_cases hkl : k = ds.length
        · simp only [if_neg hjn, if_pos hkl]; exact fun x hx hx' => hd x hx'.1 ((k3 j (by omega)).1 x hx.1)
        · simp only [if_neg hjn, if_neg hkl]; exact fun x hx hx' => k5 j k (by omega) (by omega) hjk x hx.1 hx'.1

/-- 'make([]T, n)' of nil slices -/
theorem wp_mkO (hO : Local O) {P : Program} (w : World) {ops : Array Oper} {rest : List Oper} {o : Oper} {a : Act} {Q : Exit → Act → World → Prop} (hgd : o.guard = none) (l c : Operand) (t : TypeId) (ho : o.op = Op.makeSlice t l c)
    (i : TypeInfo) (ht : P.underlying t = some (.slice e)) (hi : P.info? e = some i) (hz : i.zero = some (.slice none 0 0)) (hsize : i.size = 1) (hby : i.bytes = 24)
    (kl kc : IntKind) (L C : Int) (n : Nat) (hl : a.eval l = .int kl L) (hc : a.eval c = .int kc C) (hL : L = (n : Int)) (hC : C = (n : Int)) (hn : n ≤ 1000000000)
    (h : ∀ w', ON e O w' (win w.heap.size w'.heap.size) (.slice (some ⟨w.heap.size, 0, none⟩) n n) (List.replicate n []) → Below w.heap.size w w' → w.heap.size < w'.heap.size → wpList P ops Q rest (a.put o.dst (.slice (some ⟨w.heap.size, 0, none⟩) n n)) w') :
    wpList P ops Q (o :: rest) a w := by
  refine wpList_make_full w hgd l c t ho 0 e i (.slice none 0 0) 1 ht hi hz hsize kl kc L C n hl hc hL hC (by rw [hby]; omega) (by unfold maxLen; omega) (Nat.zero_le _) ?_
  intro w' hown hg
  rw [Nat.mul_one, show (Value.slice none 0 0).cells = #[.slice none 0 0] from rfl, toList_madeCells_one] at hown
  have hlt := own_lt hown (g := w.heap.size) rfl
  refine h w' ⟨List.replicate n (.slice none 0 0), fun _ _ => False, by rw [List.length_replicate]; exact hown, fun g hg => ?_, fun j hj => ?_, fun j hj g hg h => h, fun j k _ _ _ x hx => hx.elim⟩ ((Below.refl _ _).grown hg (Nat.le_refl _) (by intro k hk; cases hk)) hlt.2
  · obtain rfl : w.heap.size = g := Option.some.inj hg
    exact ⟨Nat.le_refl _, hlt.2⟩
  · rw [List.length_replicate] at hj
    refine ⟨fun k hk => hk.elim, ?_⟩
    rw [grep_at _ _ _ _ hj, grep_at _ _ _ _ hj]
    exact hO.nil _ _
end

def O2 := ON 24 O1
theorem local_O2 : Local O2 := local_ON local_O1
theorem O2.rd {w : World} {S : Nat → Prop} {v : Value} {xss : List (List Int)} (h : O2 w S v xss) : Rd2 w v xss := by
  obtain ⟨vs, T, h1, h2, h3, h4, h5⟩ := h
  exact ⟨vs, rdV_of_own h1, by have := h1.1; omega, fun i hi => (h3 i hi).2.rd⟩
--== three levels
def O3 := ON 25 O2
theorem local_O3 : Local O3 := local_ON local_O2
theorem O3.rd {w : World} {S : Nat → Prop} {v : Value} {xsss : List (List (List Int))} (h : O3 w S v xsss) : Rd3 w v xsss := by
  obtain ⟨vs, T, h1, h2, h3, h4, h5⟩ := h
  exact ⟨vs, rdV_of_own h1, by have := h1.1; omega, fun i hi => (h3 i hi).2.rd⟩

--== plain (Help)
/-- what a call returns that makes a list of lists -/
def RetO {α : Type} (O : World → (Nat → Prop) → Value → List α → Prop) (w : World) (d : List α) (e : Ending) (w' : World) : Prop := ∃ v, e = .returned v ∧ O w' (win w.heap.size w'.heap.size) v d ∧ Below w.heap.size w w'
theorem Ints.o1 {w : World} {B : Nat} {v : Value} {xs : List Int} (h : Ints w B v xs) : O1 w (win B w.heap.size) v xs := ⟨h.mono (Nat.zero_le _), fun g hg => h.lt g hg⟩

--== a row that is filled by index
def fillR {α : Type} (ds : List (List α)) (j : Nat) : List (List α) := ds.take j ++ List.replicate (ds.length - j) []
theorem fillR_length {α : Type} (ds : List (List α)) (j : Nat) (h : j ≤ ds.length) : (fillR ds j).length = ds.length := by simp [fillR]; omega
theorem fillR_zero {α : Type} (ds : List (List α)) : fillR ds 0 = List.replicate ds.length [] := by simp [fillR]
theorem fillR_all {α : Type} (ds : List (List α)) : fillR ds ds.length = ds := by simp [fillR]
theorem fillR_set {α : Type} (ds : List (List α)) (j : Nat) (h : j < ds.length) : (fillR ds j).set j (ds.getD j []) = fillR ds (j + 1) := by
  unfold fillR
  rw [take_snoc ds j [] h, List.set_append_right _ _ (by simp; omega)]
  have : ds.length - j = (ds.length - (j + 1)) + 1 := by omega
  rw [this, List.replicate_succ]
  simp [List.length_take, Nat.min_eq_left (Nat.le_of_lt h)]
theorem len_le_cat (xss : List (List Int)) (j : Nat) (h : j < xss.length) : (xss.getD j []).length ≤ (cat xss).length := by
  have h1 := flat_le xss (j + 1)
  rw [flat_succ xss j h, List.length_append] at h1
  omega

--== readings and draws
theorem Rd.drewN {w : World} {n : Nat} {v : Value} {xs : List Int} (h : Rd w v xs) : Rd (w.drewN n) v xs := h
theorem Rd2.drewN {w : World} {n : Nat} {v : Value} {xs : List (List Int)} (h : Rd2 w v xs) : Rd2 (w.drewN n) v xs := h
--== marks of lists of lists
def off2 (xss : List (List Int)) (i : Nat) : Nat := (cat (xss.take i)).length
theorem off2_succ (xss : List (List Int)) (j : Nat) (h : j < xss.length) : off2 xss (j + 1) = off2 xss j + (xss.getD j []).length := by
  unfold off2; rw [flat_succ xss j h, List.length_append]
theorem off2_all (xss : List (List Int)) : off2 xss xss.length = (cat xss).length := by unfold off2; rw [List.take_length]
theorem off2_le (xss : List (List Int)) (j : Nat) : off2 xss j ≤ (cat xss).length := flat_le xss j
/-- the first j rows marked -/
def M2 (k : Int) (xss : List (List Int)) (j : Nat) : List (List Int) := (List.range xss.length).map fun i => if i < j then marks (k + off2 xss i) (xss.getD i []).length else xss.getD i []
theorem M2_length (k : Int) (xss : List (List Int)) (j : Nat) : (M2 k xss j).length = xss.length := by simp [M2]
theorem M2_getD (k : Int) (xss : List (List Int)) (j i : Nat) (h : i < xss.length) : (M2 k xss j).getD i [] = if i < j then marks (k + off2 xss i) (xss.getD i []).length else xss.getD i [] := by
  unfold M2; rw [List.getD_eq_getElem?_getD, List.getElem?_map, List.getElem?_range h]; rfl
theorem ext_get {β : Type} {xs ys : List (List β)} (hl : xs.length = ys.length) (h : ∀ j, j < xs.length → xs.getD j [] = ys.getD j []) : xs = ys := by
  apply List.ext_getElem hl
  intro j h1 h2
  have := h j h1
  simpa [List.getD, h1, h2] using this
theorem M2_zero (k : Int) (xss : List (List Int)) : M2 k xss 0 = xss := by
  refine ext_get (M2_length _ _ _) fun j hj => ?_
  rw [M2_length] at hj
  rw [M2_getD _ _ _ _ hj, if_neg (by omega)]
theorem M2_set (k : Int) (xss : List (List Int)) (j : Nat) (h : j < xss.length) : (M2 k xss j).set j (marks (k + off2 xss j) (xss.getD j []).length) = M2 k xss (j + 1) := by
  refine ext_get (by simp [M2_length]) fun i hi => ?_
  rw [List.length_set, M2_length] at hi
  by_cases e : j = i
  · subst e
    rw [gset_self _ _ _ _ (by rw [M2_length]; exact h), M2_getD _ _ _ _ h, if_pos (by omega)]
  · rw [gset_ne _ _ _ _ _ e, M2_getD _ _ _ _ hi, M2_getD _ _ _ _ hi]
    by_cases h2 : i < j
    · rw [if_pos h2, if_pos (by omega)]
    · rw [if_neg h2, if_neg (by omega)]

--== sizes
def szI (n : Nat) (left : Int) : Int := if (n : Int) ≤ left then left - n else -1
theorem szI_in {n : Nat} {left : Int} (h : (n : Int) ≤ left) : szI n left = left - n := if_pos h
theorem szI_out {n : Nat} {left : Int} (h : ¬ (n : Int) ≤ left) : szI n left = -1 := if_neg h
def size2 (xss : List (List Int)) : Nat := xss.length + (cat xss).length
--== plain (HelpB)
theorem Rd3.drewN {w : World} {n : Nat} {v : Value} {xs : List (List (List Int))} (h : Rd3 w v xs) : Rd3 (w.drewN n) v xs := h
/-- a sum over a list -/
def tot {β : Type} (f : β → Nat) (l : List β) : Nat := (l.map f).sum
def toff {β : Type} (f : β → Nat) (l : List β) (i : Nat) : Nat := tot f (l.take i)
theorem toff_succ {β : Type} (f : β → Nat) (l : List (List β)) (g : List β → Nat) (j : Nat) (h : j < l.length) : toff g l (j + 1) = toff g l j + g (l.getD j []) := by
  unfold toff tot; rw [take_snoc l j [] h]; simp
theorem toff_all {β : Type} (f : β → Nat) (l : List β) : toff f l l.length = tot f l := by unfold toff; rw [List.take_length]
theorem toff_le {β : Type} (f : β → Nat) (l : List β) (j : Nat) : toff f l j ≤ tot f l := by
  have h : tot f l = tot f (l.take j) + tot f (l.drop j) := by
    unfold tot; rw [← List.sum_append, ← List.map_append, List.take_append_drop]
  unfold toff; omega
theorem tot_elem {β : Type} (g : List β → Nat) (l : List (List β)) (j : Nat) (h : j < l.length) : g (l.getD j []) ≤ tot g l := by
  have h1 := toff_le g l (j + 1)
  rw [toff_succ (fun _ => 0) l g j h] at h1
  omega
theorem toff_zero {β : Type} (f : β → Nat) (l : List β) : toff f l 0 = 0 := by simp [toff, tot]
def lenc (x : List (List Int)) : Nat := (cat x).length
def tot3 (x : List (List (List Int))) : Nat := tot lenc x
def off3 (x : List (List (List Int))) (i : Nat) : Nat := toff lenc x i
theorem off3_succ (x : List (List (List Int))) (j : Nat) (h : j < x.length) : off3 x (j + 1) = off3 x j + lenc (x.getD j []) := toff_succ (fun _ => 0) x lenc j h
theorem off3_all (x : List (List (List Int))) : off3 x x.length = tot3 x := toff_all _ _
theorem off3_le (x : List (List (List Int))) (j : Nat) : off3 x j ≤ tot3 x := toff_le _ _ _
theorem len_le_tot3 (x : List (List (List Int))) (j : Nat) (h : j < x.length) : lenc (x.getD j []) ≤ tot3 x := tot_elem lenc x j h
def tots (x : List (List (List Int))) : Nat := tot List.length x
theorem len_le_tots (x : List (List (List Int))) (j : Nat) (h : j < x.length) : (x.getD j []).length ≤ tots x := tot_elem List.length x j h
def M3 (k : Int) (x : List (List (List Int))) (j : Nat) : List (List (List Int)) := (List.range x.length).map fun i => if i < j then M2 (k + off3 x i) (x.getD i []) (x.getD i []).length else x.getD i []
theorem M3_length (k : Int) (x : List (List (List Int))) (j : Nat) : (M3 k x j).length = x.length := by simp [M3]
theorem M3_getD (k : Int) (x : List (List (List Int))) (j i : Nat) (h : i < x.length) : (M3 k x j).getD i [] = if i < j then M2 (k + off3 x i) (x.getD i []) (x.getD i []).length else x.getD i [] := by
  unfold M3; rw [List.getD_eq_getElem?_getD, List.getElem?_map, List.getElem?_range h]; rfl
theorem M3_zero (k : Int) (x : List (List (List Int))) : M3 k x 0 = x := by
  refine ext_get (M3_length _ _ _) fun j hj => ?_
  rw [M3_length] at hj
  rw [M3_getD _ _ _ _ hj, if_neg (by omega)]
theorem M3_set (k : Int) (x : List (List (List Int))) (j : Nat) (h : j < x.length) : (M3 k x j).set j (M2 (k + off3 x j) (x.getD j []) (x.getD j []).length) = M3 k x (j + 1) := by
  refine ext_get (by simp [M3_length]) fun i hi => ?_
  rw [List.length_set, M3_length] at hi
  by_cases e : j = i
  · subst e
    rw [gset_self _ _ _ _ (by rw [M3_length]; exact h), M3_getD _ _ _ _ h, if_pos (by omega)]
  · rw [gset_ne _ _ _ _ _ e, M3_getD _ _ _ _ hi, M3_getD _ _ _ _ hi]
    by_cases h2 : i < j
    · rw [if_pos h2, if_pos (by omega)]
    · rw [if_neg h2, if_neg (by omega)]
theorem Try.infoRow2 : (Try.prog.info? 25).map (fun i => (i.zero, i.size, i.bytes)) = some (some (.slice none 0 0), 1, 24) := by kernel_rfl
--== sizes
--needs toff
def size3 (x : List (List (List Int))) : Nat := x.length + tot size2 x
theorem tsize_succ (x : List (List (List Int))) (j : Nat) (h : j < x.length) : toff size2 x (j + 1) = toff size2 x j + size2 (x.getD j []) := toff_succ (fun _ => 0) x size2 j h
--== end
end Go.Proofs.Ytiikoappknejgaa
namespace Go.Proofs.Ytiikoappknejgaa
set_option linter.unusedVariables false
set_option linter.unusedSimpArgs false
set_option maxRecDepth 100000
open Go.RowKit

/-- WHAT THE WALK IS TOLD OF A SLICE OF INTEGERS THAT CAME IN -/
def IsRow (k : IntKind) (w : World) (a : Option Addr) (len cap : Nat) (zs : List Int) : Prop :=
  (a = none ∧ len = 0 ∧ cap = 0 ∧ zs = []) ∨
  ∃ x, a = some x ∧ len ≤ cap ∧ cap ≤ maxLen ∧ zs.length = cap ∧ (∀ i, i < zs.length → w.cell? (x.add i) = some (.int k (zs.getD i 0))) ∧ ∀ n ∈ zs, (Lit.int k n).wf = true

theorem IsRow.rd {w : World} {a : Option Addr} {len cap : Nat} {zs : List Int} (h : IsRow .i64 w a len cap zs) : Rd w (.slice a len cap) (zs.take len) := by
  rcases h with ⟨rfl, rfl, rfl, rfl⟩ | ⟨x, rfl, h1, h2, h3, h4, h5⟩
  · exact Rd.nil w
  · have hl : (zs.take len).length = len := by simp; omega
    refine ⟨some x, cap, by rw [hl], by omega, by unfold maxLen at h2; omega, fun h => by (cases h), ?_⟩
    by_cases h0 : len = 0
    · exact .inl (by omega)
    · obtain ⟨b, off, spot⟩ := x
      have hc := h4 0 (by omega)
      have hspot : spot = none := by simpa [Addr.add] using World.cell?_spot hc
      subst hspot
      refine .inr ⟨b, off, rfl, fun j hj => ?_⟩
      have := h4 j (by omega)
      rw [Addr.add_lit] at this
      rw [this]
      simp [List.getD, show j < len by omega]

theorem wf_bd {n : Int} (h : (Lit.int .i64 n).wf = true) : -9223372036854775808 ≤ n ∧ n ≤ 9223372036854775807 := by
  have h1 : IntKind.i64.min = -9223372036854775808 := rfl
  have h2 : IntKind.i64.max = 9223372036854775807 := rfl
  simp only [Lit.wf, Bool.and_eq_true, decide_eq_true_eq] at h
  omega
end Go.Proofs.Ytiikoappknejgaa
