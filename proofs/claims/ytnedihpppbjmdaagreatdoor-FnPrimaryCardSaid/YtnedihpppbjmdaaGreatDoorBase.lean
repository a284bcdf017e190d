/-
  The vocabulary of the walks: a slice that reads as a list of integers ('Rd'), one that a call has made ('Ints'), what a call may have changed ('Chg').
-/
import Derived.Test.YtnedihpppbjmdaaGreatDoorRows
import Derived.WalkKit
import Derived.WalkSpells
import Derived.WalkLawsBesides
import Derived.BigQuiet
import Derived.Deep.QuietTactic
import Derived.Deep.LoopGhost
import Derived.Deep.DeepMust
import Derived.Lib.Hide
namespace Go.Proofs.YtnedihpppbjmdaaGreatDoor
set_option linter.unusedVariables false
set_option linter.unusedSimpArgs false
set_option maxRecDepth 100000
open Go.RowKit

theorem Tryz.info2 : (Tryz.prog.info? 2).map (fun i => (i.zero, i.size, i.bytes)) = some (some (.int .i64 0), 1, 8) := by kernel_rfl
--== bools
theorem Tryz.infoBool : (Tryz.prog.info? 4).map (fun i => (i.zero, i.size, i.bytes)) = some (some (.bool false), 1, 1) := by kernel_rfl
--== bytes
theorem Tryz.infoByte : (Tryz.prog.info? 5).map (fun i => (i.zero, i.size, i.bytes)) = some (some (.int .u8 0), 1, 1) := by kernel_rfl
--== rows
theorem Tryz.infoRow : (Tryz.prog.info? 24).map (fun i => (i.zero, i.size, i.bytes)) = some (some (.slice none 0 0), 1, 24) := by kernel_rfl
--== rest

/-- The cells of the slice value v are vs (whoever owns them). -/
def RdV (w : World) (v : Value) (vs : List Value) : Prop :=
  ∃ ao cap, v = .slice ao vs.length cap ∧ vs.length ≤ cap ∧ cap ≤ 9223372036854775807 ∧ (ao = none → cap = 0) ∧
    (vs.length = 0 ∨ ∃ b off, ao = some ⟨b, off, none⟩ ∧ ∀ j, j < vs.length → w.cell? ⟨b, off + j, none⟩ = vs[j]?)

theorem RdV.of_cells {w w' : World} {v : Value} {vs : List Value} (h : RdV w v vs) (hc : ∀ a u, w.cell? a = some u → w'.cell? a = some u) : RdV w' v vs := by
  obtain ⟨ao, cap, rfl, h1, h2, h0, h3⟩ := h
  refine ⟨ao, cap, rfl, h1, h2, h0, ?_⟩
  rcases h3 with h3 | ⟨b, off, rfl, h3⟩
  · exact .inl h3
  · refine .inr ⟨b, off, rfl, fun j hj => ?_⟩
    have := h3 j hj
    rw [List.getElem?_eq_getElem hj] at this ⊢
    exact hc _ _ this

theorem RdV.below {w w' : World} {v : Value} {vs : List Value} (h : RdV w v vs) (hb : Below w.heap.size w w') : RdV w' v vs :=
  h.of_cells fun a _ ha => (hb.cell (World.block_lt_of_cell? w a ha)).trans ha

/-- The slice value v reads as the integers xs (whoever owns its cells). -/
def Rd (w : World) (v : Value) (xs : List Int) : Prop :=
  ∃ ao cap, v = .slice ao xs.length cap ∧ xs.length ≤ cap ∧ cap ≤ 9223372036854775807 ∧ (ao = none → cap = 0) ∧
    (xs.length = 0 ∨ ∃ b off, ao = some ⟨b, off, none⟩ ∧ ∀ j, j < xs.length → w.cell? ⟨b, off + j, none⟩ = some (.int .i64 (xs.getD j 0)))

theorem Rd.of_cells {w w' : World} {v : Value} {xs : List Int} (h : Rd w v xs) (hc : ∀ a u, w.cell? a = some u → w'.cell? a = some u) : Rd w' v xs := by
  obtain ⟨ao, cap, rfl, h1, h2, h0, h3⟩ := h
  refine ⟨ao, cap, rfl, h1, h2, h0, ?_⟩
  rcases h3 with h3 | ⟨b, off, rfl, h3⟩
  · exact .inl h3
  · exact .inr ⟨b, off, rfl, fun j hj => hc _ _ (h3 j hj)⟩

theorem Rd.below {w w' : World} {v : Value} {xs : List Int} (h : Rd w v xs) (hb : Below w.heap.size w w') : Rd w' v xs :=
  h.of_cells fun a _ ha => (hb.cell (World.block_lt_of_cell? w a ha)).trans ha

theorem Rd.form {w : World} {v : Value} {xs : List Int} (h : Rd w v xs) : ∃ ao cap, v = .slice ao xs.length cap ∧ xs.length ≤ cap ∧ cap ≤ 9223372036854775807 := by
  obtain ⟨ao, cap, h1, h2, h3, _⟩ := h
  exact ⟨ao, cap, h1, h2, h3⟩

theorem Rd.nil (w : World) : Rd w (.slice none 0 0) [] := ⟨none, 0, rfl, by simp, by simp, fun _ => rfl, .inl rfl⟩

theorem getD_map_int (xs : List Int) (j : Nat) (h : j < xs.length) : (xs.map (Value.int .i64))[j]? = some (.int .i64 (xs.getD j 0)) := by
  simp [List.getD, h]

theorem RdV.ints {w : World} {v : Value} {xs : List Int} (h : RdV w v (xs.map (Value.int .i64))) : Rd w v xs := by
  obtain ⟨ao, cap, rfl, h1, h2, h0, h3⟩ := h
  simp only [List.length_map] at h1 h3 ⊢
  refine ⟨ao, cap, rfl, h1, h2, h0, ?_⟩
  rcases h3 with h3 | ⟨b, off, rfl, h3⟩
  · exact .inl h3
  · exact .inr ⟨b, off, rfl, fun j hj => (h3 j hj).trans (getD_map_int xs j hj)⟩

theorem Rd.cells {w : World} {v : Value} {xs : List Int} (h : Rd w v xs) : RdV w v (xs.map (Value.int .i64)) := by
  obtain ⟨ao, cap, rfl, h1, h2, h0, h3⟩ := h
  refine ⟨ao, cap, by simp, by simpa using h1, h2, h0, ?_⟩
  rcases h3 with h3 | ⟨b, off, rfl, h3⟩
  · exact .inl (by simpa using h3)
  · exact .inr ⟨b, off, rfl, fun j hj => by rw [h3 j (by simpa using hj), getD_map_int xs j (by simpa using hj)]⟩

/-- What is owned reads. -/
theorem rdV_of_own {w : World} {B e : Nat} {v : Value} {n : Nat} {vs : List Value} (h : w.ownsRow B e 1 v n vs) : RdV w v vs := by
  have hn : vs.length = n := by have := h.1; omega
  rcases h.2 with ⟨rfl, rfl⟩ | ⟨g, cap, cur, rfl, hb, hg, hnc, hcm, hcs, htake⟩
  · have : vs = [] := List.eq_nil_of_length_eq_zero hn
    subst this
    exact ⟨none, 0, rfl, by simp, by simp, fun _ => rfl, .inl rfl⟩
  · refine ⟨_, cap, by rw [hn], by omega, by unfold maxLen at hcm; omega, fun h => by (cases h), .inr ⟨g, 0, rfl, fun j hj => ?_⟩⟩
    rw [Nat.zero_add]
    exact h.cellAt j (by omega)

/-- The slice value v is nil, or starts at the head of a row of its own in a block from B on, whose first cells are the integers xs. -/
def Ints (w : World) (B : Nat) (v : Value) (xs : List Int) : Prop := w.ownsRow B 2 1 v xs.length (xs.map (Value.int .i64))

theorem Ints.rd {w : World} {B : Nat} {v : Value} {xs : List Int} (h : Ints w B v xs) : Rd w v xs := (rdV_of_own h).ints

theorem own_mono {w : World} {B B' e n : Nat} {v : Value} {vs : List Value} (h : w.ownsRow B e 1 v n vs) (hB : B' ≤ B) : w.ownsRow B' e 1 v n vs := by
  refine ⟨h.1, ?_⟩
  rcases h.2 with h2 | ⟨g, cap, cur, hv, hg, r⟩
  · exact .inl h2
  · exact .inr ⟨g, cap, cur, hv, Nat.le_trans hB hg, r⟩

theorem Ints.mono {w : World} {B B' : Nat} {v : Value} {xs : List Int} (h : Ints w B v xs) (hB : B' ≤ B) : Ints w B' v xs := own_mono h hB

theorem Ints.nil (w : World) (B : Nat) : Ints w B (.slice none 0 0) [] := World.ownsRow_nil _ _ _ _

/-- What is owned lies in a block that is there. -/
theorem own_lt {w : World} {B e n : Nat} {v : Value} {vs : List Value} (h : w.ownsRow B e 1 v n vs) {g : Nat} (hg : v.ownBlock = some g) : B ≤ g ∧ g < w.heap.size := h.lt g hg

theorem own_of_block {w w' : World} {B e n : Nat} {v : Value} {vs : List Value} (h : w.ownsRow B e 1 v n vs) (hb : ∀ g, v.ownBlock = some g → w'.heap[g]? = w.heap[g]?) : w'.ownsRow B e 1 v n vs := by
  refine ⟨h.1, ?_⟩
  rcases h.2 with h2 | ⟨g, cap, cur, rfl, hg, hh, r⟩
  · exact .inl h2
  · exact .inr ⟨g, cap, cur, rfl, hg, (hb g rfl).trans hh, r⟩

theorem own_below {w w' : World} {B e n : Nat} {v : Value} {vs : List Value} (h : w.ownsRow B e 1 v n vs) (hb : Below w.heap.size w w') : w'.ownsRow B e 1 v n vs :=
  own_of_block h fun g hg => hb.block g (own_lt h hg).2

theorem Ints.below {w w' : World} {B : Nat} {v : Value} {xs : List Int} (h : Ints w B v xs) (hb : Below w.heap.size w w') : Ints w' B v xs := own_below h hb

/-- w' is w, but for new blocks and for what has been written to blocks lo .. hi-1. -/
structure Chg (lo hi : Nat) (w w' : World) : Prop where
  os : w'.os = w.os
  tape : w'.tape = w.tape
  output : w'.output = w.output
  size : w.heap.size ≤ w'.heap.size
  block : ∀ k, k < w.heap.size → (k < lo ∨ hi ≤ k) → w'.heap[k]? = w.heap[k]?

theorem Chg.below {lo hi B : Nat} {w w' : World} (h : Chg lo hi w w') (h1 : B ≤ lo) (h2 : B ≤ w.heap.size) : Below B w w' :=
  ⟨h.os, h.tape, h.output, h.size, fun k hk => h.block k (by omega) (by omega)⟩

theorem Chg.of_below {w w' : World} (h : Below w.heap.size w w') (lo hi : Nat) : Chg lo hi w w' :=
  ⟨h.os, h.tape, h.output, h.size, fun k hk _ => h.block k hk⟩

theorem Chg.of_grown {w w' : World} {g : Nat} (h : w.grownBy w' (some g)) : Chg g (g + 1) w w' :=
  ⟨h.os, h.tape, h.output, h.size, fun k hk hh => h.block k hk (by intro e; cases e; omega)⟩

theorem Chg.refl (lo hi : Nat) (w : World) : Chg lo hi w w := ⟨rfl, rfl, rfl, Nat.le_refl _, fun _ _ _ => rfl⟩

theorem Chg.trans {lo hi lo' hi' lo'' hi'' : Nat} {a b c : World} (h : Chg lo hi a b) (k : Chg lo' hi' b c) (h1 : lo'' ≤ lo) (h2 : lo'' ≤ lo') (h3 : hi ≤ hi'') (h4 : hi' ≤ hi'') : Chg lo'' hi'' a c :=
  ⟨k.os.trans h.os, k.tape.trans h.tape, k.output.trans h.output, Nat.le_trans h.size k.size, fun i hi hh => (k.block i (by have := h.size; omega) (by omega)).trans (h.block i hi (by omega))⟩

theorem own_chg {w w' : World} {B e n lo hi : Nat} {v : Value} {vs : List Value} (h : w.ownsRow B e 1 v n vs) (hc : Chg lo hi w w') (hd : ∀ g, v.ownBlock = some g → g < lo ∨ hi ≤ g) : w'.ownsRow B e 1 v n vs :=
  own_of_block h fun g hg => hc.block g (own_lt h hg).2 (hd g hg)

theorem Ints.chg {w w' : World} {B lo hi : Nat} {v : Value} {xs : List Int} (h : Ints w B v xs) (hc : Chg lo hi w w') (hd : ∀ g, v.ownBlock = some g → g < lo ∨ hi ≤ g) : Ints w' B v xs := own_chg h hc hd

theorem Ints.lt {w : World} {B : Nat} {v : Value} {xs : List Int} (h : Ints w B v xs) : ∀ g, v.ownBlock = some g → B ≤ g ∧ g < w.heap.size := h.2 |> fun _ => World.ownsRow.lt h

/-- The shape of an owned slice that is not empty. -/
theorem Ints.open {w : World} {B : Nat} {v : Value} {xs : List Int} (h : Ints w B v xs) (hx : 0 < xs.length) :
    ∃ g cap, v = .slice (some ⟨g, 0, none⟩) xs.length cap ∧ B ≤ g ∧ g < w.heap.size ∧ xs.length ≤ cap ∧ cap ≤ 9223372036854775807 ∧ (∀ j, j < xs.length → w.cell? ⟨g, j, none⟩ = some (.int .i64 (xs.getD j 0))) ∧ ∀ j, w.frozen? ⟨g, j, none⟩ = false := by
  have h' := h
  rcases h'.2 with ⟨_, h0⟩ | ⟨g, cap, cur, rfl, hb, hg, hnc, hcm, hcs, htake⟩
  · omega
  · have h1 : w.ownsRow B 2 1 (.slice (some ⟨g, 0, none⟩) xs.length cap) xs.length (xs.map (Value.int .i64)) := h
    refine ⟨g, cap, rfl, hb, (own_lt h1 rfl).2, hnc, by unfold maxLen at hcm; omega, fun j hj => ?_, fun j => h1.frozenAt j⟩
    rw [h1.cellAt j (by omega), getD_map_int xs j hj]

/-- The shape of any owned slice. -/
theorem Ints.form {w : World} {B : Nat} {v : Value} {xs : List Int} (h : Ints w B v xs) : ∃ ao cap, v = .slice ao xs.length cap ∧ xs.length ≤ cap ∧ cap ≤ 9223372036854775807 := by
  obtain ⟨ao, cap, rfl, h1, h2, h3, _⟩ := h.rd
  exact ⟨ao, cap, rfl, h1, h2⟩

/-- A store into an owned slice. -/
theorem Ints.set {w : World} {B g cap : Nat} {xs : List Int} {n : Nat} (hn : n = xs.length) (h : Ints w B (.slice (some ⟨g, 0, none⟩) n cap) xs) (j : Nat) (y : Int) :
    Ints (w.setCell ⟨g, j, none⟩ (.int .i64 y)) B (.slice (some ⟨g, 0, none⟩) n cap) (xs.set j y) ∧ Chg g (g + 1) w (w.setCell ⟨g, j, none⟩ (.int .i64 y)) := by
  subst hn
  have h1 : w.ownsRow B 2 1 (.slice (some ⟨g, 0, none⟩) xs.length cap) xs.length (xs.map (Value.int .i64)) := h
  obtain ⟨a, b⟩ := h1.stored j (.int .i64 y)
  refine ⟨?_, Chg.of_grown b⟩
  unfold Ints
  rw [List.length_set, List.map_set]
  exact a

theorem Ints.take {w : World} {B g cap n m : Nat} {xs : List Int} (hn : n = xs.length) (h : Ints w B (.slice (some ⟨g, 0, none⟩) n cap) xs) (hm : m ≤ n) : Ints w B (.slice (some ⟨g, 0, none⟩) m cap) (xs.take m) := by
  subst hn
  have h1 : w.ownsRow B 2 1 (.slice (some ⟨g, 0, none⟩) xs.length cap) xs.length (xs.map (Value.int .i64)) := h
  rcases h1.2 with ⟨h', _⟩ | ⟨g', cap', cur, h', hb, hg, hnc, hcm, hcs, htake⟩
  · simp at h'
  · simp only [Value.slice.injEq, Option.some.injEq, Addr.mk.injEq, and_true, true_and] at h'
    obtain ⟨rfl, rfl⟩ := h'
    have hl : (xs.take m).length = m := by simp; omega
    refine ⟨by simp, .inr ⟨g, cap, cur, by rw [hl], hb, hg, by omega, hcm, hcs, ?_⟩⟩
    rw [hl, List.map_take, ← htake, List.take_take]
    congr 1
    omega

/-! ### append -/

theorem moved_same {v v' : Value} {n : Nat} (h : v'.ownBlock = v.ownBlock) : ∀ g, v'.ownBlock = some g → v.ownBlock = some g ∨ n ≤ g := fun _ hg => .inl (h ▸ hg)

theorem run_app {P : Program} (w : World) (B : Nat) (t ty e : TypeId) (i : TypeInfo) (z : Value) (bytes : Nat) (ht : P.underlying t = some (.slice e)) (hi : P.info? e = some i) (hz : i.zero = some z)
    (hsize : i.size = 1) (hby : i.bytes = bytes) (hzs : z.cells.size = 1) (v : Value) (n : Nat) (xs : List Value) (hown : w.ownsRow B e 1 v n xs)
    (vx : Value) (news : List Value) (hx : RdV w vx news) (h1 : ∀ u ∈ news, u.oneCell' = true) (h63 : n + news.length ≤ maxLen) (hbytes : (n + news.length) * bytes ≤ 140737488355328) (hB : B ≤ w.heap.size) :
    ∃ v' w', (Builtin.append_ #[t, t] ty #[v, vx]).run P w = .ok v' w' ∧ w'.ownsRow B e 1 v' (n + news.length) (xs ++ news) ∧ w.grownBy w' v.ownBlock ∧ ∀ g, v'.ownBlock = some g → v.ownBlock = some g ∨ w.heap.size ≤ g := by
  obtain ⟨ao, c, rfl, hc1, hc2, h0, hcell⟩ := hx
  cases ao with
  | none =>
    have hnews : news = [] := by have := h0 rfl; exact List.eq_nil_of_length_eq_zero (by omega)
    have hc : c = 0 := h0 rfl
    subst hnews hc
    exact ⟨v, w, run_append_owned_none w B t ty e i 1 ht hi v n xs hown, by simpa using hown, World.grownBy.refl _ _, moved_same rfl⟩
  | some ad =>
    have hnews : ∀ j u, news[j]? = some u → w.cell? (ad.add j) = some u := by
      intro j u hu
      have hj : j < news.length := (List.getElem?_eq_some_iff.1 hu).1
      rcases hcell with hcell | ⟨b, off, he, hcell⟩
      · omega
      · cases he
        rw [Addr.add_lit, hcell j hj, hu]
    have hxl : xs.length = n := by have := hown.1; omega
    rcases hown.2 with ⟨rfl, rfl⟩ | ⟨g, cap, cur, rfl, hbg, hg, hnc, hcm, hcs, htake⟩
    · obtain ⟨v', w', h2, h3, h4, h5⟩ := run_append_own w B t ty e i z 1 bytes ht hi hz hsize hby hzs (by decide) _ 0 xs hown ad news.length c news (by omega) hnews h1 h63 hbytes hB
      obtain ⟨v'', w'', h2', h3', h4', h5'⟩ := run_append_own w w.heap.size t ty e i z 1 bytes ht hi hz hsize hby hzs (by decide) _ 0 xs ⟨hown.1, .inl ⟨rfl, rfl⟩⟩ ad news.length c news (by omega) hnews h1 h63 hbytes (Nat.le_refl _)
      rw [h2] at h2'
      obtain ⟨rfl, rfl⟩ : v' = v'' ∧ w' = w'' := by simpa using h2'
      exact ⟨v', w', h2, h3, h4, fun k hk => .inr (h3'.lt k hk).1⟩
    · by_cases hroom : n + news.length ≤ cap
      · obtain ⟨w', h2, h3, h4⟩ := run_append_fits w B t ty e i 1 ht hi hsize g n cap xs hown ad news.length c news (by omega) hnews h1 hroom
        exact ⟨_, w', h2, h3, h4, moved_same rfl⟩
      · have holds : ∀ j u, xs[j]? = some u → w.cell? ((⟨g, 0, none⟩ : Addr).add j) = some u := hown.cells (g := g) rfl
        obtain ⟨v', w', h2, h3, h4⟩ := run_append_arg_grows w t ty e i z 1 bytes ht hi hz hsize hby hzs (by decide) ⟨g, 0, none⟩ n cap xs (by omega) holds ad news.length c news (by omega) hnews (by omega) h63 hbytes
        exact ⟨v', w', h2, own_mono h3 hB, ⟨h4.os, h4.tape, h4.output, h4.size, fun k hk _ => h4.block k hk (by simp)⟩, fun k hk => .inr (h3.lt k hk).1⟩

theorem wp_app {P : Program} (w : World) {ops : Array Oper} {rest : List Oper} {o : Oper} {a : Act} {Q : Exit → Act → World → Prop} (hgd : o.guard = none) (s x : Operand) (t : TypeId)
    (ho : o.op = .call { callee := .builtin .append, args := #[s, x], argTypes := #[t, t] })
    (B : Nat) (e : TypeId) (i : TypeInfo) (z : Value) (bytes : Nat) (ht : P.underlying t = some (.slice e)) (hi : P.info? e = some i) (hz : i.zero = some z)
    (hsize : i.size = 1) (hby : i.bytes = bytes) (hzs : z.cells.size = 1) (v : Value) (n : Nat) (xs : List Value) (hs : a.eval s = v) (hown : w.ownsRow B e 1 v n xs)
    (vx : Value) (news : List Value) (hx : a.eval x = vx) (hrd : RdV w vx news) (h1 : ∀ u ∈ news, u.oneCell' = true) (h63 : n + news.length ≤ maxLen) (hbytes : (n + news.length) * bytes ≤ 140737488355328) (hB : B ≤ w.heap.size)
    (h : ∀ v' w', w'.ownsRow B e 1 v' (n + news.length) (xs ++ news) → w.grownBy w' v.ownBlock → (∀ g, v'.ownBlock = some g → v.ownBlock = some g ∨ w.heap.size ≤ g) → wpList P ops Q rest (a.put o.dst v') w') : wpList P ops Q (o :: rest) a w := by
  refine wpList_plain hgd fun K hK' => ?_
  obtain ⟨v', w', hr, h2, h3, h4⟩ := run_app w B t o.type e i z bytes ht hi hz hsize hby hzs v n xs hown vx news hrd h1 h63 hbytes hB
  unfold Oper.wp execOp
  simp only [ho, resolve, invoke, builtin, Sem.run_bind, Sem.run_pure, Result.andThen_ok, List.map_toArray, List.map_cons, List.map_nil, hs, hx, hr]
  exact hK' _ _ (h v' w' h2 h3 h4)

/-- What an append does to the rest: v's block may be written, v' lies there or is new. -/
structure Grew (w w' : World) (v v' : Value) : Prop where
  grown : w.grownBy w' v.ownBlock
  moved : ∀ g, v'.ownBlock = some g → v.ownBlock = some g ∨ w.heap.size ≤ g

theorem Grew.below {B : Nat} {w w' : World} {v v' : Value} (h : Grew w w' v v') (hB : B ≤ w.heap.size) (hv : ∀ g, v.ownBlock = some g → B ≤ g) : Below B w w' :=
  (Below.refl B w).grown h.grown hB fun k hk => hv k hk

theorem Grew.own {w w' : World} {v v' : Value} (h : Grew w w' v v') {B e n : Nat} {u : Value} {us : List Value} (hu : w.ownsRow B e 1 u n us) (hd : ∀ g, u.ownBlock = some g → v.ownBlock ≠ some g) : w'.ownsRow B e 1 u n us :=
  own_of_block hu fun g hg => h.grown.block g (own_lt hu hg).2 fun e => hd g hg e.symm

theorem Grew.rd {w w' : World} {v v' : Value} (h : Grew w w' v v') {a : Addr} {u : Value} (hu : w.cell? a = some u) (hd : v.ownBlock ≠ some a.block) : w'.cell? a = some u :=
  h.grown.cell hu fun e => hd e.symm

/-- 'append(out, x)': one integer; the walk has laid it into a block of its own. -/
theorem wp_app1 {P : Program} (w : World) {ops : Array Oper} {rest : List Oper} {o : Oper} {a : Act} {Q : Exit → Act → World → Prop} (hgd : o.guard = none) (s x : Operand)
    (ho : o.op = .call { callee := .builtin .append, args := #[s, x], argTypes := #[24, 24] })
    (B : Nat) (i : TypeInfo) (ht : P.underlying 24 = some (.slice 2)) (hi : P.info? 2 = some i) (hz : i.zero = some (.int .i64 0)) (hsize : i.size = 1) (hby : i.bytes = 8)
    (v : Value) (xs : List Int) (hs : a.eval s = v) (hown : Ints w B v xs) (y : Int) (hx : a.eval x = .slice (some ⟨w.heap.size, 0, none⟩) 1 1) (hn : xs.length ≤ 1000000000) (hB : B ≤ w.heap.size)
    (h : ∀ v' w', Ints w' B v' (xs ++ [y]) → Grew w w' v v' → Below B w w' → wpList P ops Q rest (a.put o.dst v') w') : wpList P ops Q (o :: rest) a (w.alloc (.cells #[.int .i64 y] 2)) := by
  refine wp_app _ hgd s x 24 ho B 2 i (.int .i64 0) 8 ht hi hz hsize hby rfl v xs.length (xs.map (Value.int .i64)) hs (World.ownsRow.alloc hown _) _ [.int .i64 y] hx ?_ ?_ ?_ ?_ ?_ ?_
  · refine ⟨_, 1, rfl, by simp, by simp, fun h => by (cases h), .inr ⟨w.heap.size, 0, rfl, fun j hj => ?_⟩⟩
    obtain rfl : j = 0 := by simpa using hj
    simp
  · intro u hu; simp at hu; subst hu; rfl
  · simp [maxLen]; omega
  · simp; omega
  · simp; omega
  · intro v' w' h1 h2 h3
    have hg : Grew w w' v v' := ⟨⟨h2.os, h2.tape, h2.output, by have := h2.size; simp at this; omega, fun k hk hne => (h2.block k (by simp; omega) hne).trans (Below.heap_alloc w _ k hk)⟩, fun g hg => (h3 g hg).imp id fun h => by simp at h; omega⟩
    refine h v' w' ?_ hg (hg.below hB fun g hg => (hown.lt g hg).1)
    unfold Ints
    rw [List.length_append, List.map_append]
    exact h1

/-- 'append(out, ys...)' -/
theorem wp_appN {P : Program} (w : World) {ops : Array Oper} {rest : List Oper} {o : Oper} {a : Act} {Q : Exit → Act → World → Prop} (hgd : o.guard = none) (s x : Operand)
    (ho : o.op = .call { callee := .builtin .append, args := #[s, x], argTypes := #[24, 24] })
    (B : Nat) (i : TypeInfo) (ht : P.underlying 24 = some (.slice 2)) (hi : P.info? 2 = some i) (hz : i.zero = some (.int .i64 0)) (hsize : i.size = 1) (hby : i.bytes = 8)
    (v : Value) (xs : List Int) (hs : a.eval s = v) (hown : Ints w B v xs) (vx : Value) (ys : List Int) (hx : a.eval x = vx) (hrd : Rd w vx ys) (hn : xs.length ≤ 1000000000) (hm : ys.length ≤ 1000000000) (hB : B ≤ w.heap.size)
    (h : ∀ v' w', Ints w' B v' (xs ++ ys) → Grew w w' v v' → Below B w w' → wpList P ops Q rest (a.put o.dst v') w') : wpList P ops Q (o :: rest) a w := by
  refine wp_app _ hgd s x 24 ho B 2 i (.int .i64 0) 8 ht hi hz hsize hby rfl v xs.length (xs.map (Value.int .i64)) hs hown _ (ys.map (Value.int .i64)) hx hrd.cells (ints_oneCell _ _) ?_ ?_ hB ?_
  · simp [maxLen]; omega
  · simp; omega
  · intro v' w' h1 h2 h3
    have hg : Grew w w' v v' := ⟨h2, h3⟩
    refine h v' w' ?_ hg (hg.below hB fun g hg => (hown.lt g hg).1)
    unfold Ints
    rw [List.length_append, List.map_append]
    simpa using h1

theorem madeInts (n : Nat) : (madeCells (Value.int .i64 0).cells (n * 1)).toList = (List.replicate n (0 : Int)).map (Value.int .i64) := by
  rw [Nat.mul_one, show (Value.int .i64 0).cells = #[.int .i64 0] from rfl, toList_madeCells_one]; simp

/-- 'make([]int64, n)' -/
theorem wp_mkInts {P : Program} (w : World) {ops : Array Oper} {rest : List Oper} {o : Oper} {a : Act} {Q : Exit → Act → World → Prop} (hgd : o.guard = none) (l c : Operand) (ho : o.op = Op.makeSlice 24 l c)
    (i : TypeInfo) (ht : P.underlying 24 = some (.slice 2)) (hi : P.info? 2 = some i) (hz : i.zero = some (.int .i64 0)) (hsize : i.size = 1) (hby : i.bytes = 8)
    (kl kc : IntKind) (L C : Int) (n : Nat) (hl : a.eval l = .int kl L) (hc : a.eval c = .int kc C) (hL : L = (n : Int)) (hC : C = (n : Int)) (hn : n ≤ 1000000000)
    (h : ∀ w', Ints w' w.heap.size (.slice (some ⟨w.heap.size, 0, none⟩) n n) (List.replicate n 0) → Below w.heap.size w w' → w.heap.size < w'.heap.size → wpList P ops Q rest (a.put o.dst (.slice (some ⟨w.heap.size, 0, none⟩) n n)) w') :
    wpList P ops Q (o :: rest) a w := by
  refine wpList_make_full w hgd l c 24 ho w.heap.size 2 i (.int .i64 0) 1 ht hi hz hsize kl kc L C n hl hc hL hC (by rw [hby]; omega) (by unfold maxLen; omega) (Nat.le_refl _) ?_
  intro w' hown hg
  have hI : Ints w' w.heap.size (.slice (some ⟨w.heap.size, 0, none⟩) n n) (List.replicate n 0) := by
    unfold Ints
    rw [madeInts] at hown
    rw [List.length_replicate]
    exact hown
  exact h w' hI ((Below.refl _ _).grown hg (Nat.le_refl _) (by intro k hk; cases hk)) (hI.lt _ rfl).2

/-- What a call returns that makes a slice of integers: the slice is new, and nothing that was there has changed. -/
def RetInts (w : World) (xs : List Int) (e : Ending) (w' : World) : Prop := ∃ v, e = .returned v ∧ Ints w' w.heap.size v xs ∧ Below w.heap.size w w'
/-- The same with a code. -/
def RetInts2 (w : World) (xs : List Int) (c : Int) (e : Ending) (w' : World) : Prop := ∃ v, e = .returned (.tuple #[v, .int .i64 c]) ∧ Ints w' w.heap.size v xs ∧ Below w.heap.size w w'
/-- A call that only reads. -/
def RetQuiet (w : World) (v : Value) (e : Ending) (w' : World) : Prop := e = .returned v ∧ ∃ n, w' = w.drewN n

theorem drewN_drewN (w : World) (n m : Nat) : ∃ k, (w.drewN n).drewN m = w.drewN k := ⟨n + m, by simp [World.drewN, Nat.add_assoc]⟩
theorem drewN_zero (w : World) : ∃ k, w = w.drewN k := ⟨0, rfl⟩

theorem RetQuiet.below {w w' : World} {v : Value} {e : Ending} (h : RetQuiet w v e w') : e = .returned v ∧ Below w.heap.size w w' := by
  obtain ⟨rfl, n, rfl⟩ := h
  exact ⟨rfl, below_drewN (Below.refl _ _) n⟩

theorem below_size {w0 w w' : World} (h : Below w0.heap.size w0 w) (h' : Below w.heap.size w w') : Below w0.heap.size w0 w' := h.trans (h'.mono h.size)

theorem below_from {w w1 w' : World} {n : Nat} (h1 : Below w.heap.size w w1) (h : Below n w1 w') (hn : w.heap.size ≤ n) : Below w.heap.size w w' := h1.trans (h.mono hn)

theorem ret_bool {a b : Bool} (h : a = b) : Ending.returned (.bool a) = .returned (.bool b) := by rw [h]
theorem ret_int {k : IntKind} {a b : Int} (h : a = b) : Ending.returned (.int k a) = .returned (.int k b) := by rw [h]

/-- The call returns v, and nothing that was there has changed. -/
def RetV (w : World) (v : Value) (e : Ending) (w' : World) : Prop := e = .returned v ∧ Below w.heap.size w w'

theorem retV_same {P : Program} {f : FuncId} {args : Array Value} {w : World} {v : Value} (h : Calls P f args w fun e w' => e = .returned v ∧ w = w') : Calls P f args w (RetV w v) :=
  h.mono fun _ _ ⟨h1, h2⟩ => ⟨h1, h2 ▸ Below.refl _ _⟩

/-- The block of v, if it has one, is one of lo .. hi-1. -/
def Blk (v : Value) (lo hi : Nat) : Prop := ∀ g, v.ownBlock = some g → lo ≤ g ∧ g < hi
theorem Ints.blk {w : World} {B : Nat} {v : Value} {xs : List Int} (h : Ints w B v xs) : Blk v B w.heap.size := h.lt
theorem Grew.ints {w w' : World} {v v' u : Value} {B lo hi lo' hi' : Nat} {xs : List Int} (h : Grew w w' v v') (hu : Ints w B u xs) (bu : Blk u lo hi) (bv : Blk v lo' hi') (hd : hi ≤ lo' ∨ hi' ≤ lo) : Ints w' B u xs :=
  h.own hu fun g hg e => by have := bu g hg; have := bv g e; omega
theorem Grew.below' {w0 w w' : World} {v v' : Value} {lo hi : Nat} (h : Grew w w' v v') (h0 : Below w0.heap.size w0 w) (bv : Blk v lo hi) (hl : w0.heap.size ≤ lo) : Below w0.heap.size w0 w' :=
  h0.trans (h.below h0.size fun g hg => Nat.le_trans hl (bv g hg).1)

theorem ret_tup {v : Value} {a b : Int} (h : a = b) : Ending.returned (.tuple #[v, .int .i64 a]) = .returned (.tuple #[v, .int .i64 b]) := by rw [h]

/-! lists -/
theorem take_snoc {α : Type} (xs : List α) (k : Nat) (d : α) (h : k < xs.length) : xs.take (k + 1) = xs.take k ++ [xs.getD k d] := by
  rw [List.take_succ_eq_append_getElem h]; simp [List.getD, h]
theorem all_eq {xs ys : List Int} (hl : xs.length = ys.length) (h : ∀ j, j < xs.length → xs.getD j 0 = ys.getD j 0) : xs = ys := by
  apply List.ext_getElem hl
  intro j h1 h2
  have := h j h1
  simpa [List.getD, h1, h2] using this
theorem getD_mem {xs : List Int} {k : Nat} (h : k < xs.length) : xs.getD k 0 ∈ xs := by simp [List.getD, h]
theorem mem_getD {xs : List Int} {x : Int} (h : x ∈ xs) : ∃ k, k < xs.length ∧ xs.getD k 0 = x := by
  obtain ⟨k, hk, rfl⟩ := List.mem_iff_getElem.1 h
  exact ⟨k, hk, by simp [List.getD, hk]⟩
end Go.Proofs.YtnedihpppbjmdaaGreatDoor
