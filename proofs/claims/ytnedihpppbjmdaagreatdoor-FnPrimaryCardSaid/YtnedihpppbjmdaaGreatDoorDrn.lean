/-
  An operation never gives draws back; an append with that fact.
-/
import Derived.Test.YtnedihpppbjmdaaGreatDoorBase
import Derived.Sort.Grow
namespace Go.Proofs.YtnedihpppbjmdaaGreatDoor
set_option linter.unusedVariables false
set_option linter.unusedSimpArgs false
set_option maxRecDepth 100000
open Go.RowKit

theorem ask_drawn {α : Type} (x : Ask α) : ∀ w : World, w.drawn ≤ (w.ask x).2.drawn := by
  induction x with
  | done a => intro w; exact Nat.le_refl _
  | ask what range k ih =>
    intro w
    unfold World.ask
    simp only []
    split
    · exact ih _ w
    · exact Nat.le_trans (Nat.le_succ _) (ih _ { w with drawn := w.drawn + 1 })
theorem sys_drawn (w : World) (c : Sys) : w.drawn ≤ (w.sys c).2.drawn := by
  have h := ask_drawn (Kernel.perform c w.os) w
  unfold World.sys
  split
  · exact Nat.le_refl _
  · next r os w1 he => rw [he] at h; exact h
theorem farStore_drawn {p : Program} {w w' : World} {a : Addr} {v : Value} {t : Bool} {l : List Addr} (h : w.farStore p a v t = .ok (w', l)) : w'.drawn = w.drawn := by
  unfold World.farStore at h
  split at h
  · next at_ u _ =>
    split at h
    · next r hr =>
      cases h
      unfold World.viewStore at hr
      simp only [bind, Except.bind, pure, Except.pure, throw, throwThe, MonadExceptOf.throw] at hr
      repeat' (split at hr)
      all_goals first | (cases hr; done) | (cases hr; rfl) | skip
    · cases h
  · cases h
theorem sem_drawn {α : Type} (p : Program) (s : Sem α) : ∀ (w w' : World) (a : α), s.run p w = .ok a w' → w.drawn ≤ w'.drawn := by
  induction s with
  | pure a => intro w w' b h; simp only [Sem.run, Result.ok.injEq] at h; rw [h.2]; exact Nat.le_refl _
  | load m a k ih =>
    intro w w' b h
    simp only [Sem.run] at h
    split at h
    · exact ih _ w w' b h
    · split at h
      · exact ih _ w w' b h
      · cases h
  | store m a v k ih =>
    intro w w' b h
    have key : ∀ w1 : World, w1.drawn = w.drawn → k.run p w1 = .ok b w' → w.drawn ≤ w'.drawn := fun w1 e h1 => e ▸ ih w1 w' b h1
    cases v <;> simp only [Sem.run] at h <;> first
      | (cases h; done)
      | (split at h
         · split at h
           · cases h
           · exact key (w.setCell a _) rfl h
         · split at h
           · next hf => exact key _ (farStore_drawn hf) h
           · cases h)
  | new o k ih => intro w w' b h; simp only [Sem.run] at h; exact ih _ { w with heap := w.heap.push o } w' b h
  | shape r k ih => intro w w' b h; simp only [Sem.run] at h; exact ih _ w w' b h
  | freeze a n k ih =>
    intro w w' b h
    simp only [Sem.run] at h
    have e : (w.freeze a n).drawn = w.drawn := by unfold World.freeze; split <;> rfl
    exact e ▸ ih (w.freeze a n) w' b h
  | frozen a k ih => intro w w' b h; simp only [Sem.run] at h; exact ih _ w w' b h
  | getObj r k ih =>
    intro w w' b h
    simp only [Sem.run] at h
    split at h
    · cases h
    · exact ih _ w w' b h
    · cases h
  | setObj r o k ih =>
    intro w w' b h
    simp only [Sem.run] at h
    split at h
    · cases h
    · exact ih { w with heap := w.heap.setIfInBounds r o } w' b h
    · cases h
  | choose q k ih =>
    intro w w' b h
    simp only [Sem.run] at h
    split at h
    · exact ih _ w w' b h
    · exact Nat.le_trans (Nat.le_succ _) (ih _ { w with drawn := w.drawn + 1 } w' b h)
  | sys c k ih => intro w w' b h; simp only [Sem.run] at h; exact Nat.le_trans (sys_drawn w c) (ih _ (w.sys c).2 w' b h)
  | program k ih => intro w w' b h; simp only [Sem.run] at h; exact ih _ w w' b h
  | mark m k ih => intro w w' b h; simp only [Sem.run] at h; exact ih w w' b h
  | halt h0 => intro w w' b h; simp only [Sem.run] at h; cases h

/-- 'append(out, x)', and no draw is given back. -/
theorem wp_appD {P : Program} (w : World) {ops : Array Oper} {rest : List Oper} {o : Oper} {a : Act} {Q : Exit → Act → World → Prop} (hgd : o.guard = none) (s x : Operand)
    (ho : o.op = .call { callee := .builtin .append, args := #[s, x], argTypes := #[24, 24] })
    (B : Nat) (i : TypeInfo) (ht : P.underlying 24 = some (.slice 2)) (hi : P.info? 2 = some i) (hz : i.zero = some (.int .i64 0)) (hsize : i.size = 1) (hby : i.bytes = 8)
    (v : Value) (xs : List Int) (hs : a.eval s = v) (hown : Ints w B v xs) (y : Int) (hx : a.eval x = .slice (some ⟨w.heap.size, 0, none⟩) 1 1) (hn : xs.length ≤ 1000000000) (hB : B ≤ w.heap.size)
    (h : ∀ v' w', Ints w' B v' (xs ++ [y]) → Grew w w' v v' → Below B w w' ∧ w.drawn ≤ w'.drawn → wpList P ops Q rest (a.put o.dst v') w') : wpList P ops Q (o :: rest) a (w.alloc (.cells #[.int .i64 y] 2)) := by
  refine wpList_plain hgd fun K hK' => ?_
  have hcell : RdV (w.alloc (.cells #[.int .i64 y] 2)) (.slice (some ⟨w.heap.size, 0, none⟩) 1 1) [.int .i64 y] := by
    refine ⟨_, 1, rfl, by simp, by simp, fun h => by (cases h), .inr ⟨w.heap.size, 0, rfl, fun j hj => ?_⟩⟩
    obtain rfl : j = 0 := by simpa using hj
    simp
  obtain ⟨v', w', hr, h1, h2, h3⟩ := run_app (P := P) _ B 24 o.type 2 i (.int .i64 0) 8 ht hi hz hsize hby rfl v xs.length (xs.map (Value.int .i64)) (World.ownsRow.alloc hown _) _ [.int .i64 y] hcell
    (by intro u hu; simp at hu; subst hu; rfl) (by simp [maxLen]; omega) (by simp; omega) (by simp; omega)
  have hd := sem_drawn P _ _ _ _ hr
  unfold Oper.wp execOp
  simp only [ho, resolve, invoke, builtin, Sem.run_bind, Sem.run_pure, Result.andThen_ok, List.map_toArray, List.map_cons, List.map_nil, hs, hx, hr]
  have hg : Grew w w' v v' := ⟨⟨h2.os, h2.tape, h2.output, by have := h2.size; simp at this; omega, fun k hk hne => (h2.block k (by simp; omega) hne).trans (Below.heap_alloc w _ k hk)⟩, fun g hg => (h3 g hg).imp id fun h => by simp at h; omega⟩
  refine hK' _ _ (h v' w' ?_ hg ⟨hg.below hB fun g hg => (hown.lt g hg).1, hd⟩)
  unfold Ints
  rw [List.length_append, List.map_append]
  exact h1
--== alloc-drawn
/-- what lies behind a call that leaves all old blocks alone: the old world, draws, new blocks -/
theorem grow_of_below {w w' : World} (h : Below w.heap.size w w') (hd : w.drawn ≤ w'.drawn) : ∃ q os', w' = Go.Sort.grow (w.drewN q) os' := by
  refine ⟨w'.drawn - w.drawn, w'.heap.extract w.heap.size w'.heap.size, ?_⟩
  have hh : w'.heap = w.heap ++ w'.heap.extract w.heap.size w'.heap.size := by
    apply Array.ext_getElem?
    intro k
    have hs := h.size
    by_cases hk : k < w.heap.size
    · rw [h.block k hk, Array.getElem?_append_left hk]
    · rw [Array.getElem?_append_right (by omega)]
      by_cases hk2 : k < w'.heap.size
      · rw [Array.getElem?_extract]
        rw [if_pos (by omega)]
        congr 1
        omega
      · rw [Array.getElem?_eq_none (by omega), Array.getElem?_eq_none (by simp; omega)]
  cases w
  cases w'
  simp only [Go.Sort.grow, World.drewN] at *
  obtain ⟨h1, h2, h3, h4, h5⟩ := h
  simp only at h1 h2 h3 hh hd
  subst h1 h2 h3
  congr 1
  omega
end Go.Proofs.YtnedihpppbjmdaaGreatDoor
