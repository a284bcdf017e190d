/-
  A map from primes to rows of prime powers, that a call makes: its look-up, and the store of a row that has grown.
-/
import Derived.Test.YtnedihpppbjmdaaGreatDoorAbc
import Derived.Test.YtnedihpppbjmdaaGreatDoorAbf
import Derived.Maps.RangeWalk
import Derived.Maps.Views
import Derived.Maps.OwnOps
namespace Go.Proofs.YtnedihpppbjmdaaGreatDoor
set_option linter.unusedVariables false
set_option linter.unusedSimpArgs false
set_option maxRecDepth 100000
open Go.RowKit Go.Maps

/-- an element of the map, as it is -/
def rawE (v : Value) : Option (DataW Value × List MemPlace) := some (.held v, [])
def keyL (p : Nat) : Lit := .int .i64 (p : Int)
theorem keyL_wf {p : Nat} (h : p ≤ 1000000) : (Lit.int .i64 (p : Int)).wf = true := WalkArith.wf_i64 (by omega)
theorem keyL_inj {p q : Nat} (h : keyL p = keyL q) : p = q := by unfold keyL at h; injection h with _ h; omega
theorem keyL_key (p : Nat) : WideAt.IsKeyLit (keyL p) := trivial
def nilS : Value := .slice none 0 0
def updL (L : Nat → List Nat) (p q : Nat) : Nat → List Nat := fun p' => if p' = p then L p ++ [q] else L p'
theorem updL_same (L : Nat → List Nat) (p q : Nat) : updL L p q p = L p ++ [q] := if_pos rfl
theorem updL_other (L : Nat → List Nat) (p q : Nat) {p' : Nat} (h : p' ≠ p) : updL L p q p' = L p' := if_neg h
--== maps
theorem Tryz.lawK : Keyed Tryz.prog 2 := int_keyed Tryz.underlying2
theorem Tryz.zeroRow (w : World) : (zeroValue 24).run Tryz.prog w = .ok nilS w := by kernel_rfl
theorem Tryz.mapT : Tryz.prog.underlying 68 = some (.map 2 24) := Tryz.underlying68
theorem keyL_of {p : Nat} (h : p ≤ 1000000) : keyOf Tryz.prog 2 (.int .i64 (p : Int)) = some (keyL p) := keyOf_int_mk Tryz.underlying2 (keyL_wf h)
/-- block b is a map that holds at each prime p a row of its own, the numbers L p; vf tells where the rows lie -/
structure GMap (w : World) (b : Nat) (L : Nat → List Nat) (n : Nat) (D : DataW Value) (vf : Nat → Value) : Prop where
  own : w.ownsMap Tryz.prog 2 rawE b n D
  lim : n ≤ 1000000
  isM : IsMap D
  at_ : ∀ p, p ≤ 1000000 → D.atKey (keyL p) (.held nilS) = .held (vf p)
  row : ∀ p, p ≤ 1000000 → Ints w (b + 1) (vf p) (nI (L p))
  len : ∀ p, (L p).length ≤ n
  apart : ∀ p q g, p ≤ 1000000 → q ≤ 1000000 → p ≠ q → (vf p).ownBlock = some g → ¬ (vf q).ownBlock = some g
  has_ : ∀ kl, Maps.has D kl = true ↔ ∃ p, kl = keyL p ∧ p ≤ 1000000 ∧ L p ≠ []
theorem GMap.made (w : World) : GMap (w.alloc (.map #[] 0)) w.heap.size (fun _ => []) 0 (.map []) (fun _ => nilS) where
  own := World.ownsMap_made _ _ _ _
  lim := Nat.zero_le _
  isM := isMap_empty
  at_ := fun p _ => rfl
  row := fun p _ => Ints.nil _ _
  len := fun p => by simp
  apart := fun p q g _ _ _ h => by simp [nilS, Value.ownBlock] at h
  has_ := fun kl => ⟨fun h => by simp [Maps.has] at h, fun ⟨p, _, _, h⟩ => (h rfl).elim⟩
theorem GMap.below {w w' : World} {b n : Nat} {L : Nat → List Nat} {D : DataW Value} {vf : Nat → Value} (h : GMap w b L n D vf) (hb : Below w.heap.size w w') : GMap w' b L n D vf where
  own := h.own.kept (row := none) ⟨hb.os, hb.tape, hb.output, hb.size, fun k hk _ => hb.block k hk⟩ (by simp)
  lim := h.lim
  isM := h.isM
  at_ := h.at_
  row := fun p hp => (h.row p hp).below hb
  len := h.len
  apart := h.apart
  has_ := h.has_
theorem run_lookG {w : World} {b n : Nat} {L : Nat → List Nat} {D : DataW Value} {vf : Nat → Value} (h : GMap w b L n D vf) {p : Nat} (hp : p ≤ 1000000) :
    (Instr.lookup 68 (.map (some b)) (.int .i64 (p : Int)) false).run Tryz.prog w = .ok (vf p) w := by
  obtain ⟨v, ps, hr, hv⟩ := h.own.lookup Tryz.lawK Tryz.mapT (Tryz.zeroRow w) (zd := .held nilS) (zp := []) rfl (keyL_of hp)
  rw [h.at_ p hp] at hv
  have : v = vf p := by simp only [rawE, Option.some.injEq, Prod.mk.injEq, DataW.held.injEq] at hv; exact hv.1
  rw [hr, this]
/-- 'm[p] = append(m[p], q)': the four runs, and what they leave -/
theorem GMap.step {w : World} {b n : Nat} {L : Nat → List Nat} {D : DataW Value} {vf : Nat → Value} (h : GMap w b L n D vf) {p q : Nat} (hp : p ≤ 1000000) (hn : n < 1000000) (ty : TypeId) :
    ∃ a0 n0 c0 v' w1 w2, vf p = .slice a0 n0 c0 ∧ (Instr.lookup 68 (.map (some b)) (.int .i64 (p : Int)) false).run Tryz.prog w.drew = .ok (vf p) w.drew ∧
      (Instr.lookup 68 (.map (some b)) (.int .i64 (p : Int)) false).run Tryz.prog (w.alloc (.cells #[.int .i64 (q : Int)] 2)).drew = .ok (vf p) (w.alloc (.cells #[.int .i64 (q : Int)] 2)).drew ∧
      (Builtin.append_ #[24, 24] ty #[vf p, .slice (some ⟨w.heap.size, 0, none⟩) 1 1]).run Tryz.prog (w.alloc (.cells #[.int .i64 (q : Int)] 2)).drew = .ok v' w1 ∧
      (Instr.mapUpdate 68 (.map (some b)) (.int .i64 (p : Int)) v').run Tryz.prog w1 = .ok () w2 ∧
      (∃ D' vf', GMap w2 b (updL L p q) (n + 1) D' vf') ∧ Below b w w2 ∧ (∀ k, k < w.heap.size → k ≠ b → ¬ (vf p).ownBlock = some k → w1.heap[k]? = w.heap[k]? ∧ w2.heap[k]? = w.heap[k]?) := by
  have h1 : GMap w.drew b L n D vf := h.below (Below.refl _ _).drew
  have h2 : GMap (w.alloc (.cells #[.int .i64 (q : Int)] 2)).drew b L n D vf := h.below (below_alloc w _).drew
  obtain ⟨a0, c0, hv, _⟩ := (h.row p hp).form
  have hblt := h.own.lt
  obtain ⟨i0, hi, hz0, hz1, hz2⟩ := info_parts Tryz.info2
  have hlit : Rd (w.alloc (.cells #[.int .i64 (q : Int)] 2)).drew (.slice (some ⟨w.heap.size, 0, none⟩) 1 1) [(q : Int)] := (Rd.litI w [(q : Int)] (by simp)).heap rfl
  have hown := h2.row p hp
  obtain ⟨v', w1, hr, e1, e2, e3⟩ := run_app (P := Tryz.prog) (w.alloc (.cells #[.int .i64 (q : Int)] 2)).drew (b + 1) 24 ty 2 i0 (.int .i64 0) 8 Tryz.underlying24 hi hz0 hz1 hz2 rfl (vf p) (nI (L p)).length ((nI (L p)).map (Value.int .i64)) hown _ ([(q : Int)].map (Value.int .i64)) hlit.cells (ints_oneCell _ _)
    (by have := h.len p; rw [nI_length]; simp [maxLen]; omega) (by have := h.len p; rw [nI_length]; simp; omega) (by simp; omega)
  have hG : Grew (w.alloc (.cells #[.int .i64 (q : Int)] 2)).drew w1 (vf p) v' := ⟨e2, e3⟩
  have hI1 : Ints w1 (b + 1) v' (nI (L p ++ [q])) := by
    rw [nI_snoc]
    unfold Ints
    rw [List.length_append, List.map_append]
    simpa using e1
  have hB1 : Below (b + 1) (w.alloc (.cells #[.int .i64 (q : Int)] 2)).drew w1 := hG.below (by simp; omega) fun g hg => (hown.lt g hg).1
  have hm1 : w1.ownsMap Tryz.prog 2 rawE b n D := h2.own.kept e2 (fun e => by have := (hown.lt b e.symm).1; omega)
  obtain ⟨w2, hr2, hm2, hg2⟩ := hm1.update Tryz.lawK Tryz.mapT (by have := h.lim; unfold maxLen; omega) (keyL_of hp) (val := v') (d := .held v') (ps := []) rfl
  have keep : ∀ {v : Value} {xs : List Int}, Ints w1 (b + 1) v xs → Ints w2 (b + 1) v xs := fun {v xs} hh => own_of_block hh fun g hg => hg2.block g (hh.lt g hg).2 (fun e => by cases e; have := (hh.lt b hg).1; omega)
  refine ⟨a0, (nI (L p)).length, c0, v', w1, w2, hv, run_lookG h1 hp, run_lookG h2 hp, hr, hr2, ⟨D.put (keyL p) (.held v'), fun p' => if p' = p then v' else vf p', ?_⟩, ?_, ?_⟩
  · refine ⟨hm2, by omega, h.isM.put _ _, fun p' hp' => ?_, fun p' hp' => ?_, fun p' => ?_, fun p1 p2 g hp1 hp2 hne hg hg' => ?_, fun kl => ?_⟩
    · by_cases e : p' = p
      · subst e; rw [if_pos rfl]; exact atKey_put_same h.isM (keyL_key _) _ _
      · rw [if_neg e, atKey_put_other (fun hh => e (keyL_inj hh))]; exact h.at_ p' hp'
    · by_cases e : p' = p
      · subst e; rw [if_pos rfl, updL_same]; exact keep hI1
      · rw [if_neg e, updL_other _ _ _ e]
        exact keep (hG.ints' (h2.row p' hp') fun g hg hg' => h.apart p' p g hp' hp e hg hg')
    · by_cases e : p' = p
      · subst e; rw [updL_same, List.length_append, List.length_singleton]; have := h.len p'; omega
      · rw [updL_other _ _ _ e]; have := h.len p'; omega
    · by_cases c1 : p1 = p
      · rw [if_pos c1] at hg
        rw [if_neg (fun e => hne (c1.trans e.symm))] at hg'
        exact hG.apart (h2.row p2 hp2) (fun g hg hg' => h.apart p2 p g hp2 hp (fun e => hne (c1.trans e.symm)) hg hg') g hg' hg
      · rw [if_neg c1] at hg
        by_cases c2 : p2 = p
        · rw [if_pos c2] at hg'
          exact hG.apart (h2.row p1 hp1) (fun g hg hg' => h.apart p1 p g hp1 hp c1 hg hg') g hg hg'
        · rw [if_neg c2] at hg'
          exact h.apart p1 p2 g hp1 hp2 hne hg hg'
    · by_cases e : kl = keyL p
      · subst e
        rw [has_put_same h.isM (keyL_key _)]
        refine ⟨fun _ => ⟨p, rfl, hp, by rw [updL_same]; simp⟩, fun _ => rfl⟩
      · rw [has_put_other e, h.has_ kl]
        constructor
        · rintro ⟨p', rfl, h1, h2⟩
          exact ⟨p', rfl, h1, by rw [updL_other _ _ _ (fun hh => e (by rw [hh]))]; exact h2⟩
        · rintro ⟨p', rfl, h1, h2⟩
          rw [updL_other _ _ _ (fun hh => e (by rw [hh]))] at h2
          exact ⟨p', rfl, h1, h2⟩
  · have hb0 : Below (b + 1) w (w.alloc (.cells #[.int .i64 (q : Int)] 2)).drew := ((below_alloc w _).drew).mono (by omega)
    have hb1 := hb0.trans hB1
    exact ⟨hg2.os.trans hb1.os, hg2.tape.trans hb1.tape, hg2.output.trans hb1.output, Nat.le_trans hb1.size hg2.size, fun k hk => (hg2.block k (by have := hb1.size; omega) (fun e => by cases e; omega)).trans (hb1.block k (by omega))⟩
  · intro k hk hkb hkv
    have h3 : w1.heap[k]? = w.heap[k]? := (e2.block k (by simp; omega) (fun e => hkv e.symm)).trans (Below.heap_alloc w _ k hk)
    exact ⟨h3, (hg2.block k (by have := hB1.size; simp at this; omega) (fun e => by cases e; exact hkb rfl)).trans h3⟩
end Go.Proofs.YtnedihpppbjmdaaGreatDoor
