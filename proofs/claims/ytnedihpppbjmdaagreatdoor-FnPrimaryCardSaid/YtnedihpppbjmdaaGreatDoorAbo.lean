/-
  The maps of the program's test for quotients, and the range over one of them.
-/
import Derived.Test.YtnedihpppbjmdaaGreatDoorAbm
import Derived.Test.YtnedihpppbjmdaaGreatDoorAbk
namespace Go.Proofs.YtnedihpppbjmdaaGreatDoor
set_option linter.unusedVariables false
set_option linter.unusedSimpArgs false
set_option maxRecDepth 100000
open Go.RowKit Go.Maps

/-- 'm[p] = append(m[p], q)' beside what lies below B -/
theorem GMap.grow {w : World} {b n : Nat} {L : Nat → List Nat} {D : DataW Value} {vf : Nat → Value} (h : GMap w b L n D vf) {p q : Nat} (hp : p ≤ 1000000) (hn : n < 1000000) (ty : TypeId) {B : Nat} (hB0 : b + 1 ≤ B) (hBs : B ≤ w.heap.size) (hBv : ∀ p g, p ≤ 1000000 → (vf p).ownBlock = some g → B ≤ g) :
    ∃ a0 n0 c0 v' w1 w2, vf p = .slice a0 n0 c0 ∧ (Instr.lookup 68 (.map (some b)) (.int .i64 (p : Int)) false).run Tryz.prog w.drew = .ok (vf p) w.drew ∧
      (Instr.lookup 68 (.map (some b)) (.int .i64 (p : Int)) false).run Tryz.prog (w.alloc (.cells #[.int .i64 (q : Int)] 2)).drew = .ok (vf p) (w.alloc (.cells #[.int .i64 (q : Int)] 2)).drew ∧
      (Builtin.append_ #[24, 24] ty #[vf p, .slice (some ⟨w.heap.size, 0, none⟩) 1 1]).run Tryz.prog (w.alloc (.cells #[.int .i64 (q : Int)] 2)).drew = .ok v' w1 ∧
      (Instr.mapUpdate 68 (.map (some b)) (.int .i64 (p : Int)) v').run Tryz.prog w1 = .ok () w2 ∧
      (∃ D' vf', GMap w2 b (updL L p q) (n + 1) D' vf' ∧ ∀ p g, p ≤ 1000000 → (vf' p).ownBlock = some g → B ≤ g) ∧ Below b w w2 ∧ w.heap.size ≤ w2.heap.size ∧ (∀ k, k < w.heap.size → k ≠ b → ¬ (vf p).ownBlock = some k → w1.heap[k]? = w.heap[k]? ∧ w2.heap[k]? = w.heap[k]?) := by
  have h1 : GMap w.drew b L n D vf := h.below (Below.refl _ _).drew
  have h2 : GMap (w.alloc (.cells #[.int .i64 (q : Int)] 2)).drew b L n D vf := h.below (below_alloc w _).drew
  obtain ⟨a0, c0, hv, _⟩ := (h.row p hp).form
  have hblt := h.own.lt
  obtain ⟨i0, hi, hz0, hz1, hz2⟩ := info_parts Tryz.info2
  have hlit : Rd (w.alloc (.cells #[.int .i64 (q : Int)] 2)).drew (.slice (some ⟨w.heap.size, 0, none⟩) 1 1) [(q : Int)] := (Rd.litI w [(q : Int)] (by simp)).heap rfl
  have hown := h2.row p hp
  obtain ⟨v', w1, hr, e1, e2, e3⟩ := run_app (P := Tryz.prog) (w.alloc (.cells #[.int .i64 (q : Int)] 2)).drew (b + 1) 24 ty 2 i0 (.int .i64 0) 8 Tryz.underlying24 hi hz0 hz1 hz2 rfl (vf p) (nI (L p)).length ((nI (L p)).map (Value.int .i64)) hown _ ([(q : Int)].map (Value.int .i64)) hlit.cells (ints_oneCell _ _)
    (by have := h.len p; rw [nI_length]; simp [maxLen]; omega) (by have := h.len p; rw [nI_length]; simp; omega) (by simp; omega)
  have hG : Grew (w.alloc (.cells #[.int .i64 (q : Int)] 2)).drew w1 (vf p) v' := ⟨e2, e3⟩
  have hI1 : Ints w1 (b + 1) v' (nI (L p ++ [q])) := by
    rw [nI_snoc]
    unfold Ints
    rw [List.length_append, List.map_append]
    simpa using e1
  have hB1 : Below (b + 1) (w.alloc (.cells #[.int .i64 (q : Int)] 2)).drew w1 := hG.below (by simp; omega) fun g hg => (hown.lt g hg).1
  have hm1 : w1.ownsMap Tryz.prog 2 rawE b n D := h2.own.kept e2 (fun e => by have := (hown.lt b e.symm).1; omega)
  obtain ⟨w2, hr2, hm2, hg2⟩ := hm1.update Tryz.lawK Tryz.mapT (by have := h.lim; unfold maxLen; omega) (keyL_of hp) (val := v') (d := .held v') (ps := []) rfl
  have keep : ∀ {v : Value} {xs : List Int}, Ints w1 (b + 1) v xs → Ints w2 (b + 1) v xs := fun {v xs} hh => own_of_block hh fun g hg => hg2.block g (hh.lt g hg).2 (fun e => by cases e; have := (hh.lt b hg).1; omega)
  refine ⟨a0, (nI (L p)).length, c0, v', w1, w2, hv, run_lookG h1 hp, run_lookG h2 hp, hr, hr2, ⟨D.put (keyL p) (.held v'), fun p' => if p' = p then v' else vf p', ?_, ?_⟩, ?_, ?_, ?_⟩
  · refine ⟨hm2, by omega, h.isM.put _ _, fun p' hp' => ?_, fun p' hp' => ?_, fun p' => ?_, fun p1 p2 g hp1 hp2 hne hg hg' => ?_, fun kl => ?_⟩
    · by_cases e : p' = p
      · subst e; rw [if_pos rfl]; exact atKey_put_same h.isM (keyL_key _) _ _
      · rw [if_neg e, atKey_put_other (fun hh => e (keyL_inj hh))]; exact h.at_ p' hp'
    · by_cases e : p' = p
      · subst e; rw [if_pos rfl, updL_same]; exact keep hI1
      · rw [if_neg e, updL_other _ _ _ e]
        exact keep (hG.ints' (h2.row p' hp') fun g hg hg' => h.apart p' p g hp' hp e hg hg')
    · by_cases e : p' = p
      · subst e; rw [updL_same, List.length_append, List.length_singleton]; have := h.len p'; omega
      · rw [updL_other _ _ _ e]; have := h.len p'; omega
    · by_cases c1 : p1 = p
      · rw [if_pos c1] at hg
        rw [if_neg (fun e => hne (c1.trans e.symm))] at hg'
        exact hG.apart (h2.row p2 hp2) (fun g hg hg' => h.apart p2 p g hp2 hp (fun e => hne (c1.trans e.symm)) hg hg') g hg' hg
      · rw [if_neg c1] at hg
        by_cases c2 : p2 = p
        · rw [if_pos c2] at hg'
          exact hG.apart (h2.row p1 hp1) (fun g hg hg' => h.apart p1 p g hp1 hp c1 hg hg') g hg hg'
        · rw [if_neg c2] at hg'
          exact h.apart p1 p2 g hp1 hp2 hne hg hg'
    · by_cases e : kl = keyL p
      · subst e
        rw [has_put_same h.isM (keyL_key _)]
        refine ⟨fun _ => ⟨p, rfl, hp, by rw [updL_same]; simp⟩, fun _ => rfl⟩
      · rw [has_put_other e, h.has_ kl]
        constructor
        · rintro ⟨p', rfl, h1, h2⟩
          exact ⟨p', rfl, h1, by rw [updL_other _ _ _ (fun hh => e (by rw [hh]))]; exact h2⟩
        · rintro ⟨p', rfl, h1, h2⟩
          rw [updL_other _ _ _ (fun hh => e (by rw [hh]))] at h2
          exact ⟨p', rfl, h1, h2⟩
  · intro p' g hp' hg
    dsimp only at hg
    by_cases e : p' = p
    · rw [if_pos e] at hg
      rcases hG.moved g hg with h3 | h3
      · exact hBv p g hp h3
      · simp at h3; omega
    · rw [if_neg e] at hg; exact hBv p' g hp' hg
  · have hb0 : Below (b + 1) w (w.alloc (.cells #[.int .i64 (q : Int)] 2)).drew := ((below_alloc w _).drew).mono (by omega)
    have hb1 := hb0.trans hB1
    exact ⟨hg2.os.trans hb1.os, hg2.tape.trans hb1.tape, hg2.output.trans hb1.output, Nat.le_trans hb1.size hg2.size, fun k hk => (hg2.block k (by have := hb1.size; omega) (fun e => by cases e; omega)).trans (hb1.block k (by omega))⟩
  · have hb0 : Below (b + 1) w (w.alloc (.cells #[.int .i64 (q : Int)] 2)).drew := ((below_alloc w _).drew).mono (by omega)
    exact Nat.le_trans (hb0.trans hB1).size hg2.size
  · intro k hk hkb hkv
    have h3 : w1.heap[k]? = w.heap[k]? := (e2.block k (by simp; omega) (fun e => hkv e.symm)).trans (Below.heap_alloc w _ k hk)
    exact ⟨h3, (hg2.block k (by have := hB1.size; simp at this; omega) (fun e => by cases e; exact hkb rfl)).trans h3⟩

theorem GMap.kept {w w' : World} {b n : Nat} {L : Nat → List Nat} {D : DataW Value} {vf : Nat → Value} {r : Nat} (h : GMap w b L n D vf) (hg : w.grownBy w' (some r)) (hr : b < r) (hv : ∀ p g, p ≤ 1000000 → (vf p).ownBlock = some g → g < r) : GMap w' b L n D vf where
  own := h.own.kept hg (fun e => by cases e; omega)
  lim := h.lim
  isM := h.isM
  at_ := h.at_
  row := fun p hp => own_of_block (h.row p hp) fun g hg' => hg.block g ((h.row p hp).lt g hg').2 (fun e => by cases e; have := hv p r hp hg'; omega)
  len := h.len
  apart := h.apart
  has_ := h.has_
/-- the range under way over the map of what is needed: the primes ks have been met -/
structure RngH (w : World) (ba bm r na n : Nat) (D : DataW Value) (vf : Nat → Value) (LA LB : Nat → List Nat) (DA : DataW Value) (vfa : Nat → Value) (ks : List Nat) (left : Lit → Bool) (cnt : Nat) (wr : World) : Prop where
  rg : wr.ranges Tryz.prog 2 rawE bm r n D left cnt
  lf : ∀ kl, left kl = true ↔ ∃ p, kl = keyL p ∧ p ≤ 1000000 ∧ LB p ≠ [] ∧ p ∉ ks
  row : ∀ p, p ≤ 1000000 → Ints wr (bm + 1) (vf p) (nI (LB p))
  ma : GMap wr ba LA na DA vfa
  be : Below w.heap.size w wr
structure RngF (D : DataW Value) (vf vfa : Nat → Value) (ba bm r wn : Nat) : Prop where
  at_ : ∀ p, p ≤ 1000000 → D.atKey (keyL p) (.held nilS) = .held (vf p)
  lt : ∀ p g, p ≤ 1000000 → (vf p).ownBlock = some g → g < r
  lta : ∀ p g, p ≤ 1000000 → (vfa p).ownBlock = some g → g < r
  o0 : wn ≤ ba
  o1 : ba < bm
  o2 : bm < r
theorem RngH.next {w wr w1 : World} {ba bm r na n : Nat} {D : DataW Value} {vf : Nat → Value} {LA LB : Nat → List Nat} {DA : DataW Value} {vfa : Nat → Value} {ks : List Nat} {left : Lit → Bool} {cnt cnt1 : Nat} (h : RngH w ba bm r na n D vf LA LB DA vfa ks left cnt wr) (C : RngF D vf vfa ba bm r w.heap.size) {p : Nat}
    (hrg : w1.ranges Tryz.prog 2 rawE bm r n D (fun z => left z && !z.sameKey (keyL p)) cnt1) (hg : wr.grownBy w1 (some r)) : RngH w ba bm r na n D vf LA LB DA vfa (ks ++ [p]) (fun z => left z && !z.sameKey (keyL p)) cnt1 w1 where
  rg := hrg
  lf := fun kl => by
    rw [Bool.and_eq_true, h.lf kl]
    constructor
    · rintro ⟨⟨q, rfl, h1, h2, h3⟩, h4⟩
      refine ⟨q, rfl, h1, h2, fun hq => ?_⟩
      rcases List.mem_append.1 hq with h5 | h5
      · exact h3 h5
      · rw [List.mem_singleton.1 h5, WideAt.sameKey_self (keyL_key p)] at h4; simp at h4
    · rintro ⟨q, rfl, h1, h2, h3⟩
      refine ⟨⟨q, rfl, h1, h2, fun hq => h3 (List.mem_append_left _ hq)⟩, ?_⟩
      have hne : keyL q ≠ keyL p := fun e => h3 (by rw [keyL_inj e]; simp)
      rw [sameKey_ne hne]; rfl
  row := fun q hq => own_of_block (h.row q hq) fun g hg' => hg.block g ((h.row q hq).lt g hg').2 (fun e => by cases e; have := C.lt q r hq hg'; omega)
  ma := h.ma.kept hg (by have := C.o1; have := C.o2; omega) C.lta
  be := ⟨hg.os.trans h.be.os, hg.tape.trans h.be.tape, hg.output.trans h.be.output, Nat.le_trans h.be.size hg.size, fun k hk => (hg.block k (Nat.lt_of_lt_of_le hk h.be.size) (fun e => by cases e; have := C.o0; have := C.o1; have := C.o2; omega)).trans (h.be.block k hk)⟩
theorem RngH.below {w wr w1 : World} {ba bm r na n : Nat} {D : DataW Value} {vf : Nat → Value} {LA LB : Nat → List Nat} {DA : DataW Value} {vfa : Nat → Value} {ks : List Nat} {left : Lit → Bool} {cnt : Nat} (h : RngH w ba bm r na n D vf LA LB DA vfa ks left cnt wr) (C : RngF D vf vfa ba bm r w.heap.size)
    (hb : Below wr.heap.size wr w1) : RngH w ba bm r na n D vf LA LB DA vfa ks left cnt w1 where
  rg := ranges_below h.rg hb (by have := C.o2; have := h.rg.lt; omega) h.rg.lt
  lf := h.lf
  row := fun q hq => (h.row q hq).below hb
  ma := h.ma.below hb
  be := below_size h.be hb
--== quotients
theorem atD_cell {L : List Nat} {i : Nat} (h : i < L.length) : L.getD (L.length - 1 - i) 0 = atD L i := by
  unfold atD
  rw [List.getD_eq_getElem?_getD, List.getD_eq_getElem?_getD, List.getElem?_reverse h, List.getElem?_eq_getElem (by omega)]; rfl
theorem Lf_grp (S : List Nat) (p : Nat) : Lf (sortP S) (sortP S).length p = grp S p := by
  unfold Lf grp; rw [List.take_length]
theorem qi_lf {fa fb : List Nat} {ra rb : Nat} (ha : Chn fa) (hb : Chn fb) : QD fa fb ra rb ↔ rb ≤ ra ∧ ∀ p i, i < (Lf (sortP (parts fb)) (sortP (parts fb)).length p).length → ra - rb ≤ i →
    i - (ra - rb) < (Lf (sortP (parts fa)) (sortP (parts fa)).length p).length ∧ atD (Lf (sortP (parts fb)) (sortP (parts fb)).length p) i ≤ atD (Lf (sortP (parts fa)) (sortP (parts fa)).length p) (i - (ra - rb)) := by
  rw [← qi_iff ha hb]
  unfold QI
  simp only [Lf_grp]
theorem Lf_len (S : List Nat) (p : Nat) : (Lf S S.length p).length ≤ S.length := by
  unfold Lf; rw [List.take_length]; exact List.length_filter_le _ _
theorem Lf_bd {S : List Nat} (h : ∀ q ∈ S, PPw q) (i p : Nat) : ∀ q ∈ Lf S i p, q ≤ 1000000 := fun q hq => (h q (List.mem_of_mem_take (List.mem_filter.1 hq).1)).1
theorem Lf_prime {S : List Nat} (h : ∀ q ∈ S, PPw q) {p j : Nat} (hj : j < (Lf S S.length p).length) : p ≤ 1000000 ∧ Lf S S.length p ≠ [] := by
  have hne : Lf S S.length p ≠ [] := fun e => by rw [e] at hj; simp at hj
  refine ⟨?_, hne⟩
  obtain ⟨q, hq⟩ := List.exists_mem_of_ne_nil _ hne
  have h1 := List.mem_filter.1 hq
  have h2 := h q (List.mem_of_mem_take h1.1)
  have h3 : bs q = p := by simpa using h1.2
  exact h3 ▸ (bs_le h2).1
theorem atD_bd {L : List Nat} (h : ∀ q ∈ L, q ≤ 1000000) (i : Nat) : atD L i ≤ 1000000 := by
  rcases getD_mem_or L.reverse i 1 with ⟨_, hm⟩ | ⟨_, e⟩
  · exact h _ (List.mem_reverse.1 hm)
  · unfold atD; omega
end Go.Proofs.YtnedihpppbjmdaaGreatDoor
