/-
  slices.Repeat, powers of words.
-/
import Derived.Test.YthnpndheaailjaaProd
import Derived.Shelf.Bits.Mul64
import Derived.Deep.RegionLaw
import Derived.Laws.IdiomCopy
namespace Go.Proofs.Ythnpndheaailjaa
set_option linter.unusedVariables false
set_option linter.unusedSimpArgs false
set_option maxRecDepth 100000
open Go.RowKit
--== 130
def Try.lays212_ren : Go.Shelf.Ren := ⟨fun | 212 => 130 | 263 => 167 | 264 => 168 | n => n, fun | 46 => 133 | 51 => 164 | 146 => 165 | 53 => 167 | 148 => 168 | n => n, fun | n => n⟩
theorem Try.lays212 : Go.Proofs.Lays.n212 Try.prog Try.lays212_ren := {
  mixed := by kernel_rfl
  f212 := Try.func130.trans (congrArg some (by kernel_rfl))
  f263 := Try.func167.trans (congrArg some (by kernel_rfl))
  f264 := Try.func168.trans (congrArg some (by kernel_rfl))
  t46 := Try.underlying133
  a46 := Try.isAgg133
  z46 := Try.sizeOf133
  v46 := Try.zeroValue133
  t51 := Try.underlying164
  a51 := Try.isAgg164
  z51 := Try.sizeOf164
  v51 := Try.zeroValue164
  t53 := Try.underlying167
  a53 := Try.isAgg167
  z53 := Try.sizeOf167
  v53 := Try.zeroValue167
  t146 := Try.underlying165
  a146 := Try.isAgg165
  z146 := Try.sizeOf165
  v146 := Try.zeroValue165
  t148 := Try.underlying168
  a148 := Try.isAgg168
  z148 := Try.sizeOf168
  v148 := Try.zeroValue168 }
theorem f_bitsMul (x y : Nat) (hx : x < 18446744073709551616) (hy : y < 18446744073709551616) (w : World) :
    Calls Try.prog 130 #[.int .u64 x, .int .u64 y] w fun e w' => e = .returned (.tuple #[.int .u64 ((x * y / 18446744073709551616 : Nat) : Int), .int .u64 ((x * y % 18446744073709551616 : Nat) : Int)]) ∧ w' = w := Any.bits_Mul Try.lays212 x y hx hy w
--== copies
theorem take_set_succ (ys : List Int) (o : Nat) (z : Int) (h : o < ys.length) : (ys.set o z).take (o + 1) = ys.take o ++ [z] := by
  rw [take_snoc _ o 0 (by simpa using h), List.take_set_of_le (Nat.le_refl _), getD_set ys o o z h, if_pos rfl]
theorem drop_set_past (ys : List Int) (o m : Nat) (z : Int) (h : o < m) : (ys.set o z).drop m = ys.drop m := List.drop_set_of_lt h
theorem setCells_ints {B g cap n : Nat} : ∀ (zs : List Int) (o : Nat) (w : World) (ys : List Int), n = ys.length → o + zs.length ≤ ys.length → Ints w B (.slice (some ⟨g, 0, none⟩) n cap) ys →
    Ints (w.setCells g o (zs.map (Value.int .i64))) B (.slice (some ⟨g, 0, none⟩) n cap) (ys.take o ++ zs ++ ys.drop (o + zs.length)) ∧ Chg g (g + 1) w (w.setCells g o (zs.map (Value.int .i64)))
  | [], o, w, ys, hn, hl, h => ⟨by simpa [World.setCells] using h, Chg.refl _ _ _⟩
  | z :: rest, o, w, ys, hn, hl, h => by
    simp only [List.length_cons] at hl
    obtain ⟨a, b⟩ := Ints.set hn h o z
    obtain ⟨c, d⟩ := setCells_ints rest (o + 1) _ (ys.set o z) (by simpa using hn) (by simp; omega) a
    rw [take_set_succ ys o z (by omega), drop_set_past ys o _ z (by omega)] at c
    refine ⟨?_, b.trans d (Nat.le_refl _) (Nat.le_refl _) (Nat.le_refl _) (Nat.le_refl _)⟩
    simp only [List.map_cons, World.setCells, List.length_cons]
    rw [show o + (rest.length + 1) = o + 1 + rest.length by omega]
    simpa using c

/-- what is copied into an owned row -/
theorem run_copyI {P : Program} (w : World) (B g cap n o dLen dCap : Nat) (ys zs cs : List Int) (v : Value) (T ty : TypeId) (hu : P.underlying T = some (.slice 2)) (hs : (P.info? 2).map (·.size) = some 1)
    (hn : n = ys.length) (hy : Ints w B (.slice (some ⟨g, 0, none⟩) n cap) ys) (hv : Rd w v zs) (ho : o + dLen = n) (hcs : cs = zs.take dLen) :
    (Builtin.copy_ #[T, T] ty #[.slice (some ⟨g, o, none⟩) dLen dCap, v]).run P w = .ok (goInt cs.length) (w.setCells g o (cs.map (Value.int .i64))) := by
  subst hcs
  obtain ⟨ao, vcap, rfl, hc1, hc2, h0, hcell⟩ := hv
  by_cases he : Nat.min zs.length dLen = 0
  · have e0 : zs.take dLen = [] := by
      apply List.eq_nil_of_length_eq_zero; rw [List.length_take]; rw [Nat.min_comm]; exact he
    rw [e0]
    exact run_copy_none w T T ty 2 _ _ _ _ _ _ hu hs he
  · have hpos : 0 < zs.length ∧ 0 < dLen := by
      constructor
      · rcases Nat.eq_zero_or_pos zs.length with h | h
        · rw [h] at he; simp at he
        · exact h
      · rcases Nat.eq_zero_or_pos dLen with h | h
        · rw [h] at he; simp at he
        · exact h
    rcases hcell with hcell | ⟨b, off, rfl, hcell⟩
    · omega
    have hm : (zs.take dLen).length = Nat.min zs.length dLen := by rw [List.length_take, Nat.min_comm]
    have hmle : (zs.take dLen).length ≤ dLen := by rw [List.length_take]; omega
    obtain ⟨g', cap', hv', _, _, _, _, hcc, hff⟩ := hy.open (by omega)
    simp only [Value.slice.injEq, Option.some.injEq, Addr.mk.injEq, and_true, true_and] at hv'
    obtain ⟨rfl, _, rfl⟩ := hv'
    have hr := run_copy_cells (P := P) w T T ty 2 g o dLen dCap ⟨b, off, none⟩ zs.length vcap ((zs.take dLen).map (Value.int .i64)) hu hs (by simpa using hm) (by
        intro j v hj
        rw [Addr.add_lit]
        have hj2 : j < (zs.take dLen).length := by have := (List.getElem?_eq_some_iff.1 hj).1; simpa using this
        rw [getD_map_int _ j hj2] at hj
        rw [List.length_take] at hj2
        rw [hcell j (by omega), ← hj]
        congr 2
        simp [List.getD, List.getElem?_take, show j < dLen by omega])
      (by intro j hj; simp only [List.length_map] at hj; rw [hcc (o + j) (by omega)]; rfl) (by intro j _; exact hff _) (by intro v hv; obtain ⟨x, _, rfl⟩ := List.mem_map.1 hv; rfl)
    simp only [List.length_map] at hr
    exact hr
theorem wpl_copy {P : Program} (w : World) {ops : Array Oper} {rest : List Oper} {o : Oper} {a : Act} {Q : Exit → Act → World → Prop} (hgd : o.guard = none) (d s : Operand) (t t' : TypeId)
    (ho : o.op = .call { callee := .builtin .copy, args := #[d, s], argTypes := #[t, t'] }) (v u : Value) (hd : a.eval d = v) (hs : a.eval s = u) {v' : Value} {w' : World}
    (hr : (Builtin.copy_ #[t, t'] o.type #[v, u]).run P w = .ok v' w') (h : wpList P ops Q rest (a.put o.dst v') w') : wpList P ops Q (o :: rest) a w :=
  wpList_plain hgd fun K hK => by
    unfold Oper.wp execOp
    simp only [ho, resolve, invoke, builtin, Sem.run_bind, Sem.run_pure, Result.andThen_ok, List.map_toArray, List.map_cons, List.map_nil, hd, hs, hr]
    exact hK _ _ h
theorem step_copyR {P : Program} {ops : Array Oper} {o : Oper} {a : Act} {w : World} {K : Act → World → Prop} {Q : Exit → Act → World → Prop} {E : Prop}
    (hg : o.guard = none) (d x : Operand) (dT sT : TypeId) (hop : o.op = Op.call { callee := Callee.builtin Builtin.copy, args := #[d, x], argTypes := #[dT, sT] })
    (v u : Value) (hd : a.eval d = v) (hx : a.eval x = u) {v' : Value} {w' : World} (hr : (Builtin.copy_ #[dT, sT] o.type #[v, u]).run P w = .ok v' w') (hK : K (a.put o.dst v') w') :
    if Region.wanted o (yielded ops a.tmps) = true then Oper.wp P o a w K Q else E := by
  have hw : Region.wanted o (yielded ops a.tmps) = true := by simp [Region.wanted, hg]
  rw [if_pos hw]
  unfold Oper.wp
  simp [execOp, hop, resolve, invoke, builtin, hd, hx, hr, Result.andThen]
  exact hK
theorem Ints.heap {w w' : World} {B : Nat} {v : Value} {xs : List Int} (h : Ints w B v xs) (he : w'.heap = w.heap) : Ints w' B v xs := own_of_block h fun g _ => by rw [he]
theorem Rd.heap {w w' : World} {v : Value} {xs : List Int} (h : Rd w v xs) (he : w'.heap = w.heap) : Rd w' v xs := h.of_cells fun a u ha => by
  rw [← ha]; unfold World.cell?; rw [he]
theorem Below.heap_eq {w w' w'' : World} {B : Nat} (h : Below B w w') (he : w''.heap = w'.heap) (h1 : w''.os = w'.os) (h2 : w''.tape = w'.tape) (h3 : w''.output = w'.output) : Below B w w'' :=
  ⟨h1.trans h.os, h2.trans h.tape, h3.trans h.output, by rw [he]; exact h.size, fun k hk => by rw [he]; exact h.block k hk⟩

/-- c times the word -/
def rep (xs : List Int) (c : Nat) : List Int := cat (List.replicate c xs)
theorem rep_length (xs : List Int) (c : Nat) : (rep xs c).length = xs.length * c := by
  induction c with
  | zero => simp [rep, cat]
  | succ c ih => simp only [rep, cat, List.replicate_succ, List.flatten_cons, List.length_append] at ih ⊢; rw [ih, Nat.mul_succ]; omega
theorem rep_add (xs : List Int) (c d : Nat) : rep xs (c + d) = rep xs c ++ rep xs d := by
  simp only [rep, cat, ← List.replicate_append_replicate, List.flatten_append]
theorem rep_succ (xs : List Int) (c : Nat) : rep xs (c + 1) = rep xs c ++ xs := by rw [rep_add]; simp [rep, cat]
theorem rep_one (xs : List Int) : rep xs 1 = xs := by simp [rep, cat]
theorem rep_zero (xs : List Int) : rep xs 0 = [] := by simp [rep, cat]
theorem rep_nil (c : Nat) : rep [] c = [] := List.eq_nil_of_length_eq_zero (by rw [rep_length]; simp)
theorem rep_take (xs : List Int) (c m : Nat) : (rep xs c).take (xs.length * m) = rep xs (min m c) := by
  rcases Nat.le_total m c with h | h
  · rw [Nat.min_eq_left h]
    obtain ⟨d, rfl⟩ := Nat.exists_eq_add_of_le h
    rw [rep_add, ← rep_length xs m, List.take_left']; rfl
  · rw [Nat.min_eq_right h, List.take_of_length_le]; rw [rep_length]; exact Nat.mul_le_mul_left _ h
theorem rep_small {xs : List Int} (h : Small xs) (c : Nat) : Small (rep xs c) := by
  intro x hx
  simp only [rep, cat, List.mem_flatten, List.mem_replicate] at hx
  obtain ⟨l, ⟨_, rfl⟩, hl⟩ := hx
  exact h x hl
/-- the row of slices.Repeat while it fills -/
def repTo (xs : List Int) (c m : Nat) : List Int := rep xs m ++ List.replicate (xs.length * (c - m)) 0
theorem repTo_length (xs : List Int) (c m : Nat) (h : m ≤ c) : (repTo xs c m).length = xs.length * c := by
  unfold repTo; rw [List.length_append, rep_length, List.length_replicate, ← Nat.mul_add]; congr 1; omega
theorem repTo_step (xs : List Int) (c m d : Nat) (h : m + d ≤ c) (zs : List Int) (hz : zs = rep xs d) :
    (repTo xs c m).take (xs.length * m) ++ zs ++ (repTo xs c m).drop (xs.length * m + zs.length) = repTo xs c (m + d) := by
  subst hz
  unfold repTo
  rw [rep_length, ← Nat.mul_add, List.take_append_of_le_length (by rw [rep_length]; exact Nat.le_refl _), List.take_of_length_le (by rw [rep_length]; exact Nat.le_refl _), rep_add]
  congr 1
  rw [List.drop_append, rep_length, List.drop_of_length_le (by rw [rep_length]; exact Nat.mul_le_mul_left _ (by omega)), List.nil_append, List.drop_replicate, ← Nat.mul_sub, ← Nat.mul_sub]
  congr 2
  omega
theorem repTo_end (xs : List Int) (c m : Nat) (h : m ≤ c) (e : xs.length * m = xs.length * c) : repTo xs c m = rep xs c := by
  unfold repTo
  rw [Nat.mul_sub, e, Nat.sub_self, List.replicate_zero, List.append_nil]
  rcases Nat.eq_zero_or_pos xs.length with h0 | h0
  · have := List.eq_nil_of_length_eq_zero h0
    subst this
    rw [rep_nil, rep_nil]
  · rw [Nat.eq_of_mul_eq_mul_left h0 e]
theorem repTo_zero (xs : List Int) (c : Nat) : repTo xs c 0 = List.replicate (xs.length * c) 0 := by simp [repTo, rep_zero]
theorem repTo_head (xs : List Int) (c m : Nat) : (repTo xs c m).take (xs.length * m) = rep xs m := by
  unfold repTo
  rw [List.take_append_of_le_length (by rw [rep_length]; exact Nat.le_refl _), List.take_of_length_le (by rw [rep_length]; exact Nat.le_refl _)]
theorem Ints.cut {w : World} {B g cap n m : Nat} {xs : List Int} (h : Ints w B (.slice (some ⟨g, 0, none⟩) n cap) xs) (hn : n = xs.length) (hm : m ≤ n) : Rd w (.slice (some ⟨g, 0, none⟩) m cap) (xs.take m) := (h.take hn hm).rd

--== slices.Repeat
theorem mul_succ_lt {l m c : Nat} (hl : 0 < l) (h : l * m < l * c) : m < c := Nat.lt_of_mul_lt_mul_left h
set_option maxHeartbeats 400000 in
theorem f_Repeat (v : Value) (xs : List Int) (c : Nat) (w : World) (hv : Rd w v xs) (hs : xs.length ≤ 10000) (hc : c ≤ 10000) :
    Calls Try.prog 77 #[v, .int .i64 c] w (RetInts w (rep xs c)) := by
  obtain ⟨i0, hi, hz0, hz1, hz2⟩ := info_parts Try.info2
  have hN : xs.length * c ≤ 100000000 := Nat.le_trans (Nat.mul_le_mul hs hc) (by omega)
  have hdiv : xs.length * c / 18446744073709551616 = 0 := Nat.div_eq_of_lt (by omega)
  have hmod : xs.length * c % 18446744073709551616 = xs.length * c := Nat.mod_eq_of_lt (by omega)
  obtain ⟨ao, cap, hform, hc1, hc2⟩ := id hv.form
  have HV := Lib.hid hv
  clear hv
  subst hform
  have hwl : IntKind.u64.wrap (xs.length : Int) = xs.length := by rw [IntKind.wrap_u64]; omega
  have hwc : IntKind.u64.wrap (c : Int) = c := by rw [IntKind.wrap_u64]; omega
  have hmul := f_bitsMul xs.length c (by omega) (by omega)
  rw [hdiv, hmod] at hmul
  clear hdiv hmod
  have HN : Hid (∀ m, m ≤ c → (repTo xs c m).length = xs.length * c) := fun m h => repTo_length xs c m h
  obtain ⟨N, hNd⟩ : ∃ N, xs.length * c = N := ⟨_, rfl⟩
  have HD := Lib.hid hNd
  rw [hNd] at hN hmul
  clear hNd
  go_enter Try.func77, Try.ntmps77
  go_wp2_with fail
  refine (hmul _).mono ?_
  rintro e w1 ⟨rfl, rfl⟩
  go_wp2_with (at_make; refine wp_mkInts _ rfl _ _ rfl i0 Try.underlying22 hi hz0 hz1 hz2 _ _ _ _ N rfl rfl rfl rfl (by omega) ?_)
  intro w2 hI hB hgt
  have hsz : (Try.prog.info? 2).map (·.size) = some 1 := by rw [hi]; simp [hz1]
  have hv2 := HV.out.below hB
  obtain ⟨d0, hd0, hd0c, hd1⟩ : ∃ d, d = min c 1 ∧ 0 + d ≤ c ∧ (c = 0 ∨ d = 1) := ⟨min c 1, rfl, by omega, by omega⟩
  have hcs : rep xs d0 = xs.take N := by
    have e := rep_take xs 1 c
    rw [rep_one, HD.out] at e
    rw [e, hd0]
  have hl0 : (rep xs d0).length = xs.length * d0 := rep_length xs d0
  have hcp : ∀ W : World, W.heap = w2.heap → (Builtin.copy_ #[22, 22] 3 #[.slice (some ⟨w1.heap.size, 0, none⟩) N N, .slice ao xs.length cap]).run Try.prog W = .ok (goInt (rep xs d0).length) (W.setCells w1.heap.size 0 ((rep xs d0).map (Value.int .i64))) := fun W hW =>
    run_copyI W w1.heap.size w1.heap.size N N 0 N N _ _ _ _ 22 3 Try.underlying22 hsz (by simp) (hI.heap hW) (hv2.heap hW) (by omega) hcs
  obtain ⟨L0, hL0⟩ : ∃ L0, xs.length * d0 = L0 := ⟨_, rfl⟩
  rw [hl0, hL0] at hcp
  obtain ⟨hI2, hC2⟩ := setCells_ints (rep xs d0) 0 w2 _ (by simp) (by rw [List.length_replicate, hl0, ← HD.out, Nat.zero_add]; exact Nat.mul_le_mul_left _ (by omega)) hI
  have e0 := repTo_step xs c 0 d0 hd0c _ rfl
  rw [Nat.mul_zero, Nat.zero_add, Nat.zero_add, repTo_zero, HD.out] at e0
  rw [Nat.zero_add, e0] at hI2
  clear hd0 e0 hl0 hcs
  go_wp2_with (at_builtin; refine wpl_copy _ rfl _ _ 22 22 rfl _ _ rfl rfl (hcp _ rfl) ?_)
  have hLN : L0 ≤ N := by rw [← hL0, ← HD.out]; exact Nat.mul_le_mul_left _ (by omega)
  have hB2 : Below w1.heap.size w1 (w2.setCells w1.heap.size 0 ((rep xs d0).map (Value.int .i64))) := hB.trans (hC2.below (Nat.le_refl _) (by omega))
  have HL0 := Lib.hid hL0
  clear hL0 hC2 hI hcp HN hmul
  go_wp2_with fail
  go_loopw [8] (fun i wr => ∃ m L : Nat, m ≤ c ∧ (c = 0 ∨ 1 ≤ m) ∧ Hid (xs.length * m = L) ∧ L ≤ N ∧ i = .int .i64 L ∧ Ints wr w1.heap.size (.slice (some ⟨w1.heap.size, 0, none⟩) N N) (repTo xs c m) ∧ Below w1.heap.size w1 wr) (fun i _ => N - (intOf i).toNat)
  case atStart => exact ⟨d0, L0, by omega, by omega, HL0, hLN, rfl, hI2, hB2⟩
  case round =>
    clear hI2 hB2 hd0c hd1 HL0 hLN hgt hv2 hB
    obtain ⟨m, L, hm, hm1, HL, hL, rfl, hI, hB⟩ := hrel
    by_cases hlt : L < N
    · have hmc : m < c := mul_succ_lt (l := xs.length) (Nat.pos_of_ne_zero fun h => by have := HD.out; rw [h, Nat.zero_mul] at this; omega) (by rw [HL.out, HD.out]; exact hlt)
      have hlp : 0 < xs.length := Nat.pos_of_ne_zero fun h => by have := HD.out; rw [h, Nat.zero_mul] at this; omega
      obtain ⟨d, hd, hdc, hd1⟩ : ∃ d, d = min m (c - m) ∧ m + d ≤ c ∧ 1 ≤ d := ⟨min m (c - m), rfl, by omega, by omega⟩
      have hsz : (Try.prog.info? 2).map (·.size) = some 1 := by rw [hi]; simp [hz1]
      have hsrc := hI.cut (repTo_length xs c m hm ▸ HD.out.symm) (m := L) (by omega)
      rw [← HL.out, repTo_head, HL.out] at hsrc
      have hcs : rep xs d = (rep xs m).take (N - L) := by
        rw [← HD.out, ← HL.out, ← Nat.mul_sub, rep_take, hd, Nat.min_comm]
      obtain ⟨K, hK⟩ : ∃ K, xs.length * d = K := ⟨_, rfl⟩
      have hlK : (rep xs d).length = K := by rw [rep_length, hK]
      have hKp : 0 < K := by rw [← hK]; exact Nat.mul_pos hlp hd1
      have hKN : L + K ≤ N := by rw [← HL.out, ← hK, ← HD.out, ← Nat.mul_add]; exact Nat.mul_le_mul_left _ hdc
      have hcp : ∀ W : World, W.heap = wr.heap → (Builtin.copy_ #[22, 22] 3 #[.slice (some ⟨w1.heap.size, L, none⟩) (N - L) (N - L), .slice (some ⟨w1.heap.size, 0, none⟩) L N]).run Try.prog W = .ok (goInt K) (W.setCells w1.heap.size L ((rep xs d).map (Value.int .i64))) := fun W hW => by
        have := run_copyI (P := Try.prog) W w1.heap.size w1.heap.size N N L (N - L) (N - L) _ _ _ _ 22 3 Try.underlying22 hsz (repTo_length xs c m hm ▸ HD.out.symm) (hI.heap hW) (hsrc.heap hW) (by omega) hcs
        rwa [hlK] at this
      have hset : ∀ W : World, W.heap = wr.heap → Ints (W.setCells w1.heap.size L ((rep xs d).map (Value.int .i64))) w1.heap.size (.slice (some ⟨w1.heap.size, 0, none⟩) N N) (repTo xs c (m + d)) ∧ Chg w1.heap.size (w1.heap.size + 1) W (W.setCells w1.heap.size L ((rep xs d).map (Value.int .i64))) := fun W hW => by
        obtain ⟨a, b⟩ := setCells_ints (rep xs d) L W _ (repTo_length xs c m hm ▸ HD.out.symm) (by rw [hlK, repTo_length xs c m hm, HD.out]; exact hKN) (hI.heap hW)
        have e := repTo_step xs c m d hdc _ rfl
        rw [HL.out] at e
        rw [e] at a
        exact ⟨a, b⟩
      have HSET := Lib.hid hset
      have hw1 : IntKind.i64.wrap ((L : Int) + (K : Int)) = (L : Int) + K := by rw [IntKind.wrap_i64]; omega
      have HK : Hid (xs.length * (m + d) = L + K) := Lib.hid (by rw [Nat.mul_add, hK, HL.out])
      have hne : ¬ N = L := by omega
      have hn1 : ((N : Int) - (L : Int)).toNat = N - L := by omega
      clear hset hI hsrc hcs hlK hK hd
      go_wp2
      have hcpd := hcp wr.drew rfl
      clear hcp
      go_region
      obtain ⟨hI3, hC3⟩ := HSET.out wr.drew rfl
      have hB3 := (Below.heap_eq hB (w'' := wr.drew) rfl rfl rfl rfl).trans (hC3.below (Nat.le_refl _) hB.size)
      go_wp2
      go_roundw
      case rel => exact ⟨m + d, L + K, hdc, Or.inr (by omega), HK, hKN, by go_num, hI3, hB3⟩
      case measure => simp [intOf]; omega
    · have hLN : L = N := by omega
      subst hLN
      rw [repTo_end xs c m hm (by rw [HL.out, HD.out])] at hI
      have hlen : L = (rep xs c).length := by rw [rep_length, HD.out]
      go_wp2
      go_ret
      exact ⟨_, rfl, by unfold Ints at hI ⊢; rw [← hlen]; rw [hlen] at hI ⊢; exact hI, hB⟩
--== words
def powCode (k : Int) (xs : List Int) (e : Int) : Int := okC (codeOf k [xs]) (if inB e (-64) 64 then 0 else 2)
def powB (xs : List Int) (e : Int) : List Int := if e < 0 then invW xs else xs
def powW (xs : List Int) (e : Int) : List Int := rep (powB xs e) e.natAbs
theorem powB_neg {xs : List Int} {e : Int} (h : e < 0) : powB xs e = invW xs := if_pos h
theorem powB_pos {xs : List Int} {e : Int} (h : ¬ e < 0) : powB xs e = xs := if_neg h
theorem powCode_ne {k : Int} {xs : List Int} {e : Int} (h : ¬ codeOf k [xs] = 0) : powCode k xs e = codeOf k [xs] := okC_ne h
theorem powCode_in {k : Int} {xs : List Int} {e : Int} (h : codeOf k [xs] = 0) (h2 : inB e (-64) 64 = true) : powCode k xs e = 0 := by rw [powCode, okC_zero h, if_pos h2]
theorem powCode_out {k : Int} {xs : List Int} {e : Int} (h : codeOf k [xs] = 0) (h2 : inB e (-64) 64 = false) : powCode k xs e = 2 := by rw [powCode, okC_zero h, if_neg (by simp [h2])]
theorem powW_neg {xs : List Int} {n : Nat} (h : 0 < n) : powW xs (-(n : Int)) = rep (invW xs) n := by unfold powW; rw [powB_neg (by omega)]; congr 1; omega
theorem powW_pos {xs : List Int} {n : Nat} : powW xs (n : Int) = rep xs n := by unfold powW; rw [powB_pos (by omega)]; congr 1
--== impl.WordPower
set_option maxHeartbeats 1000000 in
theorem i_WordPower (k : Int) (va : Value) (xs : List Int) (e : Int) (w : World) (ha : Rd w va xs) (be : -9223372036854775808 ≤ e ∧ e ≤ 9223372036854775807) :
    Calls Try.prog 16 #[.int .i64 k, va, .int .i64 e] w (RetInts2 w (prodL (powCode k xs e) (powW xs e)) (prodC (powCode k xs e) (powW xs e))) := by
  obtain ⟨ao, cap, rfl, _, _⟩ := ha.form
  have hl := Rd2.lit1 22 _ xs ha
  by_cases hc : codeOf k [xs] = 0
  · obtain ⟨⟨h0, h6⟩, hw⟩ := codeOf_zero hc
    obtain ⟨hsx, hx64⟩ := wordB_small h6 (hw xs (by simp))
    by_cases hin : inB e (-64) 64 = true
    · obtain ⟨e1, e2⟩ := inB_true.1 hin
      have HC := Lib.hid (prodL_zero (powW xs e) (powCode_in hc hin))
      have HC0 := Lib.hid hc
      have HI := Lib.hid hin
      clear hc hw hin
      have ha' := ha.below (below_alloc w (.cells #[.slice ao xs.length cap] 22))
      by_cases hneg : e < 0
      · obtain ⟨n, rfl⟩ : ∃ n : Nat, e = -(n : Int) := ⟨(-e).toNat, by omega⟩
        have HP := Lib.hid (powW_neg (xs := xs) (n := n) (by omega))
        rw [HP.out] at HC
        go_enter Try.func16, Try.ntmps16
        go_wp2_with fail
        refine (i_wordCode _ _ _ _ hl).mono ?_
        rintro e w' ⟨rfl, rfl⟩
        rw [HC0.out]
        go_wp2_with fail
        refine (i_inside _ _ _ _).mono ?_
        rintro e w' ⟨rfl, rfl⟩
        rw [HI.out]
        clear hl
        go_wp2_with fail
        refine (i_invertWord _ xs _ ha' (by omega) hsx).mono ?_
        rintro e w2 ⟨v2, rfl, hI, hB⟩
        have hB0 := below_allocd hB
        go_wp2_with fail
        refine (f_Repeat _ _ n _ hI.rd (by rw [invW_length]; omega) (by omega)).mono ?_
        rintro e w3 ⟨v3, rfl, hI3, hB3⟩
        have hB1 := below_size hB0 hB3
        have hs3 := rep_small (invW_small hsx) n
        have hl3 : (rep (invW xs) n).length ≤ 64 * 64 := by rw [rep_length, invW_length]; exact Nat.mul_le_mul (by omega) (by omega)
        go_wp2_with fail
        refine (i_reduceWord _ _ _ hI3.rd (by omega) hs3).mono ?_
        rintro e w4 ⟨v4, rfl, hI4, hB4⟩
        have hB2 := below_size hB1 hB4
        have hI := hI4.mono hB1.size
        clear hI4
        go_wp2_with fail
        refine (i_shortWord _ _ _ _ hI).mono ?_
        rintro e w' ⟨⟨v', rfl, hI'⟩, rfl⟩
        go_wp2_with fail
        go_ret2
        exact ⟨_, ret_tup (by rw [HP.out]; exact HC.out.2.symm), by rw [HP.out, HC.out.1]; exact hI', hB2⟩
      · obtain ⟨n, rfl⟩ : ∃ n : Nat, e = (n : Int) := ⟨e.toNat, by omega⟩
        have HP := Lib.hid (powW_pos (xs := xs) (n := n))
        rw [HP.out] at HC
        go_enter Try.func16, Try.ntmps16
        go_wp2_with fail
        refine (i_wordCode _ _ _ _ hl).mono ?_
        rintro e w' ⟨rfl, rfl⟩
        rw [HC0.out]
        go_wp2_with fail
        refine (i_inside _ _ _ _).mono ?_
        rintro e w' ⟨rfl, rfl⟩
        rw [HI.out]
        clear hl
        have hB0 := below_alloc w (.cells #[.slice ao xs.length cap] 22)
        go_wp2_with fail
        refine (f_Repeat _ _ n _ ha' (by omega) (by omega)).mono ?_
        rintro e w3 ⟨v3, rfl, hI3, hB3⟩
        have hB1 := below_size hB0 hB3
        have hs3 := rep_small (hsx) n
        have hl3 : (rep (xs) n).length ≤ 64 * 64 := by rw [rep_length]; exact Nat.mul_le_mul (by omega) (by omega)
        go_wp2_with fail
        refine (i_reduceWord _ _ _ hI3.rd (by omega) hs3).mono ?_
        rintro e w4 ⟨v4, rfl, hI4, hB4⟩
        have hB2 := below_size hB1 hB4
        have hI := hI4.mono hB1.size
        clear hI4
        go_wp2_with fail
        refine (i_shortWord _ _ _ _ hI).mono ?_
        rintro e w' ⟨⟨v', rfl, hI'⟩, rfl⟩
        go_wp2_with fail
        go_ret2
        exact ⟨_, ret_tup (by rw [HP.out]; exact HC.out.2.symm), by rw [HP.out, HC.out.1]; exact hI', hB2⟩
    · obtain hin : inB e (-64) 64 = false := by simpa using hin
      have HC := Lib.hid (prodL_ne (powW xs e) (c0 := powCode k xs e) (by rw [powCode_out hc hin]; omega))
      have HK := Lib.hid (powCode_out hc hin)
      have HC0 := Lib.hid hc
      have HI := Lib.hid hin
      clear hc hw hin
      go_enter Try.func16, Try.ntmps16
      go_wp2_with fail
      refine (i_wordCode _ _ _ _ hl).mono ?_
      rintro e w' ⟨rfl, rfl⟩
      rw [HC0.out]
      go_wp2_with fail
      refine (i_inside _ _ _ _).mono ?_
      rintro e w' ⟨rfl, rfl⟩
      rw [HI.out]
      go_wp2_with fail
      go_ret2
      exact ⟨_, ret_tup (HC.out.2.trans HK.out).symm, by rw [HC.out.1]; exact Ints.nil _ _, below_alloc _ _⟩
  · have hc1 : (codeOf k [xs] != 0) = true := by simpa using hc
    have HC := Lib.hid (prodL_ne (powW xs e) (c0 := powCode k xs e) (by rw [powCode_ne hc]; exact hc))
    have HK := Lib.hid (powCode_ne (e := e) hc)
    clear hc
    go_enter Try.func16, Try.ntmps16
    go_wp2_with fail
    refine (i_wordCode _ _ _ _ hl).mono ?_
    rintro e w' ⟨rfl, rfl⟩
    go_wp2_with fail
    go_ret2
    exact ⟨_, ret_tup (HC.out.2.trans HK.out).symm, by rw [HC.out.1]; exact Ints.nil _ _, below_alloc _ _⟩
--== spec.WordPower
set_option maxHeartbeats 2000000 in
theorem s_WordPower (k : Int) (va : Value) (xs : List Int) (e : Int) (w : World) (ha : Rd w va xs) (be : -9223372036854775808 ≤ e ∧ e ≤ 9223372036854775807) :
    Calls Try.prog 14 #[.int .i64 k, va, .int .i64 e] w (RetInts2 w (prodL (powCode k xs e) (powW xs e)) (prodC (powCode k xs e) (powW xs e))) := by
  obtain ⟨i0, hi, hz0, hz1, hz2⟩ := info_parts Try.info2
  obtain ⟨ao, cap, rfl, _, _⟩ := ha.form
  by_cases hc : codeOf k [xs] = 0
  · obtain ⟨⟨h0, h6⟩, hw⟩ := codeOf_zero hc
    obtain ⟨hsx, hx64⟩ := wordB_small h6 (hw xs (by simp))
    rw [← codeOf_nil] at hc
    by_cases hin : inB e (-64) 64 = true
    · obtain ⟨e1, e2⟩ := inB_true.1 hin
      have HC := Lib.hid (prodL_zero (powW xs e) (powCode_in ((codeOf_nil k xs) ▸ hc) hin))
      have HC0 := Lib.hid hc
      have HI := Lib.hid hin
      clear hc hw hin
      by_cases hneg : e < 0
      · obtain ⟨n, rfl⟩ : ∃ n : Nat, e = -(n : Int) := ⟨(-e).toNat, by omega⟩
        have HP := Lib.hid (powW_neg (xs := xs) (n := n) (by omega))
        rw [HP.out] at HC
        go_enter Try.func14, Try.ntmps14
        go_wp2_with fail
        refine (s_l06Code _ _ _ xs [] _ ha (Rd.nil _)).mono ?_
        rintro e w' ⟨rfl, rfl⟩
        rw [HC0.out]
        go_wp2_with fail
        refine (s_l01In _ _ _ _).mono ?_
        rintro e w' ⟨rfl, rfl⟩
        rw [HI.out]
        go_wp2_with fail
        refine (s_l01Own _ xs _ ha (by omega)).mono ?_
        rintro e w1 ⟨v1, rfl, hI1, hB0⟩
        have ha1 := ha.below hB0
        go_wp2_with fail
        refine (s_l06Invert _ xs _ ha1 (by omega) hsx).mono ?_
        rintro e w2 ⟨v2, rfl, hI, hB⟩
        have hB1 := below_size hB0 hB
        clear hI1
        have hsz := hB1.size
        have hr2 := hI.rd
        have hlb : (invW xs).length ≤ 64 := by rw [invW_length]; omega
        have HB1 := Lib.hid hB1
        have hv0 := Rd.nil w2
        clear hI hB0
        have hs3 := rep_small (invW_small hsx) n
        have hl3 : (rep (invW xs) n).length ≤ 64 * 64 := by rw [rep_length]; exact Nat.mul_le_mul (by omega) (by omega)
        have hz := (Ints.empty w2).mono hsz
        have hb0 := HB1.out.trans ((below_alloc w2 (.cells #[] 2)).mono hsz)
        have hb2 := below_alloc w2 (.cells #[] 2)
        have HS := Lib.hid (fun j => rep_succ (invW xs) j)
        have HL := Lib.hid (fun j (h : j ≤ n) => show (rep (invW xs) j).length ≤ 64 * 64 by rw [rep_length]; exact Nat.mul_le_mul (by omega) (by omega))
        have HZ := Lib.hid (rep_zero (invW xs))
        generalize invW xs = bs at *
        go_wp2_with fail
        go_loopw [10, 11] (fun o i wr => ∃ j : Nat, j ≤ n ∧ i = .int .i64 j ∧ Ints wr w2.heap.size o (rep bs j) ∧ Below w2.heap.size w2 wr) (fun _ i _ => n - (intOf i).toNat)
        case atStart => exact ⟨0, Nat.zero_le _, rfl, by rw [HZ.out]; exact (Ints.empty w2), hb2⟩
        case round =>
          obtain ⟨j, hj, rfl, hI, hB⟩ := hrel
          by_cases hlt : j < n
          · have hbr := hr2.below hB
            have hlj := HL.out j hj
            go_wp2_with (at_builtin; refine wp_appN _ rfl _ _ rfl w2.heap.size i0 Try.underlying22 hi hz0 hz1 hz2 _ _ rfl hI _ bs rfl hbr (by omega) (by omega) hB.size ?_)
            intro v3 w3 hI3 hG hB3
            rw [← HS.out] at hI3
            go_wp2_with fail
            go_roundw
            case rel => exact ⟨j + 1, by omega, by go_num, hI3, hB.trans hB3⟩
            case measure => simp [intOf]; omega
          · obtain rfl : j = n := by omega
            have hB0 := HB1.out.trans (hB.mono hsz)
            go_wp2_with fail
            refine (s_l06Result _ _ _ hI.rd (by omega) hs3).mono ?_
            rintro e w4 ⟨v4, rfl, hI4, hB4⟩
            go_wp2_with fail
            go_ret2
            exact ⟨_, ret_tup (by rw [HP.out]; exact HC.out.2.symm), by rw [HP.out, HC.out.1]; exact hI4.mono hB0.size, below_size hB0 hB4⟩
      · obtain ⟨n, rfl⟩ : ∃ n : Nat, e = (n : Int) := ⟨e.toNat, by omega⟩
        have HP := Lib.hid (powW_pos (xs := xs) (n := n))
        rw [HP.out] at HC
        go_enter Try.func14, Try.ntmps14
        go_wp2_with fail
        refine (s_l06Code _ _ _ xs [] _ ha (Rd.nil _)).mono ?_
        rintro e w' ⟨rfl, rfl⟩
        rw [HC0.out]
        go_wp2_with fail
        refine (s_l01In _ _ _ _).mono ?_
        rintro e w' ⟨rfl, rfl⟩
        rw [HI.out]
        go_wp2_with fail
        refine (s_l01Own _ xs _ ha (by omega)).mono ?_
        rintro e w1 ⟨v1, rfl, hI1, hB0⟩
        have ha1 := ha.below hB0
        obtain ⟨hI, hB1⟩ : Ints w1 w.heap.size v1 xs ∧ Below w.heap.size w w1 := ⟨hI1, hB0⟩
        clear hI1
        obtain ⟨w2, rfl⟩ : ∃ w2, w2 = w1 := ⟨_, rfl⟩
        obtain ⟨v2, rfl⟩ : ∃ v2, v2 = v1 := ⟨_, rfl⟩
        have hsz := hB1.size
        have hr2 := hI.rd
        have hlb : (xs).length ≤ 64 := by omega
        have HB1 := Lib.hid hB1
        have hv0 := Rd.nil w2
        clear hI hB0
        have hs3 := rep_small (hsx) n
        have hl3 : (rep (xs) n).length ≤ 64 * 64 := by rw [rep_length]; exact Nat.mul_le_mul (by omega) (by omega)
        have hz := (Ints.empty w2).mono hsz
        have hb0 := HB1.out.trans ((below_alloc w2 (.cells #[] 2)).mono hsz)
        have hb2 := below_alloc w2 (.cells #[] 2)
        have HS := Lib.hid (fun j => rep_succ (xs) j)
        have HL := Lib.hid (fun j (h : j ≤ n) => show (rep (xs) j).length ≤ 64 * 64 by rw [rep_length]; exact Nat.mul_le_mul (by omega) (by omega))
        have HZ := Lib.hid (rep_zero (xs))
        generalize xs = bs at *
        go_wp2_with fail
        go_loopw [10, 11] (fun o i wr => ∃ j : Nat, j ≤ n ∧ i = .int .i64 j ∧ Ints wr w2.heap.size o (rep bs j) ∧ Below w2.heap.size w2 wr) (fun _ i _ => n - (intOf i).toNat)
        case atStart => exact ⟨0, Nat.zero_le _, rfl, by rw [HZ.out]; exact (Ints.empty w2), hb2⟩
        case round =>
          obtain ⟨j, hj, rfl, hI, hB⟩ := hrel
          by_cases hlt : j < n
          · have hbr := hr2.below hB
            have hlj := HL.out j hj
            go_wp2_with (at_builtin; refine wp_appN _ rfl _ _ rfl w2.heap.size i0 Try.underlying22 hi hz0 hz1 hz2 _ _ rfl hI _ bs rfl hbr (by omega) (by omega) hB.size ?_)
            intro v3 w3 hI3 hG hB3
            rw [← HS.out] at hI3
            go_wp2_with fail
            go_roundw
            case rel => exact ⟨j + 1, by omega, by go_num, hI3, hB.trans hB3⟩
            case measure => simp [intOf]; omega
          · obtain rfl : j = n := by omega
            have hB0 := HB1.out.trans (hB.mono hsz)
            go_wp2_with fail
            refine (s_l06Result _ _ _ hI.rd (by omega) hs3).mono ?_
            rintro e w4 ⟨v4, rfl, hI4, hB4⟩
            go_wp2_with fail
            go_ret2
            exact ⟨_, ret_tup (by rw [HP.out]; exact HC.out.2.symm), by rw [HP.out, HC.out.1]; exact hI4.mono hB0.size, below_size hB0 hB4⟩
    · obtain hin : inB e (-64) 64 = false := by simpa using hin
      have HC := Lib.hid (prodL_ne (powW xs e) (c0 := powCode k xs e) (by rw [powCode_out ((codeOf_nil k xs) ▸ hc) hin]; omega))
      have HK := Lib.hid (powCode_out ((codeOf_nil k xs) ▸ hc) hin)
      have HC0 := Lib.hid hc
      have HI := Lib.hid hin
      clear hc hw hin
      go_enter Try.func14, Try.ntmps14
      go_wp2_with fail
      refine (s_l06Code _ _ _ xs [] _ ha (Rd.nil _)).mono ?_
      rintro e w' ⟨rfl, rfl⟩
      rw [HC0.out]
      go_wp2_with fail
      refine (s_l01In _ _ _ _).mono ?_
      rintro e w' ⟨rfl, rfl⟩
      rw [HI.out]
      go_wp2_with fail
      go_ret2
      exact ⟨_, ret_tup (HC.out.2.trans HK.out).symm, by rw [HC.out.1]; exact Ints.nil _ _, Below.refl _ _⟩
  · have HC := Lib.hid (prodL_ne (powW xs e) (c0 := powCode k xs e) (by rw [powCode_ne hc]; exact hc))
    have HK := Lib.hid (powCode_ne (e := e) hc)
    have hc1 : (codeOf k [xs] != 0) = true := by simpa using hc
    clear hc
    go_enter Try.func14, Try.ntmps14
    go_wp2_with fail
    refine (s_l06Code _ _ _ xs [] _ ha (Rd.nil _)).mono ?_
    rintro e w' ⟨rfl, rfl⟩
    rw [codeOf_nil]
    go_wp2_with fail
    go_ret2
    exact ⟨_, ret_tup (HC.out.2.trans HK.out).symm, by rw [HC.out.1]; exact Ints.nil _ _, Below.refl _ _⟩
end Go.Proofs.Ythnpndheaailjaa
