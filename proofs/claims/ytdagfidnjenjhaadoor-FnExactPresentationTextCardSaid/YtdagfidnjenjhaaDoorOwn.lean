/-
  Appends to what a call owns, as runs: a row to a list of rows, an element to a presentation.
-/
import Derived.Test.YtdagfidnjenjhaaDoorPresD
import Derived.Deep.RegionLaw
import Derived.Deep.OwnRows
import Derived.Laws.Cover3
namespace Go.Proofs.YtdagfidnjenjhaaDoor
set_option linter.unusedVariables false
set_option linter.unusedSimpArgs false
set_option maxRecDepth 100000
open Go.RowKit

section
variable {α : Type} {e : TypeId} {O : World → (Nat → Prop) → Value → List α → Prop}
/-- blocks behind an append: the old ones, the element's, new ones -/
def aft (S T : Nat → Prop) (w w' : World) : Nat → Prop := fun k => (S k ∨ T k) ∧ k < w.heap.size ∨ w.heap.size ≤ k ∧ k < w'.heap.size
theorem run_appO (hO : Local O) {P : Program} (w : World) (t ty : TypeId) (i : TypeInfo) (ht : P.underlying t = some (.slice e)) (hi : P.info? e = some i) (hz : i.zero = some (.slice none 0 0)) (hsize : i.size = 1) (hby : i.bytes = 24)
    (S T' : Nat → Prop) (v : Value) (ds : List (List α)) (hown : ON e O w S v ds) (y : Value) (d : List α) (hy : O w T' y d) (hone : y.oneCell' = true) (hd : ∀ k, T' k → ¬ S k) (hn : ds.length ≤ 1000000000) :
    ∃ v' w', (Builtin.append_ #[t, t] ty #[v, .slice (some ⟨w.heap.size, 0, none⟩) 1 1]).run P (w.alloc (.cells #[y] e)) = .ok v' w' ∧ ON e O w' (aft S T' w w') v' (ds ++ [d]) ∧ ChgS (fun k => S k ∧ v.ownBlock = some k) w w' := by
  obtain ⟨vs, T, k1, k2, k3, k4, k5⟩ := hown
  have hvl : vs.length = ds.length := by have := k1.1; omega
  obtain ⟨v', w', hr, g1, g2, g3⟩ := run_app (w.alloc (.cells #[y] e)) 0 t ty e i (.slice none 0 0) 24 ht hi hz hsize hby rfl v ds.length vs (World.ownsRow.alloc k1 _) (.slice (some ⟨w.heap.size, 0, none⟩) 1 1) [y]
    ⟨_, 1, rfl, by simp, by simp, fun h => by (cases h), .inr ⟨w.heap.size, 0, rfl, fun j hj => by
      obtain rfl : j = 0 := by simpa using hj
      simp⟩⟩
    (fun u hu => by simp at hu; subst hu; exact hone) (by simp [maxLen]; omega) (by simp; omega) (Nat.zero_le _)
  refine ⟨v', w', hr, ?_⟩
  have hG : Grew w w' v v' := ⟨⟨g2.os, g2.tape, g2.output, by have := g2.size; simp at this; omega, fun k hk hne => (g2.block k (by simp; omega) hne).trans (Below.heap_alloc w _ k hk)⟩, fun g hg => (g3 g hg).imp id fun h => by simp at h; omega⟩
  have hsz := hG.grown.size
  have keep : ∀ (A : Nat → Prop) (u : Value) (c : List α), O w A u c → (∀ g, v.ownBlock = some g → ¬ A g) → O w' (fun k => A k ∧ k < w.heap.size) u c := fun A u c hu hd' =>
    hO.loc (hO.cut hu) fun k hk1 hk3 => hG.grown.block k hk3 fun e => hd' k e.symm hk1.1
  have hvT : ∀ g, v.ownBlock = some g → ¬ T' g := fun g hg ht => hd g ht (k2 g hg)
  refine ⟨⟨vs ++ [y], fun j => if j = ds.length then fun k => T' k ∧ k < w.heap.size else fun k => T j k ∧ k < w.heap.size, by rw [List.length_append]; exact g1, fun g hg => ?_, fun j hj => ?_, fun j hj g hg => ?_, fun j k hj hk hjk => ?_⟩, ChgS.of_grew hG fun g hg => ⟨k2 g hg, hg⟩⟩
  · have hlt := own_lt g1 hg
    rcases hG.moved g hg with hm | hm
    · exact .inl ⟨.inl (k2 g hm), (own_lt k1 hm).2⟩
    · exact .inr ⟨hm, hlt.2⟩
  · rw [List.length_append] at hj
    simp only [List.length_cons, List.length_nil] at hj
    by_cases hjl : j = ds.length
    · subst hjl
      simp only [if_true]
      rw [gapp_last, ← hvl, gapp_last]
      exact ⟨fun k hk => .inl ⟨.inr hk.1, hk.2⟩, keep _ _ _ hy hvT⟩
    · simp only [if_neg hjl]
      rw [gapp_left _ _ _ _ (by omega), gapp_left _ _ _ _ (by omega)]
      have := k3 j (by omega)
      exact ⟨fun k hk => .inl ⟨.inl (this.1 k hk.1), hk.2⟩, keep _ _ _ this.2 fun g hg => k4 j (by omega) g hg⟩
  · rw [List.length_append] at hj
    simp only [List.length_cons, List.length_nil] at hj
    by_cases hjl : j = ds.length
    · simp only [if_pos hjl]
      rcases hG.moved g hg with hm | hm
      · exact fun h => hvT g hm h.1
      · exact fun h => by have := h.2; omega
    · simp only [if_neg hjl]
      rcases hG.moved g hg with hm | hm
      · exact fun h => k4 j (by omega) g hm h.1
      · exact fun h => by have := h.2; omega
  · rw [List.length_append] at hj hk
    simp only [List.length_cons, List.length_nil] at hj hk
    by_cases hjn : j = ds.length
    · by_cases hkl : k = ds.length
      · omega
      · simp only [if_pos hjn, if_neg hkl]; exact fun x hx hx' => hd x hx.1 ((k3 k (by omega)).1 x hx'.1)
    · by_cases hkl : k = ds.length
      · simp only [if_neg hjn, if_pos hkl]; exact fun x hx hx' => hd x hx'.1 ((k3 j (by omega)).1 x hx.1)
      · simp only [if_neg hjn, if_neg hkl]; exact fun x hx hx' => k5 j k (by omega) (by omega) hjk x hx.1 hx'.1
end

/-- an append whose run is known -/
theorem wp_of_run {P : Program} (w : World) {ops : Array Oper} {rest : List Oper} {o : Oper} {a : Act} {Q : Exit → Act → World → Prop} (hgd : o.guard = none) (s x : Operand) (t : TypeId)
    (ho : o.op = .call { callee := .builtin .append, args := #[s, x], argTypes := #[t, t] }) (v vx : Value) (hs : a.eval s = v) (hx : a.eval x = vx) (v' : Value) (w' : World)
    (hr : (Builtin.append_ #[t, t] o.type #[v, vx]).run P w = .ok v' w') (h : wpList P ops Q rest (a.put o.dst v') w') : wpList P ops Q (o :: rest) a w := by
  refine wpList_plain hgd fun K hK' => ?_
  unfold Oper.wp execOp
  simp only [ho, resolve, invoke, builtin, Sem.run_bind, Sem.run_pure, Result.andThen_ok, List.map_toArray, List.map_cons, List.map_nil, hs, hx, hr]
  exact hK' _ _ h
theorem step_of_run {P : Program} {w : World} {ops : Array Oper} {o : Oper} {a : Act} {K : Act → World → Prop} {Q : Exit → Act → World → Prop} {E : Prop} (hgd : o.guard = none) (s x : Operand) (t : TypeId)
    (ho : o.op = .call { callee := .builtin .append, args := #[s, x], argTypes := #[t, t] }) (v vx : Value) (hs : a.eval s = v) (hx : a.eval x = vx) (v' : Value) (w' : World)
    (hr : (Builtin.append_ #[t, t] o.type #[v, vx]).run P w = .ok v' w') (h : K (a.put o.dst v') w') : if Region.wanted o (yielded ops a.tmps) = true then Oper.wp P o a w K Q else E := by
  rw [if_pos (by simp [Region.wanted, hgd])]
  unfold Oper.wp execOp
  simp only [ho, resolve, invoke, builtin, Sem.run_bind, Sem.run_pure, Result.andThen_ok, List.map_toArray, List.map_cons, List.map_nil, hs, hx, hr]
  exact h
theorem run_eql_nil {P : Program} (w : World) (t e : TypeId) (a : Option Addr) (l c : Nat) (h : P.underlying t = some (.slice e)) : (binOp .eql t (.slice a l c) (.slice none 0 0)).run P w = .ok (.bool a.isNone) w := by
  have h1 : (Op.equal t (.slice a l c) (.slice none 0 0)).run P w = .ok a.isNone w := Go.run_equal_slice_nil w t e a l c h
  simp only [binOp]
  simp [h1]

/-- a presentation that grows by a power -/
theorem run_appPow (w : World) (ty : TypeId) (S T : Nat → Prop) (v1 v2 v3 : Value) (p : Pres) (h : OP w S v1 v2 v3 p) (y : Value) (d : List Int) (hy : O1 w T y d) (hone : y.oneCell' = true) (hd : ∀ k, T k → ¬ S k) (hn : p.powers.length ≤ 1000000000) :
    ∃ v2' w', (Builtin.append_ #[23, 23] ty #[v2, .slice (some ⟨w.heap.size, 0, none⟩) 1 1]).run Tryd.prog (w.alloc (.cells #[y] 22)) = .ok v2' w' ∧ OP w' (aft S T w w') v1 v2' v3 ⟨p.orders, p.powers ++ [d], p.conj⟩ ∧ ChgS S w w' := by
  obtain ⟨i0, hi, hz0, hz1, hz2⟩ := info_parts Tryd.infoRow
  obtain ⟨A, B, C, h1, h2, h3, s1, s2, s3, d1, d2, d3⟩ := h
  obtain ⟨v2', w', hr, hO, hC⟩ := run_appO local_O1 w 23 ty i0 Tryd.underlying23 hi hz0 hz1 hz2 B T v2 p.powers h2 y d hy hone (fun k hk hb => hd k hk (s2 k hb)) hn
  have hC2 : ChgS B w w' := hC.sub fun k hk => hk.1
  refine ⟨v2', w', hr, ⟨fun k => A k ∧ k < w.heap.size, aft B T w w', fun k => C k ∧ k < w.heap.size, local_O1.chg (local_O1.cut h1) hC2 fun k hk => d1 k hk.1, hO, local_O3.chg (local_O3.cut h3) hC2 fun k hk hb => d3 k hb hk.1, ?_, ?_, ?_, ?_, ?_, ?_⟩, hC2.sub s2⟩
  · exact fun k hk => .inl ⟨.inl (s1 k hk.1), hk.2⟩
  · rintro k (⟨hk | hk, hl⟩ | hk)
    · exact .inl ⟨.inl (s2 k hk), hl⟩
    · exact .inl ⟨.inr hk, hl⟩
    · exact .inr hk
  · exact fun k hk => .inl ⟨.inl (s3 k hk.1), hk.2⟩
  · rintro k ⟨hk, hl⟩ (⟨hb | hb, _⟩ | hb)
    · exact d1 k hk hb
    · exact hd k hb (s1 k hk)
    · omega
  · exact fun k hk hc => d2 k hk.1 hc.1
  · rintro k (⟨hb | hb, _⟩ | hb) ⟨hc, hl⟩
    · exact d3 k hb hc
    · exact hd k hb (s3 k hc)
    · omega
theorem run_appConj (w : World) (ty : TypeId) (S T : Nat → Prop) (v1 v2 v3 : Value) (p : Pres) (h : OP w S v1 v2 v3 p) (y : Value) (d : List (List Int)) (hy : O2 w T y d) (hone : y.oneCell' = true) (hd : ∀ k, T k → ¬ S k) (hn : p.conj.length ≤ 1000000000) :
    ∃ v3' w', (Builtin.append_ #[24, 24] ty #[v3, .slice (some ⟨w.heap.size, 0, none⟩) 1 1]).run Tryd.prog (w.alloc (.cells #[y] 23)) = .ok v3' w' ∧ OP w' (aft S T w w') v1 v2 v3' ⟨p.orders, p.powers, p.conj ++ [d]⟩ ∧ ChgS S w w' := by
  obtain ⟨i0, hi, hz0, hz1, hz2⟩ := info_parts Tryd.infoRow2
  obtain ⟨A, B, C, h1, h2, h3, s1, s2, s3, d1, d2, d3⟩ := h
  obtain ⟨v3', w', hr, hO, hC⟩ := run_appO local_O2 w 24 ty i0 Tryd.underlying24 hi hz0 hz1 hz2 C T v3 p.conj h3 y d hy hone (fun k hk hb => hd k hk (s3 k hb)) hn
  have hC2 : ChgS C w w' := hC.sub fun k hk => hk.1
  refine ⟨v3', w', hr, ⟨fun k => A k ∧ k < w.heap.size, fun k => B k ∧ k < w.heap.size, aft C T w w', local_O1.chg (local_O1.cut h1) hC2 fun k hk => d2 k hk.1, local_O2.chg (local_O2.cut h2) hC2 fun k hk => d3 k hk.1, hO, ?_, ?_, ?_, ?_, ?_, ?_⟩, hC2.sub s3⟩
  · exact fun k hk => .inl ⟨.inl (s1 k hk.1), hk.2⟩
  · exact fun k hk => .inl ⟨.inl (s2 k hk.1), hk.2⟩
  · rintro k (⟨hk | hk, hl⟩ | hk)
    · exact .inl ⟨.inl (s3 k hk), hl⟩
    · exact .inl ⟨.inr hk, hl⟩
    · exact .inr hk
  · exact fun k hk hc => d1 k hk.1 hc.1
  · rintro k ⟨hk, hl⟩ (⟨hb | hb, _⟩ | hb)
    · exact d2 k hk hb
    · exact hd k hb (s1 k hk)
    · omega
  · rintro k ⟨hk, hl⟩ (⟨hb | hb, _⟩ | hb)
    · exact d3 k hk hb
    · exact hd k hb (s2 k hk)
    · omega
/-- a row of zeros that 'make' has laid -/
theorem made_own (w : World) (n : Nat) (hn : n ≤ 1000000) : Ints (w.alloc (.cells (madeCells #[.int .i64 0] n) 2)) w.heap.size (.slice (some ⟨w.heap.size, 0, none⟩) n n) (List.replicate n 0) := by
  have hm := madeInts n
  rw [Nat.mul_one] at hm
  have hm' : (madeCells #[.int .i64 0] n).toList = (List.replicate n (0 : Int)).map (Value.int .i64) := hm
  have hsz : (madeCells #[.int .i64 0] n).size = n := by
    have := congrArg List.length hm'
    simpa using this
  refine ⟨by simp, .inr ⟨w.heap.size, n, madeCells #[.int .i64 0] n, by simp, Nat.le_refl _, heap_alloc_new w _, by simp, by unfold maxLen; omega, by omega, ?_⟩⟩
  rw [hm']; simp
theorem run_makeInts (n : Nat) (hn : n ≤ 1000000) (w : World) : (Instr.makeSlice 22 (.int .i64 (n : Int)) (.int .i64 (n : Int))).run Tryd.prog w = .ok (.slice (some ⟨w.heap.size, 0, none⟩) n n) (w.alloc (.cells (madeCells #[.int .i64 0] n) 2)) :=
  run_make_row' 22 2 (.int .i64 0) 8 Tryd.underlying22 Tryd.info2 rfl .i64 .i64 n (by omega) (by omega) w

/-! ### three cells of a presentation -/
def Bx (w : World) (b : Nat) (v1 v2 v3 : Value) : Prop := w.heap[b]? = some (.cells #[v1, v2, v3] 30 (0, 0))
section
variable {w w' : World} {b : Nat} {v1 v2 v3 : Value}
theorem Bx.lt (h : Bx w b v1 v2 v3) : b < w.heap.size := (Array.getElem?_eq_some_iff.1 h).1
theorem Bx.c0 (h : Bx w b v1 v2 v3) : w.cell? ⟨b, 0, none⟩ = some v1 := by unfold Bx at h; simp [World.cell?, h]
theorem Bx.c1 (h : Bx w b v1 v2 v3) : w.cell? ⟨b, 1, none⟩ = some v2 := by unfold Bx at h; simp [World.cell?, h]
theorem Bx.c2 (h : Bx w b v1 v2 v3) : w.cell? ⟨b, 2, none⟩ = some v3 := by unfold Bx at h; simp [World.cell?, h]
theorem Bx.fr (h : Bx w b v1 v2 v3) (o : Nat) : w.frozen? ⟨b, o, none⟩ = false := by unfold Bx at h; simp [World.frozen?, h]
theorem Bx.chg {S : Nat → Prop} (h : Bx w b v1 v2 v3) (hc : ChgS S w w') (hS : ¬ S b) : Bx w' b v1 v2 v3 := (hc.block b h.lt hS).trans h
theorem Bx.below {B : Nat} (h : Bx w b v1 v2 v3) (hb : Below B w w') (hB : b < B) : Bx w' b v1 v2 v3 := (hb.block b hB).trans h
theorem Bx.drew (h : Bx w b v1 v2 v3) : Bx w.drew b v1 v2 v3 := h
theorem Bx.new (w : World) (v1 v2 v3 : Value) : Bx (w.alloc (.cells #[v1, v2, v3] 30)) w.heap.size v1 v2 v3 := heap_alloc_new w _
theorem Bx.old (h : Bx w b v1 v2 v3) (o : Obj) : Bx (w.alloc o) b v1 v2 v3 := (Below.heap_alloc w o b h.lt).trans h
theorem Bx.other (h : Bx w b v1 v2 v3) {c : Nat} (hc : b ≠ c) (o : Nat) (y : Value) : Bx (w.setCell ⟨c, o, none⟩ y) b v1 v2 v3 := (heap_setCell_other w ⟨c, o, none⟩ b y hc).trans h
theorem Bx.set0 (h : Bx w b v1 v2 v3) (y : Value) : Bx (w.setCell ⟨b, 0, none⟩ y) b y v2 v3 := by
  have := heap_setCell_same w b 0 #[v1, v2, v3] _ y h
  simpa [Bx] using this
theorem Bx.set1 (h : Bx w b v1 v2 v3) (y : Value) : Bx (w.setCell ⟨b, 1, none⟩ y) b v1 y v3 := by
  have := heap_setCell_same w b 1 #[v1, v2, v3] _ y h
  simpa [Bx] using this
theorem Bx.set2 (h : Bx w b v1 v2 v3) (y : Value) : Bx (w.setCell ⟨b, 2, none⟩ y) b v1 v2 y := by
  have := heap_setCell_same w b 2 #[v1, v2, v3] _ y h
  simpa [Bx] using this
theorem Bx.ptr {p : Pres} (h : Bx w b v1 v2 v3) (hr : RdP w v1 v2 v3 p) : PtrP w (.pointer (some ⟨b, 0, none⟩)) p := ⟨b, v1, v2, v3, rfl, h.c0, h.c1, h.c2, hr⟩
end
theorem OP.sets {w : World} {S : Nat → Prop} {v1 v2 v3 : Value} {p : Pres} (h : OP w S v1 v2 v3 p) {b : Nat} (hb : ¬ S b) (o : Nat) (y : Value) : OP (w.setCell ⟨b, o, none⟩ y) S v1 v2 v3 p := h.chg (ChgS.setCell w b o y) fun k hk e => hb (e ▸ hk)
theorem OP.sub {w : World} {S S' : Nat → Prop} {v1 v2 v3 : Value} {p : Pres} (h : OP w S v1 v2 v3 p) (hs : ∀ k, k < w.heap.size → S k → S' k) : OP w S' v1 v2 v3 p := by
  obtain ⟨A, B, C, h1, h2, h3, s1, s2, s3, d1, d2, d3⟩ := h
  exact ⟨fun k => A k ∧ k < w.heap.size, fun k => B k ∧ k < w.heap.size, fun k => C k ∧ k < w.heap.size, local_O1.cut h1, local_O2.cut h2, local_O3.cut h3, fun k hk => hs k hk.2 (s1 k hk.1), fun k hk => hs k hk.2 (s2 k hk.1), fun k hk => hs k hk.2 (s3 k hk.1),
    fun k hk hk' => d1 k hk.1 hk'.1, fun k hk hk' => d2 k hk.1 hk'.1, fun k hk hk' => d3 k hk.1 hk'.1⟩
theorem OP.nil {w : World} {S : Nat → Prop} {v1 : Value} {os : List Int} (h : O1 w S v1 os) : OP w S v1 (.slice none 0 0) (.slice none 0 0) ⟨os, [], []⟩ :=
  ⟨S, fun _ => False, fun _ => False, h, local_O2.nil _ _, local_O3.nil _ _, fun _ hk => hk, fun _ hk => hk.elim, fun _ hk => hk.elim, fun _ _ h => h, fun _ _ h => h, fun _ _ h => h⟩
theorem OP.forms {w : World} {S : Nat → Prop} {v1 v2 v3 : Value} {p : Pres} (h : OP w S v1 v2 v3 p) :
    (∃ a c, v1 = .slice a p.orders.length c) ∧ (∃ a c, v2 = .slice a p.powers.length c) ∧ ∃ a c, v3 = .slice a p.conj.length c := by
  obtain ⟨r1, r2, r3⟩ := h.rd
  obtain ⟨a1, c1, e1, _⟩ := r1.form
  obtain ⟨a2, c2, e2, _⟩ := r2.form
  obtain ⟨a3, c3, e3, _⟩ := r3.form
  exact ⟨⟨a1, c1, e1⟩, ⟨a2, c2, e2⟩, a3, c3, e3⟩
theorem OP.formsN {w : World} {S : Nat → Prop} {v1 v2 v3 : Value} {p : Pres} (h : OP w S v1 v2 v3 p) {n1 n2 n3 : Nat} (e1 : p.orders.length = n1) (e2 : p.powers.length = n2) (e3 : p.conj.length = n3) :
    (∃ a c, v1 = .slice a n1 c) ∧ (∃ a c, v2 = .slice a n2 c) ∧ ∃ a c, v3 = .slice a n3 c := by
  subst e1 e2 e3; exact h.forms
theorem Below.toChg {B : Nat} {w w' : World} (h : Below B w w') : ChgS (fun k => B ≤ k) w w' := ⟨h.os, h.tape, h.output, h.size, fun k _ hn => h.block k (by omega)⟩
/-- the ways through a region meet in one state -/
def MeetAt (a' : Act) (w' : World) : Exit → Act → World → Prop
  | .normal, a, w => a = a' ∧ w = w'
  | _, _, _ => False
theorem via {P : Program} {c : Code} {Q : Exit → Act → World → Prop} {a : Act} {w : World} (a' : Act) (w' : World) (h : Code.wp P c (MeetAt a' w') a w) (hQ : Q .normal a' w') : Code.wp P c Q a w :=
  Code.wp_mono (fun e b u hb => by
    cases e with
    | normal => obtain ⟨rfl, rfl⟩ := hb; exact hQ
    | _ => exact hb.elim) h
--== plain (forms)
/-- how often each letter occurs -/
def vecS (e : List Int) (l : Int) : List Int := e.set (l - 1).toNat (e.getD (l - 1).toNat 0 + 1)
theorem gset_selfI (l : List Int) (i : Nat) (x : Int) (h : i < l.length) : (l.set i x).getD i 0 = x := by simp [List.getD, h]
theorem gset_neI (l : List Int) (i j : Nat) (x : Int) (h : ¬ i = j) : (l.set i x).getD j 0 = l.getD j 0 := by simp [List.getD, List.getElem?_set, h]
def vecL (n : Nat) (w : List Int) : List Int := w.foldl vecS (List.replicate n 0)
theorem vecL_len (n : Nat) (w : List Int) : (vecL n w).length = n := by
  refine snoc_ind (P := fun w => (vecL n w).length = n) (by simp [vecL]) ?_ w
  intro w l ih
  simp only [vecL, List.foldl_append, List.foldl_cons, List.foldl_nil] at ih ⊢
  unfold vecS
  rw [List.length_set]; exact ih
theorem vecL_succ (n : Nat) (w : List Int) (j : Nat) (h : j < w.length) : vecL n (w.take (j + 1)) = vecS (vecL n (w.take j)) (w.getD j 0) := by
  rw [take_snoc w j 0 h, vecL, List.foldl_append]; rfl
theorem vecL_bd (n : Nat) (w : List Int) (t : Nat) : 0 ≤ (vecL n w).getD t 0 ∧ (vecL n w).getD t 0 ≤ w.length := by
  refine snoc_ind (P := fun w => 0 ≤ (vecL n w).getD t 0 ∧ (vecL n w).getD t 0 ≤ w.length) (by simp [vecL, List.getD, List.getElem?_replicate]; split <;> simp) ?_ w
  intro w l ih
  have e : vecL n (w ++ [l]) = vecS (vecL n w) l := by simp [vecL, List.foldl_append]
  rw [e, List.length_append, List.length_cons, List.length_nil]
  unfold vecS
  by_cases ht : (l - 1).toNat = t
  · subst ht
    by_cases hlt : (l - 1).toNat < (vecL n w).length
    · have := gset_selfI (vecL n w) (l - 1).toNat ((vecL n w).getD (l - 1).toNat 0 + 1) hlt
      rw [this]; omega
    · rw [List.set_eq_of_length_le (by omega)]; omega
  · rw [gset_neI _ _ _ _ ht]; omega
theorem nam (x : Int) : ∃ y, Hid (x = y) := ⟨x, rfl⟩
theorem Rd.formN {w : World} {v : Value} {xs : List Int} (h : Rd w v xs) {n : Nat} (e : xs.length = n) : ∃ ao cap, v = .slice ao n cap ∧ n ≤ cap ∧ cap ≤ 9223372036854775807 := by subst e; exact h.form
theorem Rd2.formN {w : World} {v : Value} {xs : List (List Int)} (h : Rd2 w v xs) {n : Nat} (e : xs.length = n) : ∃ ao cap, v = .slice ao n cap ∧ n ≤ cap ∧ cap ≤ 9223372036854775807 := by subst e; exact h.form
theorem Rd3.formN {w : World} {v : Value} {xs : List (List (List Int))} (h : Rd3 w v xs) {n : Nat} (e : xs.length = n) : ∃ ao cap, v = .slice ao n cap ∧ n ≤ cap ∧ cap ≤ 9223372036854775807 := by subst e; exact h.form
theorem conj_at {w : World} {p : Pres} (hV : ValidP p) {v : Value} (h3 : Rd3 w v p.conj) {i : Nat} (hi : i < p.n) :
    ∃ b o q, v = .slice (some ⟨b, o, none⟩) p.n q ∧ ∃ a z, w.cell? ⟨b, o + i, none⟩ = some (.slice a (p.n - (i + 1)) z) ∧
      ∀ k, i + 1 + k < p.n → ∃ b' o', a = some ⟨b', o', none⟩ ∧ ∃ a5 z5, w.cell? ⟨b', o' + k, none⟩ = some (.slice a5 p.n z5) ∧ Rd w (.slice a5 p.n z5) (p.C i (i + 1 + k)) := by
  obtain ⟨a3, q3, rfl, _, _⟩ := h3.formN hV.cl
  have hl3 := hV.cl
  obtain ⟨b3, o3, r3, rfl, k3, RC⟩ := h3.at (j := i) (by omega)
  have hcl := hV.clen i hi
  obtain ⟨a, z, rfl, _, _⟩ := RC.formN (n := p.n - (i + 1)) (by omega)
  refine ⟨b3, o3, q3, rfl, a, z, k3, fun k hk => ?_⟩
  obtain ⟨b4, o4, r4, rfl, k4, RC4⟩ := RC.at (j := k) (by omega)
  have he : (p.conj.getD i []).getD k [] = p.C i (i + 1 + k) := by unfold Pres.C; rw [show i + 1 + k - i - 1 = k by omega]
  have hVI := hV.valid.cj i (i + 1 + k) (by omega) hk
  rw [he] at RC4
  obtain ⟨a5, z5, rfl, _, _⟩ := RC4.formN (n := p.n) hVI.len
  exact ⟨b4, o4, rfl, a5, z5, k4, RC4⟩
theorem pow_at {w : World} {p : Pres} (hV : ValidP p) {v : Value} (h2 : Rd2 w v p.powers) (hn : 0 < p.n) :
    ∃ b o q, v = .slice (some ⟨b, o, none⟩) p.n q ∧ ∀ j, j < p.n → ∃ a z, w.cell? ⟨b, o + j, none⟩ = some (.slice a p.n z) ∧ Rd w (.slice a p.n z) (p.P j) := by
  obtain ⟨a2, q2, rfl, _, _⟩ := h2.formN hV.pl
  have hl2 := hV.pl
  obtain ⟨b2, o2, _, rfl, _, _⟩ := h2.at (j := 0) (by omega)
  refine ⟨b2, o2, q2, rfl, fun j hj => ?_⟩
  obtain ⟨b2', o2', r2, he, k2, RP⟩ := h2.at (j := j) (by omega)
  cases he
  obtain ⟨a, z, rfl, _, _⟩ := RP.formN (n := p.n) (hV.valid.pow j hj).len
  exact ⟨a, z, k2, RP⟩
theorem ord_at {w : World} {p : Pres} {v : Value} (h1 : Rd w v p.orders) (hn : 0 < p.n) :
    ∃ b o q, v = .slice (some ⟨b, o, none⟩) p.n q ∧ ∀ j, j < p.n → w.cell? ⟨b, o + j, none⟩ = some (.int .i64 (p.r j)) := by
  obtain ⟨a1, q1, rfl, _, _⟩ := h1.formN (n := p.n) rfl
  obtain ⟨b1, o1, rfl, _⟩ := h1.at (j := 0) hn
  refine ⟨b1, o1, q1, rfl, fun j hj => ?_⟩
  obtain ⟨b', o', he, k⟩ := h1.at (j := j) hj
  cases he; exact k
def PosM (n : Nat) (w : List Int) : Prop := ∀ l ∈ w, 1 ≤ l ∧ l ≤ (n : Int)
theorem nwL_pos {n : Nat} {v : List Int} (h : v.length = n) : PosM n (nwL v) := fun l hl => by
  unfold nwL at hl
  rw [List.mem_map] at hl
  obtain ⟨k, hk, rfl⟩ := hl
  have := (mem_lw hk).1
  omega
theorem VI.sm {p : Pres} {i : Nat} {v : List Int} (hV : ValidP p) (h : VI p i v) : SmE v := ⟨by rw [h.len]; have := hV.n6; omega, fun j hj => by
  rw [h.len] at hj
  have h1 := h.lo j hj
  have h2 := h.hi j hj
  have h3 := hV.rk j hj
  exact ⟨(v.getD j 0).toNat, by omega, by omega⟩⟩
--== spec.l01Zero
set_option maxHeartbeats 400000 in
theorem s_l01Zero (v : Value) (xs : List Int) (w : World) (hv : Rd w v xs) :
    Calls Tryd.prog 26 #[v] w fun e w' => e = .returned (.bool (zeroB xs)) ∧ w = w' := by
  obtain ⟨ao, cap, rfl, hc1, hc2, _, hA⟩ := hv
  go_enter Tryd.func26, Tryd.ntmps26
  go_wp2
  go_loop [3] (fun i => ∃ j : Nat, j ≤ xs.length ∧ i = .int .i64 j ∧ ∀ t, t < j → xs.getD t 0 = 0) (fun i => xs.length - (intOf i).toNat)
  case atStart => exact ⟨0, Nat.zero_le _, rfl, fun t ht => by omega⟩
  case round =>
    obtain ⟨j, hj, rfl, hall⟩ := hrel
    have HA := Lib.hid hall
    clear hall
    by_cases hlt : j < xs.length
    · rcases hA with hA | ⟨b, off, rfl, hA⟩
      · omega
      have hcell := hA j hlt
      clear hA
      generalize hx : xs.getD j 0 = x at hcell
      have HX := Lib.hid hx
      clear hx
      by_cases h0 : x = 0
      · subst h0
        go_wp2
        go_round
        case rel => exact ⟨j + 1, by omega, by go_num, fun t ht => by
          by_cases h : t = j
          · subst h; exact HX.out
          · exact HA.out t (by omega)⟩
        case measure => simp [intOf]; omega
      · have h1 : (x == 0) = false := by simpa using h0
        have h2 : (x != 0) = true := by simpa using h0
        have HN := Lib.hid h0
        clear h0
        go_wp2
        go_ret
        exact ⟨ret_bool (zeroB_false hlt (by rw [HX.out]; exact HN.out)).symm, rfl⟩
    · obtain rfl : j = xs.length := by omega
      go_wp2
      go_ret
      exact ⟨ret_bool (zeroB_true.2 HA.out).symm, rfl⟩
--== spec.l01Same
set_option maxHeartbeats 1000000 in
theorem s_l01Same (va vb : Value) (xs ys : List Int) (w : World) (ha : Rd w va xs) (hb : Rd w vb ys) (hl : xs.length = ys.length) :
    Calls Tryd.prog 30 #[va, vb] w (RetQuiet w (.bool (decide (xs = ys)))) := by
  obtain ⟨n, hn⟩ : ∃ n, ys.length = n := ⟨_, rfl⟩
  obtain ⟨ao, ca, rfl, ha1, ha2⟩ := ha.formN (hl.trans hn)
  obtain ⟨bo, cb, rfl, hb1, hb2⟩ := hb.formN hn
  have HA := Lib.hid ha
  have HB := Lib.hid hb
  have HN := Lib.hid hn
  have HL := Lib.hid (hl.trans hn)
  clear hl hn ha hb
  go_enter Tryd.func30, Tryd.ntmps30
  go_wp2_with fail
  go_loopw [5] (fun i wr => ∃ k : Nat, k ≤ n ∧ i = .int .i64 k ∧ (∀ j, j < k → xs.getD j 0 = ys.getD j 0) ∧ ∃ q, wr = w.drewN q) (fun i _ => n - (intOf i).toNat)
  case atStart => exact ⟨0, Nat.zero_le _, rfl, fun j h => by omega, 0, rfl⟩
  case round =>
    obtain ⟨k, hk, rfl, hpre, q, hq⟩ := hrel
    have HP := Lib.hid hpre
    have HQ := Lib.hid hq
    clear hpre hq
    by_cases hlt : k < n
    · obtain ⟨b, o, rfl, c1⟩ := HA.out.at (show k < xs.length by rw [HL.out]; exact hlt)
      obtain ⟨b', o', rfl, c2⟩ := HB.out.at (show k < ys.length by rw [HN.out]; exact hlt)
      have c1' : wr.cell? ⟨b, o + k, none⟩ = some (.int .i64 (xs.getD k 0)) := by rw [HQ.out]; exact c1
      have c2' : wr.cell? ⟨b', o' + k, none⟩ = some (.int .i64 (ys.getD k 0)) := by rw [HQ.out]; exact c2
      obtain ⟨x, Hx⟩ := nam (xs.getD k 0)
      obtain ⟨y, Hy⟩ := nam (ys.getD k 0)
      rw [Hx.out] at c1'
      rw [Hy.out] at c2'
      clear c1 c2
      by_cases hxy : x = y
      · have D1 : (x != y) = false := by simpa using hxy
        have HXY := Lib.hid hxy
        clear hxy
        go_wp2_with fail
        go_quiet (fail)
        go_wp2_with fail
        go_roundw
        case rel => exact ⟨k + 1, by omega, by go_num, fun j hj => by
          by_cases h : j = k
          · subst h; rw [Hx.out, Hy.out]; exact HXY.out
          · exact HP.out j (by omega), by rw [HQ.out]; exact drewN_drewN _ _ _⟩
        case measure => simp [intOf]; omega
      · have D1 : (x != y) = true := by simpa using hxy
        have HXY : Hid (decide (xs = ys) = false) := by
          show _ = _; rw [decide_eq_false]; intro h; apply hxy; rw [← Hx.out, ← Hy.out, h]
        clear hxy
        go_wp2_with fail
        go_quiet (fail)
        go_wp2_with fail
        go_ret
        exact ⟨ret_bool HXY.out.symm, by rw [HQ.out]; exact drewN_drewN _ _ _⟩
    · obtain rfl : k = n := by omega
      have HE : Hid (decide (xs = ys) = true) := by
        show _ = _; rw [decide_eq_true_iff]; exact all_eq (HL.out.trans HN.out.symm) fun j hj => HP.out j (by rw [HL.out] at hj; exact hj)
      go_wp2_with fail
      go_ret
      exact ⟨ret_bool HE.out.symm, q, HQ.out⟩
--== end
end Go.Proofs.YtdagfidnjenjhaaDoor
