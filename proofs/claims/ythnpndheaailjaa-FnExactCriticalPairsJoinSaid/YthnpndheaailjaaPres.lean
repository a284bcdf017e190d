/-
  Presentations: what reads, what a call owns; the laws' helpers.
-/
import Derived.Test.YthnpndheaailjaaHelpB
import Derived.Test.YthnpndheaailjaaLaw
import Derived.Test.YthnpndheaailjaaPlain
import Derived.Deep.RegionHeld
namespace Go.Proofs.Ythnpndheaailjaa
set_option linter.unusedVariables false
set_option linter.unusedSimpArgs false
set_option maxRecDepth 100000
open Go.RowKit

/-- three values read as a presentation -/
def RdP (w : World) (v1 v2 v3 : Value) (p : Pres) : Prop := Rd w v1 p.orders ∧ Rd2 w v2 p.powers ∧ Rd3 w v3 p.conj
theorem RdP.below {w w' : World} {v1 v2 v3 : Value} {p : Pres} (h : RdP w v1 v2 v3 p) (hb : Below w.heap.size w w') : RdP w' v1 v2 v3 p := ⟨h.1.below hb, h.2.1.below hb, h.2.2.below hb⟩
/-- a presentation that a call owns -/
def OP (w : World) (S : Nat → Prop) (v1 v2 v3 : Value) (p : Pres) : Prop :=
  ∃ (A B C : Nat → Prop), O1 w A v1 p.orders ∧ O2 w B v2 p.powers ∧ O3 w C v3 p.conj ∧ (∀ k, A k → S k) ∧ (∀ k, B k → S k) ∧ (∀ k, C k → S k) ∧ (∀ k, A k → ¬ B k) ∧ (∀ k, A k → ¬ C k) ∧ ∀ k, B k → ¬ C k
theorem OP.rd {w : World} {S : Nat → Prop} {v1 v2 v3 : Value} {p : Pres} (h : OP w S v1 v2 v3 p) : RdP w v1 v2 v3 p := by
  obtain ⟨A, B, C, h1, h2, h3, _⟩ := h
  exact ⟨h1.rd, h2.rd, h3.rd⟩
theorem OP.chg {w w' : World} {S T : Nat → Prop} {v1 v2 v3 : Value} {p : Pres} (h : OP w S v1 v2 v3 p) (hc : ChgS T w w') (hd : ∀ k, S k → ¬ T k) : OP w' S v1 v2 v3 p := by
  obtain ⟨A, B, C, h1, h2, h3, s1, s2, s3, r⟩ := h
  exact ⟨A, B, C, local_O1.chg h1 hc fun k hk => hd k (s1 k hk), local_O2.chg h2 hc fun k hk => hd k (s2 k hk), local_O3.chg h3 hc fun k hk => hd k (s3 k hk), s1, s2, s3, r⟩
theorem OP.below {w w' : World} {S : Nat → Prop} {v1 v2 v3 : Value} {p : Pres} (h : OP w S v1 v2 v3 p) (hb : Below w.heap.size w w') : OP w' S v1 v2 v3 p := by
  obtain ⟨A, B, C, h1, h2, h3, r⟩ := h
  exact ⟨A, B, C, local_O1.below h1 hb, local_O2.below h2 hb, local_O3.below h3 hb, r⟩

def pcount (p : Pres) : Nat := p.orders.length + (cat p.powers).length + tot3 p.conj
def psize (p : Pres) : Nat := p.orders.length + size2 p.powers + size3 p.conj
def MP (k : Int) (p : Pres) : Pres := ⟨marks k p.orders.length, M2 (k + p.orders.length) p.powers p.powers.length, M3 (k + p.orders.length + (cat p.powers).length) p.conj p.conj.length⟩
theorem sum_le_of {β : Type} (f g : β → Nat) (l : List β) (h : ∀ x, f x ≤ g x) : tot f l ≤ tot g l := by
  unfold tot
  induction l with
  | nil => simp
  | cons a l ih => simp only [List.map_cons, List.sum_cons]; have := h a; omega
theorem psize_le {p : Pres} {n : Nat} (h : psize p ≤ n) : p.orders.length ≤ n ∧ p.powers.length ≤ n ∧ p.conj.length ≤ n ∧ (cat p.powers).length ≤ n ∧ tot3 p.conj ≤ n ∧ tots p.conj ≤ n ∧ pcount p ≤ n := by
  have h1 : tot3 p.conj ≤ tot size2 p.conj := sum_le_of _ _ _ fun x => by unfold lenc size2; omega
  have h2 : tots p.conj ≤ tot size2 p.conj := sum_le_of _ _ _ fun x => by unfold size2; omega
  unfold psize size2 size3 at h
  unfold pcount
  omega

/-- a call that makes a presentation -/
def RetP (w : World) (p : Pres) (e : Ending) (w' : World) : Prop := ∃ v1 v2 v3, e = .returned (.agg #[v1, v2, v3]) ∧ OP w' (win w.heap.size w'.heap.size) v1 v2 v3 p ∧ Below w.heap.size w w'
theorem bcell {W w1 : World} (hb : Below W.heap.size W w1) : (∀ b o, b < W.heap.size → w1.cell? ⟨b, o, none⟩ = W.cell? ⟨b, o, none⟩) ∧ (∀ b o, b < W.heap.size → w1.frozen? ⟨b, o, none⟩ = W.frozen? ⟨b, o, none⟩) :=
  ⟨fun b o h => hb.cell (p := ⟨b, o, none⟩) h, fun b o h => hb.frozen (p := ⟨b, o, none⟩) h⟩
theorem ChgS.setCell (w : World) (b o : Nat) (v : Value) : ChgS (fun k => k = b) w (w.setCell ⟨b, o, none⟩ v) :=
  ⟨rfl, rfl, rfl, Nat.le_of_eq (by simp), fun k _ hk => heap_setCell_other w ⟨b, o, none⟩ k v hk⟩
theorem below_allocs2 (w : World) (o o' : Obj) : Below w.heap.size w ((w.alloc o).alloc o') := below_size (below_alloc w o) (below_alloc _ o')
theorem below_allocs3 (w : World) (o o' o'' : Obj) : Below w.heap.size w (((w.alloc o).alloc o').alloc o'') := below_size (below_allocs2 w o o') (below_alloc _ o'')
/-- a step behind the call's own base -/
theorem below_next {w0 w w' : World} (h : Below w0.heap.size w0 w) (h' : Below w.heap.size w w') {b o : Nat} (v : Value) (hb : w0.heap.size ≤ b) : Below w0.heap.size w0 (w'.setCell ⟨b, o, none⟩ v) := (below_size h h').setCell (p := ⟨b, o, none⟩) hb v
theorem Local.sets {α : Type} {O : World → (Nat → Prop) → Value → List α → Prop} (hO : Local O) {w : World} {S : Nat → Prop} {v : Value} {d : List α} (h : O w S v d) {b : Nat} (hb : ¬ S b) (o : Nat) (y : Value) : O (w.setCell ⟨b, o, none⟩ y) S v d :=
  hO.chg h (ChgS.setCell w b o y) fun k hk e => hb (e ▸ hk)
theorem Local.step {α : Type} {O : World → (Nat → Prop) → Value → List α → Prop} (hO : Local O) {w w' : World} {S : Nat → Prop} {v : Value} {d : List α} (h : O w S v d) {b o : Nat} {y : Value} (k : Below (w.setCell ⟨b, o, none⟩ y).heap.size (w.setCell ⟨b, o, none⟩ y) w') (hb : ¬ S b) : O w' S v d :=
  hO.below (hO.sets h hb o y) k
--== laws.toPresentation
set_option maxHeartbeats 4000000 in
theorem l_toPresentation (v1 v2 v3 : Value) (p : Pres) (w : World) (hv : RdP w v1 v2 v3 p) (hs : psize p ≤ 1000000000) :
    Calls Try.prog 27 #[.agg #[v1, v2, v3]] w (RetP w p) := by
  obtain ⟨h1, h2, h3⟩ := hv
  obtain ⟨b1, b2, b3, b4, b5, b6, b7⟩ := psize_le hs
  obtain ⟨ao1, cap1, rfl, _, _⟩ := h1.form
  obtain ⟨ao2, cap2, rfl, _, _⟩ := h2.form
  obtain ⟨ao3, cap3, rfl, _, _⟩ := h3.form
  go_enter Try.func27, Try.ntmps27
  go_wp2_with fail
  have g0 := below_allocs3 w (Obj.cells #[Value.slice ao1 p.orders.length cap1, Value.slice ao2 p.powers.length cap2, Value.slice ao3 p.conj.length cap3] 38) (Obj.cells #[Value.slice none 0 0, Value.slice none 0 0, Value.slice none 0 0] 32) (Obj.cells #[Value.slice none 0 0, Value.slice none 0 0, Value.slice none 0 0] 32)
  refine (l_toInt64S _ p.orders _ (h1.below g0) (by omega)).mono ?_
  rintro e w1 ⟨u1, rfl, i1, k1⟩
  obtain ⟨c1, f1⟩ := bcell k1
  have z1 : w.heap.size + 1 + 1 < w1.heap.size := by have := k1.size; simp at this; omega
  have z1' : w.heap.size < w1.heap.size := by omega
  have z1'' : w.heap.size + 1 < w1.heap.size := by omega
  have g1 := below_next (b := w.heap.size + 1 + 1) (o := 0) g0 k1 u1 (by omega)
  have j1 := i1.o1
  obtain ⟨a1, q1, rfl, _, _⟩ := i1.form
  clear i1 k1
  go_wp2_with fail
  refine (l_toInt64SS _ p.powers _ (h2.below g1) (by omega) (by omega)).mono ?_
  rintro e w2 ⟨u2, rfl, i2, k2⟩
  obtain ⟨c2, f2⟩ := bcell k2
  have z2 : w.heap.size + 1 + 1 < w2.heap.size := by have := k2.size; simp at this; omega
  have z2' : w.heap.size < w2.heap.size := by omega
  have z2'' : w.heap.size + 1 < w2.heap.size := by omega
  have g2 := below_next (b := w.heap.size + 1 + 1) (o := 1) g1 k2 u2 (by omega)
  have s2 : w1.heap.size ≤ w2.heap.size := by have := k2.size; simp at this; omega
  have j2 := i2
  obtain ⟨a2, q2, rfl, _, _⟩ := i2.rd.form
  clear i2
  go_wp2_with fail
  refine (l_toInt64SSS _ p.conj _ (h3.below g2) (by omega) (by omega) (by omega)).mono ?_
  rintro e w3 ⟨u3, rfl, i3, k3⟩
  obtain ⟨c3, f3⟩ := bcell k3
  have z3 : w.heap.size + 1 + 1 < w3.heap.size := by have := k3.size; simp at this; omega
  have z3' : w.heap.size < w3.heap.size := by omega
  have z3'' : w.heap.size + 1 < w3.heap.size := by omega
  have g3 := below_next (b := w.heap.size + 1 + 1) (o := 2) g2 k3 u3 (by omega)
  have s3 : w2.heap.size ≤ w3.heap.size := by have := k3.size; simp at this; omega
  have j3 := i3
  obtain ⟨a3, q3, rfl, _, _⟩ := i3.rd.form
  clear i3
  go_wp2_with fail
  have n1 : ∀ b, b < w.heap.size + 3 → ¬ win (((w.alloc (Obj.cells #[Value.slice ao1 p.orders.length cap1, Value.slice ao2 p.powers.length cap2, Value.slice ao3 p.conj.length cap3] 38)).alloc (Obj.cells #[Value.slice none 0 0, Value.slice none 0 0, Value.slice none 0 0] 32)).alloc (Obj.cells #[Value.slice none 0 0, Value.slice none 0 0, Value.slice none 0 0] 32)).heap.size w1.heap.size b := fun b hb h => by have := h.1; simp at this; omega
  have n2 : ∀ b, b < w1.heap.size → ¬ win (w1.setCell ⟨w.heap.size + 1 + 1, 0, none⟩ (Value.slice a1 p.orders.length q1)).heap.size w2.heap.size b := fun b hb h => by have := h.1; simp at this; omega
  have n3 : ∀ b, b < w2.heap.size → ¬ win (w2.setCell ⟨w.heap.size + 1 + 1, 1, none⟩ (Value.slice a2 p.powers.length q2)).heap.size w3.heap.size b := fun b hb h => by have := h.1; simp at this; omega
  have l1 := local_O1.step (local_O1.step j1 k2 (n1 _ (by omega))) k3 (n1 _ (by omega))
  have l2 := local_O2.step j2 k3 (n2 _ (by omega))
  have r1 := local_O1.sets (local_O1.sets (local_O1.sets (local_O1.sets l1 (n1 (w.heap.size + 1 + 1) (by omega)) 2 (Value.slice a3 p.conj.length q3)) (n1 (w.heap.size + 1) (by omega)) 0 (Value.slice a1 p.orders.length q1)) (n1 (w.heap.size + 1) (by omega)) 1 (Value.slice a2 p.powers.length q2)) (n1 (w.heap.size + 1) (by omega)) 2 (Value.slice a3 p.conj.length q3)
  have r2 := local_O2.sets (local_O2.sets (local_O2.sets (local_O2.sets l2 (n2 (w.heap.size + 1 + 1) (by omega)) 2 (Value.slice a3 p.conj.length q3)) (n2 (w.heap.size + 1) (by omega)) 0 (Value.slice a1 p.orders.length q1)) (n2 (w.heap.size + 1) (by omega)) 1 (Value.slice a2 p.powers.length q2)) (n2 (w.heap.size + 1) (by omega)) 2 (Value.slice a3 p.conj.length q3)
  have r3 := local_O3.sets (local_O3.sets (local_O3.sets (local_O3.sets j3 (n3 (w.heap.size + 1 + 1) (by omega)) 2 (Value.slice a3 p.conj.length q3)) (n3 (w.heap.size + 1) (by omega)) 0 (Value.slice a1 p.orders.length q1)) (n3 (w.heap.size + 1) (by omega)) 1 (Value.slice a2 p.powers.length q2)) (n3 (w.heap.size + 1) (by omega)) 2 (Value.slice a3 p.conj.length q3)
  have m0 : w3.cell? ⟨w.heap.size + 1, 0, none⟩ = some (Value.slice none 0 0) := by
    rw [c3 _ _ (by simp; omega), World.cell?_setCell_far _ _ _ _ (by simp), c2 _ _ (by simp; omega), World.cell?_setCell_far _ _ _ _ (by simp), c1 _ _ (by simp)]; simp [go_sem]
  have m1 : w3.cell? ⟨w.heap.size + 1, 1, none⟩ = some (Value.slice none 0 0) := by
    rw [c3 _ _ (by simp; omega), World.cell?_setCell_far _ _ _ _ (by simp), c2 _ _ (by simp; omega), World.cell?_setCell_far _ _ _ _ (by simp), c1 _ _ (by simp)]; simp [go_sem]
  have m2 : w3.cell? ⟨w.heap.size + 1, 2, none⟩ = some (Value.slice none 0 0) := by
    rw [c3 _ _ (by simp; omega), World.cell?_setCell_far _ _ _ _ (by simp), c2 _ _ (by simp; omega), World.cell?_setCell_far _ _ _ _ (by simp), c1 _ _ (by simp)]; simp [go_sem]
  refine bodyPost_ret (v := .agg #[Value.slice a1 p.orders.length q1, Value.slice a2 p.powers.length q2, Value.slice a3 p.conj.length q3]) (by simp [results, Try.results27, go_sem, m0, m1, m2]) rfl ⟨_, _, _, rfl, ⟨_, _, _, r1, r2, r3, ?_, ?_, ?_, ?_, ?_, ?_⟩, ((g3.setCell (p := ⟨w.heap.size + 1, 0, none⟩) (by simp) _).setCell (p := ⟨w.heap.size + 1, 1, none⟩) (by simp) _).setCell (p := ⟨w.heap.size + 1, 2, none⟩) (by simp) _⟩
  · rintro k ⟨ha, hb⟩; simp at ha; refine ⟨by omega, by simp; omega⟩
  · rintro k ⟨ha, hb⟩; simp at ha; refine ⟨by omega, by simp; omega⟩
  · rintro k ⟨ha, hb⟩; simp at ha; refine ⟨by omega, by simp; omega⟩
  · rintro k ⟨ha, hb⟩ ⟨ha', hb'⟩; simp at ha ha'; omega
  · rintro k ⟨ha, hb⟩ ⟨ha', hb'⟩; simp at ha ha'; omega
  · rintro k ⟨ha, hb⟩ ⟨ha', hb'⟩; simp at ha ha'; omega
--== laws.eqPresentation
set_option maxHeartbeats 4000000 in
theorem l_eqPresentation (v1 v2 v3 u1 u2 u3 : Value) (p : Pres) (w : World) (hv : RdP w v1 v2 v3 p) (hu : RdP w u1 u2 u3 p) :
    Calls Try.prog 22 #[.agg #[v1, v2, v3], .agg #[u1, u2, u3]] w (RetV w (.bool true)) := by
  obtain ⟨h1, h2, h3⟩ := hv
  obtain ⟨e1, e2, e3⟩ := hu
  obtain ⟨ao1, cap1, rfl, _, _⟩ := h1.form
  obtain ⟨ao2, cap2, rfl, _, _⟩ := h2.form
  obtain ⟨ao3, cap3, rfl, _, _⟩ := h3.form
  obtain ⟨bo1, dap1, rfl, _, _⟩ := e1.form
  obtain ⟨bo2, dap2, rfl, _, _⟩ := e2.form
  obtain ⟨bo3, dap3, rfl, _, _⟩ := e3.form
  go_enter Try.func22, Try.ntmps22
  go_wp2_with fail
  have g0 := below_allocs2 w (Obj.cells #[Value.slice ao1 p.orders.length cap1, Value.slice ao2 p.powers.length cap2, Value.slice ao3 p.conj.length cap3] 32) (Obj.cells #[Value.slice bo1 p.orders.length dap1, Value.slice bo2 p.powers.length dap2, Value.slice bo3 p.conj.length dap3] 32)
  refine (l_eqInt64S_same _ _ p.orders _ (h1.below g0) (e1.below g0)).mono ?_
  rintro e w1 ⟨rfl, k1⟩
  obtain ⟨c1, f1⟩ := bcell k1
  have z1 : w.heap.size + 1 < w1.heap.size := by have := k1.size; simp at this; omega
  have z1' : w.heap.size < w1.heap.size := by omega
  have g1 := below_size g0 k1
  clear k1
  go_wp2_with fail
  refine (l_eqInt64SS_same _ _ p.powers _ (h2.below g1) (e2.below g1)).mono ?_
  rintro e w2 ⟨rfl, k2⟩
  obtain ⟨c2, f2⟩ := bcell k2
  have z2 : w.heap.size + 1 < w2.heap.size := by have := k2.size; omega
  have z2' : w.heap.size < w2.heap.size := by omega
  have g2 := below_size g1 k2
  clear k2
  go_wp2_with fail
  refine (l_eqInt64SSS_same _ _ p.conj _ (h3.below g2) (e3.below g2)).mono ?_
  rintro e w3 ⟨rfl, k3⟩
  have g3 := below_size g2 k3
  clear k3
  go_wp2_with fail
  go_ret
  exact ⟨rfl, g3⟩
--== laws.szPresentation
set_option maxHeartbeats 4000000 in
theorem l_szPresentation (v1 v2 v3 : Value) (p : Pres) (left : Int) (w : World) (hv : RdP w v1 v2 v3 p) (h0 : 0 ≤ left) (hl : left ≤ 1000000000) :
    Calls Try.prog 25 #[.agg #[v1, v2, v3], .int .i64 left] w (RetV w (.int .i64 (szI (psize p) left))) := by
  obtain ⟨h1, h2, h3⟩ := hv
  obtain ⟨ao1, cap1, rfl, _, _⟩ := h1.form
  obtain ⟨ao2, cap2, rfl, _, _⟩ := h2.form
  obtain ⟨ao3, cap3, rfl, _, _⟩ := h3.form
  have g0 := below_alloc w (Obj.cells #[Value.slice ao1 p.orders.length cap1, Value.slice ao2 p.powers.length cap2, Value.slice ao3 p.conj.length cap3] 38)
  by_cases q1 : (p.orders.length : Int) ≤ left
  · have S1 := Lib.hid (szI_in q1)
    by_cases q2 : (size2 p.powers : Int) ≤ left - p.orders.length
    · have S2 := Lib.hid (szI_in q2)
      by_cases q3 : (size3 p.conj : Int) ≤ left - p.orders.length - size2 p.powers
      · have S3 := Lib.hid (szI_in q3)
        have ST : Hid (szI (psize p) left = left - p.orders.length - size2 p.powers - size3 p.conj) := by show _ = _; rw [szI_in (by unfold psize; omega)]; unfold psize; omega
        go_enter Try.func25, Try.ntmps25
        go_wp2_with fail
        refine (l_szInt64S _ p.orders _ _ (h1.below g0) (by omega) (by omega)).mono ?_
        rintro e w' ⟨rfl, rfl⟩
        rw [S1.out]
        go_wp2_with fail
        refine (l_szInt64SS _ p.powers _ _ (h2.below g0) (by omega) (by omega)).mono ?_
        rintro e w' ⟨rfl, rfl⟩
        rw [S2.out]
        go_wp2_with fail
        refine (l_szInt64SSS _ p.conj _ _ (h3.below g0) (by omega) (by omega)).mono ?_
        rintro e w' ⟨rfl, rfl⟩
        rw [S3.out]
        go_wp2_with fail
        go_ret
        exact ⟨ret_int ST.out.symm, g0⟩
      · have S3 := Lib.hid (szI_out q3)
        have ST : Hid (szI (psize p) left = -1) := szI_out (by unfold psize; omega)
        go_enter Try.func25, Try.ntmps25
        go_wp2_with fail
        refine (l_szInt64S _ p.orders _ _ (h1.below g0) (by omega) (by omega)).mono ?_
        rintro e w' ⟨rfl, rfl⟩
        rw [S1.out]
        go_wp2_with fail
        refine (l_szInt64SS _ p.powers _ _ (h2.below g0) (by omega) (by omega)).mono ?_
        rintro e w' ⟨rfl, rfl⟩
        rw [S2.out]
        go_wp2_with fail
        refine (l_szInt64SSS _ p.conj _ _ (h3.below g0) (by omega) (by omega)).mono ?_
        rintro e w' ⟨rfl, rfl⟩
        rw [S3.out]
        go_wp2_with fail
        go_ret
        exact ⟨ret_int ST.out.symm, g0⟩
    · have S2 := Lib.hid (szI_out q2)
      have ST : Hid (szI (psize p) left = -1) := szI_out (by unfold psize; omega)
      go_enter Try.func25, Try.ntmps25
      go_wp2_with fail
      refine (l_szInt64S _ p.orders _ _ (h1.below g0) (by omega) (by omega)).mono ?_
      rintro e w' ⟨rfl, rfl⟩
      rw [S1.out]
      go_wp2_with fail
      refine (l_szInt64SS _ p.powers _ _ (h2.below g0) (by omega) (by omega)).mono ?_
      rintro e w' ⟨rfl, rfl⟩
      rw [S2.out]
      go_wp2_with fail
      go_ret
      exact ⟨ret_int ST.out.symm, g0⟩
  · have S1 := Lib.hid (szI_out q1)
    have ST : Hid (szI (psize p) left = -1) := szI_out (by unfold psize; omega)
    go_enter Try.func25, Try.ntmps25
    go_wp2_with fail
    refine (l_szInt64S _ p.orders _ _ (h1.below g0) (by omega) (by omega)).mono ?_
    rintro e w' ⟨rfl, rfl⟩
    rw [S1.out]
    go_wp2_with fail
    go_ret
    exact ⟨ret_int ST.out.symm, g0⟩
--== marks
theorem ChgS.at {S : Nat → Prop} {w w' : World} (h : ChgS S w w') {b : Nat} (hb : b < w.heap.size) (hS : ¬ S b) : (∀ o, w'.cell? ⟨b, o, none⟩ = w.cell? ⟨b, o, none⟩) ∧ (∀ o, w'.frozen? ⟨b, o, none⟩ = w.frozen? ⟨b, o, none⟩) :=
  ⟨fun o => World.cell?_of_block (a := ⟨b, o, none⟩) (h.block b hb hS), fun o => World.frozen?_of_block (a := ⟨b, o, none⟩) (h.block b hb hS)⟩
theorem ChgS.of_below (S : Nat → Prop) {w w' : World} (h : Below w.heap.size w w') : ChgS S w w' := ⟨h.os, h.tape, h.output, h.size, fun k hk _ => h.block k hk⟩
theorem ChgS.sub {S T : Nat → Prop} {w w' : World} (h : ChgS S w w') (hs : ∀ k, S k → T k) : ChgS T w w' := ⟨h.os, h.tape, h.output, h.size, fun k hk hn => h.block k hk fun x => hn (hs k x)⟩
theorem ChgS.then {S : Nat → Prop} {a b c : World} (h : ChgS S a b) (k : ChgS S b c) : ChgS S a c := h.trans k (fun _ x => x) (fun _ x => x)
--== laws.markPresentation
set_option maxHeartbeats 4000000 in
theorem l_markPresentation (S : Nat → Prop) (v1 v2 v3 : Value) (p : Pres) (k : Int) (w : World) (hv : OP w S v1 v2 v3 p) (hk0 : 0 ≤ k) (hk1 : k ≤ 1000000000) (hs : psize p ≤ 1000000000) :
    Calls Try.prog 23 #[.agg #[v1, v2, v3], .int .i64 k] w fun e w' => e = .returned (.int .i64 (k + pcount p)) ∧ OP w' S v1 v2 v3 (MP k p) ∧ ChgS S w w' := by
  obtain ⟨A, B, C, h1, h2, h3, s1, s2, s3, d1, d2, d3⟩ := hv
  obtain ⟨b1, b2, b3, b4, b5, b6, b7⟩ := psize_le hs
  obtain ⟨ao1, cap1, rfl, _, _⟩ := h1.rd.form
  obtain ⟨ao2, cap2, rfl, _, _⟩ := h2.rd.form
  obtain ⟨ao3, cap3, rfl, _, _⟩ := h3.rd.form
  have g0 := below_alloc w (Obj.cells #[Value.slice ao1 p.orders.length cap1, Value.slice ao2 p.powers.length cap2, Value.slice ao3 p.conj.length cap3] 32)
  have HC : Hid (pcount p = p.orders.length + (cat p.powers).length + tot3 p.conj) := rfl
  go_enter Try.func23, Try.ntmps23
  go_wp2_with fail
  have n1 : ∀ k, A k ∧ k < w.heap.size → k < w.heap.size := fun k h => h.2
  have h1' := local_O1.below (local_O1.cut h1) (below_alloc w (Obj.cells #[Value.slice ao1 p.orders.length cap1, Value.slice ao2 p.powers.length cap2, Value.slice ao3 p.conj.length cap3] 32))
  have h2' := local_O2.below (local_O2.cut h2) g0
  have h3' := local_O3.below (local_O3.cut h3) g0
  clear h1 h2 h3
  have x0 : ChgS S w _ := ChgS.of_below S g0
  refine (l_markO1 _ _ p.orders _ _ h1' (by omega) (by omega) (by omega)).mono ?_
  rintro e w1 ⟨rfl, i1, k1, hz1⟩
  have h2b := local_O2.chg h2' k1 (fun k hk h => d1 k h.1 hk.1)
  have h3b := local_O3.chg h3' k1 (fun k hk h => d2 k h.1 hk.1)
  clear h1' h2' h3'
  obtain ⟨c1, f1⟩ := k1.at (b := w.heap.size) (by simp) (fun h => by have := h.2; omega)
  have x1 := x0.then (k1.sub fun k h => s1 k h.1)
  have y1 : w.heap.size < w1.heap.size := by rw [hz1]; simp
  have Z1 := Lib.hid hz1
  clear hz1 k1 x0
  go_wp2_with fail
  refine (l_markInt64SS _ _ p.powers _ _ h2b (by omega) (by omega) (by omega) (by omega)).mono ?_
  rintro e w2 ⟨rfl, i2, k2, hz2⟩
  have i1b := local_O1.chg i1 k2 (fun k hk h => d1 k hk.1 h.1)
  have h3c := local_O3.chg h3b k2 (fun k hk h => d3 k h.1 hk.1)
  obtain ⟨c2, f2⟩ := k2.at (b := w.heap.size) y1 (fun h => by have := h.2; omega)
  have x2 := x1.then (k2.sub fun k h => s2 k h.1)
  have y2 : w.heap.size < w2.heap.size := by rw [hz2]; exact y1
  clear hz2 k2 x1 i1 h2b h3b
  go_wp2_with fail
  refine (l_markInt64SSS _ _ p.conj _ _ h3c (by omega) (by omega) (by omega) (by omega) (by omega)).mono ?_
  rintro e w3 ⟨rfl, i3, k3, hz3⟩
  have i1c := local_O1.chg i1b k3 (fun k hk h => d2 k hk.1 h.1)
  have i2c := local_O2.chg i2 k3 (fun k hk h => d3 k hk.1 h.1)
  have x3 := x2.then (k3.sub fun k h => s3 k h.1)
  clear hz3 k3 x2 i1b i2 h3c
  have hfin : OP w3 S (.slice ao1 p.orders.length cap1) (.slice ao2 p.powers.length cap2) (.slice ao3 p.conj.length cap3) (MP k p) :=
    ⟨fun t => A t ∧ t < w.heap.size, fun t => B t ∧ t < w.heap.size, fun t => C t ∧ t < w.heap.size, by simpa [MP, marks_length] using i1c, by simpa [MP, M2_length] using i2c, by simpa [MP, M3_length] using i3,
      fun t h => s1 t h.1, fun t h => s2 t h.1, fun t h => s3 t h.1, fun t h h' => d1 t h.1 h'.1, fun t h h' => d2 t h.1 h'.1, fun t h h' => d3 t h.1 h'.1⟩
  clear i1c i2c i3
  go_wp2_with fail
  go_ret
  exact ⟨ret_int (by rw [HC.out]; omega), hfin, x3⟩
--== laws.heldPresentation
set_option maxHeartbeats 4000000 in
theorem l_heldPresentation (v1 v2 v3 : Value) (p : Pres) (k : Int) (w : World) (hv : RdP w v1 v2 v3 (MP k p)) (hk0 : 0 ≤ k) (hk1 : k ≤ 1000000000) (hs : psize p ≤ 1000000000) :
    Calls Try.prog 24 #[.agg #[v1, v2, v3], .int .i64 k] w (RetV w (.int .i64 (k + pcount p))) := by
  obtain ⟨h1, h2, h3⟩ := hv
  obtain ⟨b1, b2, b3, b4, b5, b6, b7⟩ := psize_le hs
  obtain ⟨ao1, cap1, rfl, _, _⟩ := h1.form
  obtain ⟨ao2, cap2, rfl, _, _⟩ := h2.form
  obtain ⟨ao3, cap3, rfl, _, _⟩ := h3.form
  have g0 := below_alloc w (Obj.cells #[Value.slice ao1 (MP k p).orders.length cap1, Value.slice ao2 (MP k p).powers.length cap2, Value.slice ao3 (MP k p).conj.length cap3] 32)
  have HC : Hid (pcount p = p.orders.length + (cat p.powers).length + tot3 p.conj) := rfl
  simp only [MP] at h1 h2 h3 g0 ⊢
  go_enter Try.func24, Try.ntmps24
  go_wp2_with fail
  refine (l_heldInt64S _ p.orders.length _ _ (h1.below g0) (by omega) (by omega) (by omega)).mono ?_
  rintro e w' ⟨rfl, rfl⟩
  go_wp2_with fail
  refine (l_heldInt64SS _ p.powers _ _ (h2.below g0) (by omega) (by omega) (by omega)).mono ?_
  rintro e w' ⟨rfl, rfl⟩
  go_wp2_with fail
  refine (l_heldInt64SSS _ p.conj _ _ (h3.below g0) (by omega) (by omega) (by omega)).mono ?_
  rintro e w' ⟨rfl, rfl⟩
  go_wp2_with fail
  go_ret
  exact ⟨ret_int (by rw [HC.out]; omega), g0⟩
end Go.Proofs.Ythnpndheaailjaa
