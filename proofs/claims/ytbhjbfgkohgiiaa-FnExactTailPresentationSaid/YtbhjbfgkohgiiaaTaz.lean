/-
  The tail of a presentation at its end: the walks.
-/
import Derived.Test.YtbhjbfgkohgiiaaTai
import Derived.Test.YtbhjbfgkohgiiaaGro
import Derived.Test.YtbhjbfgkohgiiaaCut
namespace Go.Proofs.Ytbhjbfgkohgiiaa
set_option linter.unusedVariables false
set_option linter.unusedSimpArgs false
set_option maxRecDepth 100000
open Go.RowKit

--== impl.tailOf, at the end
set_option maxHeartbeats 4000000 in
theorem i_tailOf_end {p : Pres} (hV : ValidP p) (vp : Value) (w : World) (hp : PtrP w vp p) :
    Calls Try.prog 66 #[vp, .int .i64 (p.n : Int)] w (RetP w (tlP p p.n 0)) := by
  have hn6 := hV.n6
  obtain ⟨pb, v1, v2, v3, rfl, c1, c2, c3, R1, R2, R3⟩ := hp
  obtain ⟨ao, qo, rfl, hqo, _⟩ := R1.formN (n := p.n) rfl
  obtain ⟨a', ha', hsuf⟩ := R1.cutL p.n (Nat.le_refl _)
  rw [Nat.sub_self] at hsuf
  have C1 := Lib.hid c1
  have g0 := below_alloc w (Obj.cells #[Value.slice none 0 0, Value.slice none 0 0, Value.slice none 0 0] 28)
  have x0 := Bx.new w (Value.slice none 0 0) (Value.slice none 0 0) (Value.slice none 0 0)
  have HS := Lib.hid hsuf
  have hol : Hid ((p.orders.drop p.n).length = 0) := by show _ = 0; rw [List.length_drop]; show p.n - p.n = 0; omega
  have hpb := World.block_lt_of_cell? w _ c1
  clear c1 c2 c3 R1 R2 R3 hsuf
  have e1 := below_cells g0 _ _ C1.out
  by_cases hct4 : qo = p.n
  all_goals
    first | rw [if_pos hct4] at ha' | rw [if_neg hct4] at ha'
    subst ha'
    first | (have hcT : (qo = p.n) ↔ True := iff_true_intro hct4) | (have hcT : True := trivial)
    try (have hct5 : qo = p.n := hct4; clear hct5 hct4)
    go_enter Try.func66, Try.ntmps66
    go_wp2_with fail
    refine (f_Clone _ (p.orders.drop p.n) _ (HS.out.below g0) (by rw [hol.out]; omega)).mono ?_
    rintro e w1 ⟨u1, rfl, hI, hB⟩
    have z1 : w.heap.size < w1.heap.size := by have := hB.size; simp at this; omega
    have g1 := below_size g0 hB
    have x1 := x0.below hB (by simp)
    have j1 := hI.o1
    have hI1 := hI.rd.formN (n := 0) hol.out
    obtain ⟨a1, q1, rfl, _, _⟩ := hI1
    have d1 := below_cells g1 _ _ C1.out
    have I0 : BInv w w.heap.size w1.heap.size (tlP p p.n 0) (w1.alloc (Obj.cells #[Value.slice a1 0 q1, Value.slice none 0 0, Value.slice none 0 0] 28)) :=
      ⟨_, _, _, x1.old _, Bx.new w1 _ _ _, OP.sub (OP.nil (local_O1.below j1 (below_alloc _ _))) (fun k _ hk => ⟨by have := hk.1; simp at this; omega, by have := hk.1; simp at this; omega, by have := hk.2; omega⟩), g1.alloc (by omega) _⟩
    obtain ⟨a1', c1', a2, c2, a3, c3, hBO⟩ := I0.open (n2 := 0) (n3 := 0) rfl rfl
    have hl0 := tlP_ol p p.n 0
    rw [Nat.sub_self] at hl0
    clear hI hB x0 x1 j1 g1
    go_wp2_with fail
    go_loopw [6] (fun i wr => i = .int .i64 (p.n : Int) ∧ wr = w1.alloc (Obj.cells #[Value.slice a1 0 q1, Value.slice none 0 0, Value.slice none 0 0] 28)) (fun i _ => 0)
    case atStart => exact ⟨rfl, rfl⟩
    case round =>
      obtain ⟨rfl, hwr⟩ := hrel
      rw [← hwr] at hBO I0
      have HW := Lib.hid hwr
      have m0 := hBO.x4.c0
      have m1 := hBO.x4.c1
      have m2 := hBO.x4.c2
      have p0 := hBO.x2.c0
      have p1 := hBO.x2.c1
      have p2 := hBO.x2.c2
      have q0 := hBO.x2.fr 0
      have q1' := hBO.x2.fr 1
      have q2 := hBO.x2.fr 2
      have d0 : wr.cell? ⟨pb, 0, none⟩ = some (Value.slice ao p.n qo) := below_cells hBO.be _ _ C1.out
      have hfin := hBO.out (Nat.le_refl _)
      rw [hl0] at hfin m0
      obtain ⟨hP', hW'⟩ := hfin
      clear hwr hBO I0 d1
      go_wp2_with fail
      refine bodyPost_ret (v := .agg #[Value.slice a1' 0 c1', Value.slice a2 0 c2, Value.slice a3 0 c3]) (by simp [results, Try.results66, go_sem, p0, p1, p2]) rfl ⟨_, _, _, rfl, hP', hW'⟩
theorem alloc_sz2 (w : World) (o : Obj) : (w.alloc o).heap.size = w.heap.size + 1 := by simp
--== spec.l08Tail, at the end
set_option maxHeartbeats 4000000 in
theorem s_l08Tail_end {p : Pres} (hV : ValidP p) (v1 v2 v3 : Value) (w0 : World) (hp : RdP w0 v1 v2 v3 p) :
    Calls Try.prog 62 #[.agg #[v1, v2, v3], .int .i64 (p.n : Int)] w0 (RetP w0 (tlP p p.n 0)) := by
  have hn6 := hV.n6
  obtain ⟨R1, R2, R3⟩ := hp
  obtain ⟨ao, qo, rfl, hqo, _⟩ := R1.formN (n := p.n) rfl
  obtain ⟨a2, q2, rfl, _, _⟩ := R2.formN hV.pl
  obtain ⟨a3, q3, rfl, _, _⟩ := R3.formN hV.cl
  have gb := below_alloc w0 (Obj.cells #[Value.slice ao p.n qo, Value.slice a2 p.n q2, Value.slice a3 p.n q3] 28)
  have B0 := Bx.new w0 (Value.slice ao p.n qo) (Value.slice a2 p.n q2) (Value.slice a3 p.n q3)
  have hsz : (w0.alloc (Obj.cells #[Value.slice ao p.n qo, Value.slice a2 p.n q2, Value.slice a3 p.n q3] 28)).heap.size = w0.heap.size + 1 := by simp
  replace R1 := R1.below gb
  have c1 := B0.c0
  have c2 := B0.c1
  have c3 := B0.c2
  obtain ⟨pb, hpb'⟩ : ∃ pb, Hid (w0.heap.size = pb) := ⟨_, rfl⟩
  obtain ⟨w, hw⟩ : ∃ w, Hid (w0.alloc (Obj.cells #[Value.slice ao p.n qo, Value.slice a2 p.n q2, Value.slice a3 p.n q3] 28) = w) := ⟨_, rfl⟩
  rw [hw.out] at gb hsz R1 c1 c2 c3
  rw [hpb'.out] at c1 c2 c3 hsz
  have hs1 : w.heap.size ≤ pb + 1 := by omega
  have hs2 : pb + 1 ≤ w.heap.size := by omega
  clear B0
  obtain ⟨a', ha', hsuf⟩ := R1.cutL p.n (Nat.le_refl _)
  rw [Nat.sub_self] at hsuf
  have C1 := Lib.hid c1
  have g0 := below_alloc w (Obj.cells #[Value.slice none 0 0, Value.slice none 0 0, Value.slice none 0 0] 28)
  have x0 := Bx.new w (Value.slice none 0 0) (Value.slice none 0 0) (Value.slice none 0 0)
  rw [hsz] at x0
  clear hsz
  have HS := Lib.hid hsuf
  have hol : Hid ((p.orders.drop p.n).length = 0) := by show _ = 0; rw [List.length_drop]; show p.n - p.n = 0; omega
  have hpb := World.block_lt_of_cell? w _ c1
  clear c1 c2 c3 R1 R2 R3 hsuf
  have e1 := below_cells g0 _ _ C1.out
  by_cases hct4 : qo = p.n
  all_goals
    first | rw [if_pos hct4] at ha' | rw [if_neg hct4] at ha'
    subst ha'
    first | (have hcT : (qo = p.n) ↔ True := iff_true_intro hct4) | (have hcT : True := trivial)
    try (have hct5 : qo = p.n := hct4; clear hct5 hct4)
    go_enter Try.func62, Try.ntmps62
    go_wp2_with fail
    rw [hw.out, hpb'.out]
    refine (s_l01Own _ (p.orders.drop p.n) _ (HS.out.below g0) (by rw [hol.out]; omega)).mono ?_
    rintro e w1 ⟨u1, rfl, hI, hB⟩
    have z1 : w.heap.size < w1.heap.size := by have := hB.size; rw [alloc_sz2] at this; omega
    have g1 := below_size g0 hB
    have x1 := x0.below hB (by rw [alloc_sz2]; omega)
    have j1 := hI.o1
    have hI1 := hI.rd.formN (n := 0) hol.out
    obtain ⟨a1, q1, rfl, _, _⟩ := hI1
    have d1 := below_cells g1 _ _ C1.out
    have I0 : BInv w (pb + 1) w1.heap.size (tlP p p.n 0) (w1.alloc (Obj.cells #[Value.slice a1 0 q1, Value.slice none 0 0, Value.slice none 0 0] 28)) :=
      ⟨_, _, _, x1.old _, Bx.new w1 _ _ _, OP.sub (OP.nil (local_O1.below j1 (below_alloc _ _))) (fun k _ hk => ⟨by have := hk.1; rw [alloc_sz2] at this; omega, by have := hk.1; rw [alloc_sz2] at this; omega, by have := hk.2; omega⟩), g1.alloc (by omega) _⟩
    obtain ⟨a1', c1', a2, c2, a3, c3, hBO⟩ := I0.open (n2 := 0) (n3 := 0) rfl rfl
    have hl0 := tlP_ol p p.n 0
    rw [Nat.sub_self] at hl0
    clear hI hB x0 x1 j1 g1
    go_wp2_with fail
    go_loopw [6] (fun i wr => i = .int .i64 (p.n : Int) ∧ wr = w1.alloc (Obj.cells #[Value.slice a1 0 q1, Value.slice none 0 0, Value.slice none 0 0] 28)) (fun i _ => 0)
    case atStart => exact ⟨rfl, rfl⟩
    case round =>
      obtain ⟨rfl, hwr⟩ := hrel
      rw [← hwr] at hBO I0
      have HW := Lib.hid hwr
      have m0 := hBO.x4.c0
      have m1 := hBO.x4.c1
      have m2 := hBO.x4.c2
      have p0 := hBO.x2.c0
      have p1 := hBO.x2.c1
      have p2 := hBO.x2.c2
      have q0 := hBO.x2.fr 0
      have q1' := hBO.x2.fr 1
      have q2 := hBO.x2.fr 2
      have d0 : wr.cell? ⟨pb, 0, none⟩ = some (Value.slice ao p.n qo) := below_cells hBO.be _ _ C1.out
      have hfin := hBO.out (by omega)
      rw [hl0] at hfin m0
      obtain ⟨hP', hW'⟩ := hfin
      clear hwr hBO I0 d1
      go_wp2_with fail
      refine bodyPost_ret (v := .agg #[Value.slice a1' 0 c1', Value.slice a2 0 c2, Value.slice a3 0 c3]) (by simp [results, Try.results62, go_sem, p0, p1, p2]) rfl ⟨_, _, _, rfl, OP.sub hP' (fun k hk h => ⟨by have := h.1; have := gb.size; omega, h.2⟩), gb.trans (hW'.mono gb.size)⟩
end Go.Proofs.Ytbhjbfgkohgiiaa
