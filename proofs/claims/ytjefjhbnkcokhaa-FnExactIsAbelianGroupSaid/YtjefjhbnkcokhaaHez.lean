/-
  The head of a presentation without generators: the walks.
-/
import Derived.Test.YtjefjhbnkcokhaaHep
import Derived.Test.YtjefjhbnkcokhaaGro
import Derived.Test.YtjefjhbnkcokhaaCut
import Derived.Test.YtjefjhbnkcokhaaNorT
import Derived.Test.YtjefjhbnkcokhaaRp2
namespace Go.Proofs.Ytjefjhbnkcokhaa
set_option linter.unusedVariables false
set_option linter.unusedSimpArgs false
set_option maxRecDepth 100000
open Go.RowKit

theorem alloc_sz4 (w : World) (o : Obj) : (w.alloc o).heap.size = w.heap.size + 1 := by simp
--== impl.headOf
set_option maxHeartbeats 4000000 in
theorem i_headOf_zero {p : Pres} (hn : p.n = 0) (vp : Value) (w : World) (hp : PtrP w vp p) :
    Calls Try.prog 93 #[vp, .int .i64 0] w (RetP w (hdP p 0 0)) := by
  obtain ⟨pb, v1, v2, v3, rfl, c1, c2, c3, R1, R2, R3⟩ := hp
  have hnl : p.orders.length = 0 := hn
  have hnil : p.orders = [] := List.eq_nil_of_length_eq_zero hnl
  obtain ⟨ao, qo, rfl, hqo, _⟩ := R1.formN (n := 0) hnl
  have HS : Hid (Rd w (.slice ao 0 qo) (p.orders.take 0)) := R1.preL 0 (Nat.le_refl _)
  have C1 := Lib.hid c1
  have g0 := below_alloc w (Obj.cells #[Value.slice none 0 0, Value.slice none 0 0, Value.slice none 0 0] 28)
  have x0 := Bx.new w (Value.slice none 0 0) (Value.slice none 0 0) (Value.slice none 0 0)
  have hol : Hid ((p.orders.take 0).length = 0) := by show _ = 0; simp
  have hpb := World.block_lt_of_cell? w _ c1
  clear c1 c2 c3 R1 R2 R3
  have e1 := below_cells g0 _ _ C1.out
  by_cases hct4 : qo = 0
  all_goals
    try subst hct4
    go_enter Try.func93, Try.ntmps93
    go_wp2_with fail
    refine (f_Clone _ (p.orders.take 0) _ (HS.out.below g0) (by rw [hol.out]; omega)).mono ?_
    rintro e w1 ⟨u1, rfl, hI, hB⟩
    have z1 : w.heap.size < w1.heap.size := by have := hB.size; simp at this; omega
    have g1 := below_size g0 hB
    have x1 := x0.below hB (by simp)
    have j1 := hI.o1
    have hI1 := hI.rd.formN (n := 0) hol.out
    obtain ⟨a1, q1, rfl, _, _⟩ := hI1
    have d1 := below_cells g1 _ _ C1.out
    have I0 : BInv w w.heap.size w1.heap.size (hdP p 0 0) (w1.alloc (Obj.cells #[Value.slice a1 0 q1, Value.slice none 0 0, Value.slice none 0 0] 28)) :=
      ⟨_, _, _, x1.old _, Bx.new w1 _ _ _, OP.sub (OP.nil (local_O1.below j1 (below_alloc _ _))) (fun k _ hk => ⟨by have := hk.1; simp at this; omega, by have := hk.1; simp at this; omega, by have := hk.2; omega⟩), g1.alloc (by omega) _⟩
    obtain ⟨a1', c1', a2, c2, a3, c3, hBO⟩ := I0.open (n2 := 0) (n3 := 0) rfl rfl
    have hl0 : (hdP p 0 0).orders.length = 0 := hol.out
    clear hI hB x0 x1 j1 g1
    go_wp2_with fail
    go_loopw [6, 19] (fun _ i wr => i = .int .i64 0 ∧ wr = w1.alloc (Obj.cells #[Value.slice a1 0 q1, Value.slice none 0 0, Value.slice none 0 0] 28)) (fun _ i _ => 0)
    case atStart => exact ⟨rfl, rfl⟩
    case round =>
      obtain ⟨rfl, hwr⟩ := hrel
      rw [← hwr] at hBO I0
      have HW := Lib.hid hwr
      have m0 := hBO.x4.c0
      have m1 := hBO.x4.c1
      have m2 := hBO.x4.c2
      have p0 := hBO.x2.c0
      have p1 := hBO.x2.c1
      have p2 := hBO.x2.c2
      have q0 := hBO.x2.fr 0
      have q1' := hBO.x2.fr 1
      have q2 := hBO.x2.fr 2
      have hfin := hBO.out (Nat.le_refl _)
      rw [hl0] at hfin m0
      obtain ⟨hP', hW'⟩ := hfin
      clear hwr hBO I0 d1
      go_wp2_with fail
      refine bodyPost_ret (v := .agg #[Value.slice a1' 0 c1', Value.slice a2 0 c2, Value.slice a3 0 c3]) (by simp [results, Try.results93, go_sem, p0, p1, p2]) rfl ⟨_, _, _, rfl, hP', hW'⟩
--== spec.HeadPresentation
set_option maxHeartbeats 4000000 in
theorem s_Head_zero {p : Pres} (hV : ValidP p) (hn : p.n = 0) (v1 v2 v3 : Value) (w0 : World) (hp : RdP w0 v1 v2 v3 p) (hK : ntK p 0 = 0) (hN : ntB p 0 = true) :
    Calls Try.prog 46 #[.agg #[v1, v2, v3], .int .i64 0] w0 (RetP2 w0 (hdP p 0 0) 0) := by
  have HP0 := Lib.hid hp
  have HKK := Lib.hid hK
  have HNN := Lib.hid hN
  have hnl : p.orders.length = 0 := hn
  have hnil : p.orders = [] := List.eq_nil_of_length_eq_zero hnl
  obtain ⟨R1, R2, R3⟩ := hp
  obtain ⟨ao, qo, rfl, hqo, _⟩ := R1.formN (n := 0) hnl
  obtain ⟨a2, q2, rfl, _, _⟩ := R2.formN hV.pl
  obtain ⟨a3, q3, rfl, _, _⟩ := R3.formN hV.cl
  have gb := below_alloc w0 (Obj.cells #[Value.slice ao 0 qo, Value.slice a2 p.n q2, Value.slice a3 p.n q3] 28)
  have B0 := Bx.new w0 (Value.slice ao 0 qo) (Value.slice a2 p.n q2) (Value.slice a3 p.n q3)
  have hsz : (w0.alloc (Obj.cells #[Value.slice ao 0 qo, Value.slice a2 p.n q2, Value.slice a3 p.n q3] 28)).heap.size = w0.heap.size + 1 := by simp
  replace R1 := R1.below gb
  have c1 := B0.c0
  have c2 := B0.c1
  have c3 := B0.c2
  obtain ⟨pb, hpb'⟩ : ∃ pb, Hid (w0.heap.size = pb) := ⟨_, rfl⟩
  obtain ⟨w, hw⟩ : ∃ w, Hid (w0.alloc (Obj.cells #[Value.slice ao 0 qo, Value.slice a2 p.n q2, Value.slice a3 p.n q3] 28) = w) := ⟨_, rfl⟩
  rw [hw.out] at gb hsz R1 c1 c2 c3
  rw [hpb'.out] at c1 c2 c3 hsz
  have hs1 : w.heap.size ≤ pb + 1 := by omega
  have hs2 : pb + 1 ≤ w.heap.size := by omega
  have HPW := Lib.hid (HP0.out.below gb)
  clear B0 hK hN
  have HS : Hid (Rd w (.slice ao 0 qo) (p.orders.take 0)) := R1.preL 0 (Nat.le_refl _)
  have C1 := Lib.hid c1
  have C2 := Lib.hid c2
  have C3 := Lib.hid c3
  have g0 := below_alloc w (Obj.cells #[Value.slice none 0 0, Value.slice none 0 0, Value.slice none 0 0] 28)
  have x0 := Bx.new w (Value.slice none 0 0) (Value.slice none 0 0) (Value.slice none 0 0)
  rw [hsz] at x0
  clear hsz
  have hol : Hid ((p.orders.take 0).length = 0) := by show _ = 0; simp
  have hpb := World.block_lt_of_cell? w _ c1
  clear c1 c2 c3 R1 R2 R3 hn hnl hnil
  by_cases hct4 : qo = 0
  all_goals
    try subst hct4
    go_enter Try.func46, Try.ntmps46
    go_wp2_with fail
    rw [hw.out, hpb'.out]
    refine (s_l08Code _ _ _ p 0 _ (HPW.out.below g0) (by omega)).mono ?_
    rintro e wa ⟨rfl, hba⟩
    rw [HKK.out]
    have ga := below_size g0 hba
    have xa := x0.below hba (by rw [alloc_sz4]; omega)
    have n0 := below_cells ga _ _ C1.out
    have n1 := below_cells ga _ _ C2.out
    have n2 := below_cells ga _ _ C3.out
    clear hba g0 x0
    go_wp2_with fail
    refine (s_l08Normal hV _ _ _ 0 _ (HPW.out.below ga) (Nat.zero_le _)).mono ?_
    rintro e wb ⟨rfl, hbb⟩
    rw [HNN.out]
    have gc := below_size ga hbb
    have xb := xa.below hbb xa.lt
    clear hbb ga xa n0 n1 n2
    have n0 := below_cells gc _ _ C1.out
    go_wp2_with fail
    refine (s_l01Own _ (p.orders.take 0) _ (HS.out.below gc) (by rw [hol.out]; omega)).mono ?_
    rintro e w1 ⟨u1, rfl, hI, hB⟩
    have z1 : w.heap.size < w1.heap.size := by have := hB.size; have := xb.lt; omega
    have g1 := below_size gc hB
    have x1 := xb.below hB xb.lt
    have j1 := hI.o1
    have hlb : pb + 1 < wb.heap.size := xb.lt
    have hI1 := hI.rd.formN (n := 0) hol.out
    obtain ⟨a1, q1, rfl, _, _⟩ := hI1
    have I0 : BInv w (pb + 1) w1.heap.size (hdP p 0 0) (w1.alloc (Obj.cells #[Value.slice a1 0 q1, Value.slice none 0 0, Value.slice none 0 0] 28)) :=
      ⟨_, _, _, x1.old _, Bx.new w1 _ _ _, OP.sub (OP.nil (local_O1.below j1 (below_alloc _ _))) (fun k _ hk => ⟨by have := hk.1; have := hlb; omega, by have := hk.1; have := hlb; omega, by have := hk.2; omega⟩), g1.alloc (by omega) _⟩
    obtain ⟨a1', c1', a2', c2, a3', c3, hBO⟩ := I0.open (n2 := 0) (n3 := 0) rfl rfl
    have hl0 : (hdP p 0 0).orders.length = 0 := hol.out
    clear hI hB n0 gc xb x1 j1 g1
    go_wp2_with fail
    go_loopw [8] (fun i wr => i = .int .i64 0 ∧ wr = w1.alloc (Obj.cells #[Value.slice a1 0 q1, Value.slice none 0 0, Value.slice none 0 0] 28)) (fun i _ => 0)
    case atStart => exact ⟨rfl, rfl⟩
    case round =>
      obtain ⟨rfl, hwr⟩ := hrel
      rw [← hwr] at hBO I0
      have HW := Lib.hid hwr
      have m0 := hBO.x4.c0
      have m1 := hBO.x4.c1
      have m2 := hBO.x4.c2
      have p0 := hBO.x2.c0
      have p1 := hBO.x2.c1
      have p2 := hBO.x2.c2
      have q0 := hBO.x2.fr 0
      have q1' := hBO.x2.fr 1
      have q2 := hBO.x2.fr 2
      have hfin := hBO.out (by omega)
      rw [hl0] at hfin m0
      obtain ⟨hP', hW'⟩ := hfin
      clear hwr hBO I0
      go_wp2_with fail
      refine bodyPost_ret (v := .tuple #[.agg #[Value.slice a1' 0 c1', Value.slice a2' 0 c2, Value.slice a3' 0 c3], .int .i64 0]) (by simp [results, Try.results46, go_sem, p0, p1, p2]) rfl ?_
      exact ⟨_, _, _, rfl, OP.sub hP' (fun k hk h => ⟨by have := h.1; have := gb.size; omega, h.2⟩), gb.trans (hW'.mono gb.size)⟩
end Go.Proofs.Ytjefjhbnkcokhaa
