/-
  TrivialModule: both sides, and what the laws do with modules.
-/
import Derived.Test.YtjnnjnhmecidmaaMod
import Derived.Test.YtjnnjnhmecidmaaConI
namespace Go.Proofs.Ytjnnjnhmecidmaa
set_option linter.unusedVariables false
set_option linter.unusedSimpArgs false
set_option maxRecDepth 100000
open Go.RowKit

/-- what a call returns that makes a module and a code -/
def RetMod (w : World) (x y : Int) (d : List (List (List Int))) (c : Int) (e : Ending) (w' : World) : Prop :=
  ∃ v, e = .returned (.tuple #[.agg #[.int .i64 x, .int .i64 y, v], .int .i64 c]) ∧ O3 w' (win w.heap.size w'.heap.size) v d ∧ Below w.heap.size w w'
def tmC (p : Pres) (x y : Int) : Int := if conB p = true then (if primeB x = true then (if inB y 1 3 = true then 0 else 2) else 2) else 1
def tmX (p : Pres) (x y : Int) : Int := if tmC p x y = 0 then x else 0
def tmY (p : Pres) (x y : Int) : Int := if tmC p x y = 0 then y else 0
def tmD (p : Pres) (x y : Int) : List (List (List Int)) := if tmC p x y = 0 then List.replicate p.n (unitR y.toNat y.toNat) else []
theorem tm_1 {p : Pres} (x y : Int) (h : conB p = false) : tmC p x y = 1 := by simp [tmC, h]
theorem tm_2 {p : Pres} {x : Int} (y : Int) (h : conB p = true) (h2 : primeB x = false) : tmC p x y = 2 := by simp [tmC, h, h2]
theorem tm_3 {p : Pres} {x y : Int} (h : conB p = true) (h2 : primeB x = true) (h3 : inB y 1 3 = false) : tmC p x y = 2 := by simp [tmC, h, h2, h3]
theorem tm_0 {p : Pres} {x y : Int} (h : conB p = true) (h2 : primeB x = true) (h3 : inB y 1 3 = true) : tmC p x y = 0 := by simp [tmC, h, h2, h3]
theorem tm_ne {p : Pres} {x y : Int} (h : ¬ tmC p x y = 0) : tmX p x y = 0 ∧ tmY p x y = 0 ∧ tmD p x y = [] := ⟨if_neg h, if_neg h, if_neg h⟩
theorem tm_z {p : Pres} {x y : Int} (h : tmC p x y = 0) : tmX p x y = x ∧ tmY p x y = y ∧ tmD p x y = List.replicate p.n (unitR y.toNat y.toNat) := ⟨if_pos h, if_pos h, if_pos h⟩
theorem cat_rows (n : Nat) : ∀ L : List (List Int), (∀ r ∈ L, r.length = n) → (cat L).length = L.length * n := by
  intro L
  induction L with
  | nil => intro _; simp [cat]
  | cons a L ih =>
    intro h
    have h1 := h a (by simp)
    have h2 := ih fun r hr => h r (by simp [hr])
    unfold cat at *
    rw [List.flatten_cons, List.length_append, h1, h2, List.length_cons, Nat.succ_mul]; omega
/-- the three stores of a whole module into the result's box -/
theorem set_out {B : Nat} {w wx : World} (be : Below w.heap.size w wx) {b2 b4 : Nat} {v x y : Value} {d : List (List (List Int))} (hB : w.heap.size ≤ B) (hb2 : w.heap.size ≤ b2) (hO : O3 wx (fun k => B ≤ k ∧ k ≠ b2 ∧ k ≠ b4) v d) :
    O3 (((wx.setCell ⟨b2, 0, none⟩ x).setCell ⟨b2, 1, none⟩ y).setCell ⟨b2, 2, none⟩ v) (win w.heap.size (((wx.setCell ⟨b2, 0, none⟩ x).setCell ⟨b2, 1, none⟩ y).setCell ⟨b2, 2, none⟩ v).heap.size) v d ∧
      Below w.heap.size w (((wx.setCell ⟨b2, 0, none⟩ x).setCell ⟨b2, 1, none⟩ y).setCell ⟨b2, 2, none⟩ v) :=
  ⟨local_O3.mono (local_O3.sets (local_O3.sets (local_O3.sets hO (b := b2) (fun h => h.2.1 rfl) 0 _) (b := b2) (fun h => h.2.1 rfl) 1 _) (b := b2) (fun h => h.2.1 rfl) 2 _) (fun k hk h => ⟨by have := h.1; omega, hk⟩),
    ((be.setCell (p := ⟨b2, 0, none⟩) hb2 _).setCell (p := ⟨b2, 1, none⟩) hb2 _).setCell (p := ⟨b2, 2, none⟩) hb2 _⟩
--== impl.TrivialModule
set_option maxHeartbeats 8000000 in
theorem i_TrivialModule (v1 v2 v3 : Value) (p : Pres) (x y : Int) (w : World) (hp : RdP w v1 v2 v3 p) :
    Calls Try.prog 27 #[.agg #[v1, v2, v3], .int .i64 x, .int .i64 y] w (RetMod w (tmX p x y) (tmY p x y) (tmD p x y) (tmC p x y)) := by
  obtain ⟨ir, hri, hrz0, hrz1, hrz2⟩ := info_parts Try.infoRow2
  have HP := Lib.hid hp
  obtain ⟨ao1, cap1, rfl, _, _⟩ := hp.1.formN (n := p.n) rfl
  obtain ⟨ao2, cap2, rfl, _, _⟩ := hp.2.1.form
  obtain ⟨ao3, cap3, rfl, _, _⟩ := hp.2.2.form
  have G0 := Lib.hid (below_allocs2 w (Obj.cells #[Value.slice ao1 p.n cap1, Value.slice ao2 p.powers.length cap2, Value.slice ao3 p.conj.length cap3] 28) (Obj.cells #[.int .i64 0, .int .i64 0, .slice none 0 0] 42))
  have b0 := (Bx.new w (Value.slice ao1 p.n cap1) (Value.slice ao2 p.powers.length cap2) (Value.slice ao3 p.conj.length cap3)).old (Obj.cells #[.int .i64 0, .int .i64 0, .slice none 0 0] 42)
  have x0 := Bt.new 42 (w.alloc (Obj.cells #[Value.slice ao1 p.n cap1, Value.slice ao2 p.powers.length cap2, Value.slice ao3 p.conj.length cap3] 28)) (.int .i64 0) (.int .i64 0) (.slice none 0 0)
  rw [show (w.alloc (Obj.cells #[Value.slice ao1 p.n cap1, Value.slice ao2 p.powers.length cap2, Value.slice ao3 p.conj.length cap3] 28)).heap.size = w.heap.size + 1 by simp] at x0
  have HB0 := Lib.hid b0
  have HX0 := Lib.hid x0
  clear hp b0 x0
  by_cases hc : conB p = true
  case neg =>
    have hc' : conB p = false := by simpa using hc
    have HT := Lib.hid (tm_1 x y hc')
    obtain ⟨e1, e2, e3⟩ := tm_ne (x := x) (y := y) (p := p) (by rw [HT.out]; omega)
    rw [e1, e2, e3, HT.out]
    clear hc e1 e2 e3
    go_enter Try.func27, Try.ntmps27
    go_wp2_with fail
    refine (i_IsConsistent _ _ _ p _ (HP.out.below G0.out)).mono ?_
    rintro e w1 ⟨rfl, hb⟩
    have g1 := below_size G0.out hb
    have x1 := HX0.out.below hb HX0.out.lt
    have p0 := x1.c0
    have p1 := x1.c1
    have p2 := x1.c2
    have q0 := x1.fr 0
    have q1 := x1.fr 1
    have q2 := x1.fr 2
    have l1 := x1.lt
    rw [hc']
    clear hb hc'
    go_wp2_with fail
    refine bodyPost_ret (v := .tuple #[.agg #[.int .i64 0, .int .i64 0, .slice none 0 0], .int .i64 1]) (by simp [results, Try.results27, go_sem, p0, p1, p2]) rfl ⟨_, rfl, local_O3.nil _ _, ?_⟩
    exact ((g1.setCell (p := ⟨w.heap.size + 1, 0, none⟩) (by simp) _).setCell (p := ⟨w.heap.size + 1, 1, none⟩) (by simp) _).setCell (p := ⟨w.heap.size + 1, 2, none⟩) (by simp) _
  have hn6 := (conB_true hc).1.n6
  by_cases hx : primeB x = true
  case neg =>
    have hx' : primeB x = false := by simpa using hx
    have HT := Lib.hid (tm_2 y hc hx')
    obtain ⟨e1, e2, e3⟩ := tm_ne (x := x) (y := y) (p := p) (by rw [HT.out]; omega)
    rw [e1, e2, e3, HT.out]
    clear hx e1 e2 e3
    go_enter Try.func27, Try.ntmps27
    go_wp2_with fail
    refine (i_IsConsistent _ _ _ p _ (HP.out.below G0.out)).mono ?_
    rintro e w1 ⟨rfl, hb⟩
    have g1 := below_size G0.out hb
    have x1 := HX0.out.below hb HX0.out.lt
    have p0 := x1.c0
    have p1 := x1.c1
    have p2 := x1.c2
    have q0 := x1.fr 0
    have q1 := x1.fr 1
    have q2 := x1.fr 2
    have l1 := x1.lt
    rw [hc]
    clear hb hc
    go_wp2_with fail
    refine (i_IsGroupPrime x w1).mono ?_
    rintro e w' ⟨rfl, rfl⟩
    rw [hx']
    clear hx'
    go_wp2_with fail
    refine bodyPost_ret (v := .tuple #[.agg #[.int .i64 0, .int .i64 0, .slice none 0 0], .int .i64 2]) (by simp [results, Try.results27, go_sem, p0, p1, p2]) rfl ⟨_, rfl, local_O3.nil _ _, ?_⟩
    exact ((g1.setCell (p := ⟨w.heap.size + 1, 0, none⟩) (by simp) _).setCell (p := ⟨w.heap.size + 1, 1, none⟩) (by simp) _).setCell (p := ⟨w.heap.size + 1, 2, none⟩) (by simp) _
  by_cases hy : inB y 1 3 = true
  case neg =>
    have hy' : inB y 1 3 = false := by simpa using hy
    have HT := Lib.hid (tm_3 hc hx hy')
    obtain ⟨e1, e2, e3⟩ := tm_ne (x := x) (y := y) (p := p) (by rw [HT.out]; omega)
    rw [e1, e2, e3, HT.out]
    clear hy e1 e2 e3
    go_enter Try.func27, Try.ntmps27
    go_wp2_with fail
    refine (i_IsConsistent _ _ _ p _ (HP.out.below G0.out)).mono ?_
    rintro e w1 ⟨rfl, hb⟩
    have g1 := below_size G0.out hb
    have x1 := HX0.out.below hb HX0.out.lt
    have p0 := x1.c0
    have p1 := x1.c1
    have p2 := x1.c2
    have q0 := x1.fr 0
    have q1 := x1.fr 1
    have q2 := x1.fr 2
    have l1 := x1.lt
    rw [hc]
    clear hb hc
    go_wp2_with fail
    refine (i_IsGroupPrime x w1).mono ?_
    rintro e w' ⟨rfl, rfl⟩
    rw [hx]
    clear hx
    go_wp2_with fail
    refine (i_inside y 1 3 w1).mono ?_
    rintro e w' ⟨rfl, rfl⟩
    rw [hy']
    clear hy'
    go_wp2_with fail
    refine bodyPost_ret (v := .tuple #[.agg #[.int .i64 0, .int .i64 0, .slice none 0 0], .int .i64 2]) (by simp [results, Try.results27, go_sem, p0, p1, p2]) rfl ⟨_, rfl, local_O3.nil _ _, ?_⟩
    exact ((g1.setCell (p := ⟨w.heap.size + 1, 0, none⟩) (by simp) _).setCell (p := ⟨w.heap.size + 1, 1, none⟩) (by simp) _).setCell (p := ⟨w.heap.size + 1, 2, none⟩) (by simp) _
  have HT := Lib.hid (tm_0 hc hx hy)
  obtain ⟨e1, e2, e3⟩ := tm_z HT.out
  rw [e1, e2, e3, HT.out]
  obtain ⟨y1, y3⟩ := inB_true.1 hy
  obtain ⟨m, rfl⟩ : ∃ m : Nat, y = (m : Int) := ⟨y.toNat, by omega⟩
  have hm3 : m ≤ 3 := by omega
  rw [Int.toNat_natCast]
  clear e1 e2 e3
  have hfd : ∀ (a : Option Addr) (n c : Nat) (w : World), (Instr.field 107 (.agg #[.int .i64 x, .int .i64 (m : Int), .slice a n c]) 2).run Try.prog w = .ok (.slice a n c) w := fun _ _ _ _ => by kernel_rfl
  go_enter Try.func27, Try.ntmps27
  go_wp2_with fail
  refine (i_IsConsistent _ _ _ p _ (HP.out.below G0.out)).mono ?_
  rintro e w1 ⟨rfl, hb⟩
  have g1 := below_size G0.out hb
  have x1 := HX0.out.below hb HX0.out.lt
  have b1 := HB0.out.below hb HB0.out.lt
  rw [hc]
  clear hb hc
  go_wp2_with fail
  refine (i_IsGroupPrime x w1).mono ?_
  rintro e w' ⟨rfl, rfl⟩
  rw [hx]
  clear hx
  go_wp2_with fail
  refine (i_inside (m : Int) 1 3 w1).mono ?_
  rintro e w' ⟨rfl, rfl⟩
  rw [hy]
  clear hy
  have l1 := x1.lt
  have l0 : w.heap.size < w1.heap.size := by omega
  have b2 := b1.old (Obj.cells #[.int .i64 x, .int .i64 (m : Int), .slice none 0 0] 42)
  have m0 := b1.c0
  have HI0 : Hid (MInv 42 O3 w.heap.size (w.heap.size + 1) w1.heap.size (.int .i64 x) (.int .i64 (m : Int)) (List.replicate 0 (unitR m m)) (w1.alloc (Obj.cells #[.int .i64 x, .int .i64 (m : Int), .slice none 0 0] 42))) :=
    ⟨_, x1.old _, Bt.new _ _ _ _ _, local_O3.nil _ _⟩
  have HG1 := Lib.hid (g1.alloc g1.size (Obj.cells #[.int .i64 x, .int .i64 (m : Int), .slice none 0 0] 42))
  clear b2 x1 b1 g1
  go_wp2_with fail
  go_loopw [28] (fun i wr => ∃ j : Nat, j ≤ p.n ∧ i = .int .i64 j ∧ MInv 42 O3 w.heap.size (w.heap.size + 1) w1.heap.size (.int .i64 x) (.int .i64 (m : Int)) (List.replicate j (unitR m m)) wr ∧ Below w.heap.size w wr) (fun i _ => p.n - (intOf i).toNat)
  case atStart => exact ⟨0, Nat.zero_le _, rfl, HI0.out, HG1.out⟩
  case round =>
    clear HI0 HG1 m0
    obtain ⟨j, hj, rfl, ⟨v, x2, x4, hO⟩, hB⟩ := hrel
    obtain ⟨a6, c6, rfl, _, _⟩ := (O3.rd hO).formN (n := j) (by simp)
    have sB := hB.size
    have l4 := x4.lt
    have m0 := x4.c0
    have m1 := x4.c1
    have m2 := x4.c2
    by_cases hlt : j < p.n
    · have HO := Lib.hid hO
      have HX2 := Lib.hid x2
      have HX4 := Lib.hid x4
      have HBW := Lib.hid hB
      have HLR : Hid ((List.replicate j (unitR m m)).length ≤ 1000000) := by show _ ≤ _; simp; omega
      have HLE : Hid ((List.replicate j (unitR m m)).length = j) := by show _ = _; simp
      clear hO x2 x4 hB
      go_wp2_with fail
      go_region_law (first
        | (go_simp; go_at_call 94; go_must (refine (i_identityOf x m _ (by omega)).mono ?_); rintro e w3 ⟨u3, rfl, hI3, hB3⟩; obtain ⟨a9, c9, rfl, _, _⟩ := hI3.formN (unitR_len m m); have hB4 := below_size (Below.refl _ _).drew hB3; obtain ⟨a', c', w4, hr, z1, z2, z3, z4, hM, hBM⟩ := MInv.grow local_O2 24 Try.underlying24 hri hrz0 hrz1 hrz2 HX2.out HX4.out HO.out sB (by omega) (by omega) hB4 hI3 rfl HLR.out; have hB5 := HBW.out.trans hBM; rw [← List.replicate_succ'] at hM; rw [HLE.out] at hr hM hB5; clear hB4 hI3 hB3 hBM)
        | (refine step_of_run rfl (.tmp 31) (.tmp 36) 24 rfl _ _ (by simp [Act.eval, Act.put]) (by simp [Act.eval, Act.put]) _ _ hr ?_))
      all_goals
        clear m0 m1 m2
        go_wp2_with fail
        go_roundw
        case rel => exact ⟨j + 1, by omega, by go_num, hM, hB5⟩
        case measure => simp [intOf]; omega
    · obtain rfl : j = p.n := by omega
      have p0 := x2.c0
      have p1 := x2.c1
      have p2 := x2.c2
      have q0 := x2.fr 0
      have q1 := x2.fr 1
      have q2 := x2.fr 2
      obtain ⟨hOf, hBf⟩ := set_out hB (x := .int .i64 x) (y := .int .i64 (m : Int)) (b2 := w.heap.size + 1) (Nat.le_refl _) (by omega) hO
      have HOf := Lib.hid hOf
      have HBf := Lib.hid hBf
      clear hOf hBf hO hB x2 x4
      go_wp2_with fail
      refine bodyPost_ret (v := .tuple #[.agg #[.int .i64 x, .int .i64 (m : Int), .slice a6 p.n c6], .int .i64 0]) (by simp [results, Try.results27, go_sem, p0, p1, p2]) rfl ⟨_, rfl, HOf.out, HBf.out⟩
end Go.Proofs.Ytjnnjnhmecidmaa
