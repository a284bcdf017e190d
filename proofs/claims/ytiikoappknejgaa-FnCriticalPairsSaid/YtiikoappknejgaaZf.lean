/-
  CyclicPresentation.
  Presentations that a draw builds in a box of its own, by shapes alone.
  The source of drawn inputs: that it goes on, and in which bounds its numbers lie.
  Drawn words: that the draws return, and what their results read as.
  Presentations of vectors with a group that acts, by shapes alone.
  The reference's deep copy of a presentation.
-/
import Derived.Test.YtiikoappknejgaaZe
import Derived.Test.YtiikoappknejgaaZc
import Derived.IntWalk
import Derived.Outline
import Derived.Test.YtiikoappknejgaaZd
namespace Go.Proofs.Ytiikoappknejgaa
set_option linter.unusedVariables false
set_option linter.unusedSimpArgs false
set_option maxRecDepth 100000
open Go.RowKit

--== stores into a presentation
theorem op_setPow {w : World} {S T : Nat → Prop} {v1 v2 v3 : Value} {p : Pres} (h : OP w S v1 v2 v3 p) {j : Nat} (hj : j < p.powers.length) {y : Value} {d : List Int} (hy : O1 w T y d) (hd : ∀ k, T k → ¬ S k) :
    ∃ g cap, v2 = .slice (some ⟨g, 0, none⟩) p.powers.length cap ∧ (∃ r, w.cell? ⟨g, j, none⟩ = some r) ∧ w.frozen? ⟨g, j, none⟩ = false ∧ S g ∧ OP (w.setCell ⟨g, j, none⟩ y) (fun k => S k ∨ T k) v1 v2 v3 ⟨p.orders, p.powers.set j d, p.conj⟩ := by
  obtain ⟨A, B, C, h1, h2, h3, s1, s2, s3, d1, d2, d3⟩ := h
  obtain ⟨ao, cap, rfl, _, _, ho⟩ := ON.open h2
  rcases ho with h0 | ⟨g, rfl, hg, hlt, hc⟩
  · omega
  have hs := ON.set local_O1 rfl h2 hj hy (fun k hk hb => hd k hk (s2 k hb))
  have hC := ChgS.of_chg hs.2
  refine ⟨g, cap, rfl, (hc j hj).2, (hc j hj).1, s2 g hg, A, fun k => B k ∨ T k, C, local_O1.chg h1 hC (fun k hk e => d1 k hk (e ▸ hg)), hs.1, local_O3.chg h3 hC (fun k hk e => d3 g hg (e ▸ hk)), fun k hk => .inl (s1 k hk), fun k hk => hk.imp (s2 k) id, fun k hk => .inl (s3 k hk), ?_, d2, ?_⟩
  · rintro k hk (hb | hb)
    · exact d1 k hk hb
    · exact hd k hb (s1 k hk)
  · rintro k (hb | hb) hc
    · exact d3 k hb hc
    · exact hd k hb (s3 k hc)
theorem op_putPow {w : World} {S : Nat → Prop} {v1 v2 v3 : Value} {p : Pres} (h : OP w S v1 v2 v3 p) {i j : Nat} (hi : i < p.powers.length) (hj : j < (p.powers.getD i []).length) :
    ∃ g cap g2 cap2, v2 = .slice (some ⟨g, 0, none⟩) p.powers.length cap ∧ w.cell? ⟨g, i, none⟩ = some (.slice (some ⟨g2, 0, none⟩) (p.powers.getD i []).length cap2) ∧ (∃ r, w.cell? ⟨g2, j, none⟩ = some r) ∧ w.frozen? ⟨g2, j, none⟩ = false ∧ S g2 ∧
      ∀ y : Int, OP (w.setCell ⟨g2, j, none⟩ (.int .i64 y)) S v1 v2 v3 ⟨p.orders, p.powers.set i ((p.powers.getD i []).set j y), p.conj⟩ := by
  obtain ⟨A, B, C, h1, h2, h3, s1, s2, s3, d1, d2, d3⟩ := h
  obtain ⟨g, cap, r, T, rfl, hcell, ho, hT, hput⟩ := ON.focus local_O1 h2 i hi
  obtain ⟨g2, cap2, rfl, _, _, _, _, hc2, hf2⟩ := ho.1.open (by omega)
  have hTg : T g2 := ho.2 g2 rfl
  refine ⟨g, cap, g2, cap2, rfl, hcell, ⟨_, hc2 j hj⟩, hf2 j, s2 g2 (hT g2 hTg), fun y => ?_⟩
  obtain ⟨hs1, hs2⟩ := ho.1.set rfl j y
  have hC := ChgS.of_chg hs2
  exact ⟨A, B, C, local_O1.chg h1 hC (fun k hk e => d1 k hk (e ▸ hT g2 hTg)), hput _ _ (hC.sub fun k hk => hk ▸ hTg) ⟨hs1, ho.2⟩, local_O3.chg h3 hC (fun k hk e => d3 g2 (hT g2 hTg) (e ▸ hk)), s1, s2, s3, d1, d2, d3⟩
--== cyclic presentations
def cycRow (n j i : Nat) : List Int := if i < j then unitL n (i + 1) else zrow n
def cycPow (n j : Nat) : List (List Int) := (List.range n).map (cycRow n j)
def cycP (os : List Int) (j : Nat) : Pres := ⟨os, cycPow os.length j, trivConj os.length os.length⟩
theorem cycPow_len (n j : Nat) : (cycPow n j).length = n := by simp [cycPow]
theorem cycP_zero (os : List Int) : triv os = cycP os 0 := by
  unfold triv trivP cycP
  congr 1
  unfold trivPow cycPow
  apply List.ext_getElem
  · simp
  · intro i h1 h2; simp [cycRow]
theorem cycPow_at {n j i : Nat} (hi : i < n) : (cycPow n j).getD i [] = cycRow n j i := by simp [cycPow, List.getD, hi]
theorem cycPow_set {n j : Nat} (hj : j < n) : (cycPow n j).set j (unitL n (j + 1)) = cycPow n (j + 1) := by
  apply List.ext_getElem
  · simp [cycPow]
  · intro i h1 h2
    have hi : i < n := by simpa [cycPow] using h2
    rw [List.getElem_set]
    simp only [cycPow, List.getElem_map, List.getElem_range, cycRow]
    by_cases hij : j = i
    · subst hij; rw [if_pos rfl, if_pos (by omega)]
    · rw [if_neg hij]
      by_cases hl : i < j
      · rw [if_pos hl, if_pos (by omega)]
      · rw [if_neg hl, if_neg (by omega)]
theorem cycPow_row {n j : Nat} (hj : j < n) : (cycPow n j).getD j [] = zrow n := by rw [cycPow_at hj, cycRow, if_neg (by omega)]
theorem zrow_len (n : Nat) : (zrow n).length = n := by simp [zrow]
/-- the whole: the presentation of the cyclic group of order n -/
def cycOs (n : Int) : List Int := (facT n.toNat).2
def cycC (n : Int) : Int := if 1 ≤ n ∧ n ≤ 729 then (if primesB (facs n.toNat).1 = true then (if (cycOs n).length ≤ 6 then 0 else 3) else 2) else 2
def cycR (n : Int) : Pres := cycP (cycOs n) ((cycOs n).length - 1)
theorem cycC_out {n : Int} (h : ¬ (1 ≤ n ∧ n ≤ 729)) : cycC n = 2 := if_neg h
theorem cycC_np {n : Int} (h : primesB (facs n.toNat).1 = false) : cycC n = 2 := by unfold cycC; rw [h]; simp
theorem cycC_big {n : Int} (h : 1 ≤ n ∧ n ≤ 729) (h2 : primesB (facs n.toNat).1 = true) (h3 : ¬ (cycOs n).length ≤ 6) : cycC n = 3 := by unfold cycC; rw [if_pos h, if_pos h2, if_neg h3]
theorem cycC_ok {n : Int} (h : 1 ≤ n ∧ n ≤ 729) (h2 : primesB (facs n.toNat).1 = true) (h3 : (cycOs n).length ≤ 6) : cycC n = 0 := by unfold cycC; rw [if_pos h, if_pos h2, if_pos h3]
theorem facOK_at {k : Nat} (h1 : 1 ≤ k) (h2 : k ≤ 729) : (decide ((facT k).1 = 1) = primesB (facs k).1) ∧ (primesB (facs k).1 = true → flatTo (facs k).1 (facs k).2 (facs k).1.length = (facT k).2) ∧ (facs k).1.length = (facs k).2.length ∧ (facs k).1.length ≤ 10 ∧ (facT k).2.length ≤ 9 ∧ ∀ c ∈ (facs k).2, 0 ≤ c ∧ c ≤ 9 := by
  have h := facOK_all k (by omega) h1
  simp only [facOK, Bool.and_eq_true, Bool.or_eq_true, beq_iff_eq, decide_eq_true_eq, List.all_eq_true] at h
  refine ⟨h.1, fun hp => ?_, h.2.2.1, h.2.2.2.1, h.2.2.2.2.1, h.2.2.2.2.2⟩
  rcases h.2.1 with h3 | h3
  · rw [hp] at h3; exact absurd h3 (by simp)
  · exact h3
--== spec.CyclicPresentation
set_option maxHeartbeats 8000000 in
theorem s_CyclicPresentation (n : Int) (w : World) :
    Calls Try.prog 72 #[.int .i64 n] w (RetP2 w (okP (cycC n) (cycR n)) (cycC n)) := by
  obtain ⟨i0, hi, hz0, hz1, hz2⟩ := info_parts Try.info2
  have g0 := below_alloc w (Obj.cells #[Value.slice none 0 0, Value.slice none 0 0, Value.slice none 0 0] 28)
  have x0 := Bx.new w (Value.slice none 0 0) (Value.slice none 0 0) (Value.slice none 0 0)
  by_cases hn : 1 ≤ n ∧ n ≤ 729
  case neg =>
    have HC := Lib.hid (cycC_out hn)
    have hin : inB n 1 729 = false := inB_false.2 hn
    go_enter Try.func72, Try.ntmps72
    go_wp2_with (go_at_call 31; refine (s_l01In _ _ _ _).mono ?_; rintro e w' ⟨rfl, rfl⟩; rw [hin])
    refine bodyPost_ret (v := .tuple #[.agg #[Value.slice none 0 0, Value.slice none 0 0, Value.slice none 0 0], .int .i64 2]) (by simp [results, Try.results72, go_sem]) rfl ?_
    rw [HC.out, okP_ne _ (by omega)]
    exact ⟨_, _, _, rfl, OP.none _ _, by simpa using g0⟩

  have hin : inB n 1 729 = true := inB_true.2 hn
  obtain ⟨k, rfl⟩ : ∃ k : Nat, n = (k : Int) := ⟨n.toNat, by omega⟩
  obtain ⟨fo1, fo2, fo3, fo4, fo5, fo6⟩ := facOK_at (k := k) (by omega) (by omega)
  have HN : Hid (primesB (facs k).1 = false → cycC (k : Int) = 2) := fun h => cycC_np (by simpa using h)
  have HB : Hid (primesB (facs k).1 = true → ¬ (facT k).2.length ≤ 6 → cycC (k : Int) = 3) := fun h h' => cycC_big hn (by simpa using h) (by simpa [cycOs] using h')
  have HK : Hid (primesB (facs k).1 = true → (facT k).2.length ≤ 6 → cycC (k : Int) = 0) := fun h h' => cycC_ok hn (by simpa using h) (by simpa [cycOs] using h')
  have HR : Hid (cycR (k : Int) = cycP (facT k).2 ((facT k).2.length - 1)) := by show _ = _; simp [cycR, cycOs]
  clear fo2 fo3 fo4 fo6
  go_enter Try.func72, Try.ntmps72
  go_wp2_with (go_at_call 31; refine (s_l01In _ _ _ _).mono ?_; rintro e w' ⟨rfl, rfl⟩; rw [hin])
  refine (s_l07Factors k _ (by omega) (by omega)).mono ?_
  rintro e w1 ⟨u1, rfl, hI1, hB⟩
  rw [fo1]
  generalize primesB (facs k).1 = pb at *
  generalize (facT k).2 = os at *
  clear fo1
  have z1 : w.heap.size < w1.heap.size := by have := hB.size; simp at this; omega
  have g1 := below_size g0 hB
  have x1 := x0.below hB (by simp)
  have R1 := Lib.hid hI1.rd
  obtain ⟨a1, q1, rfl, _, _⟩ := hI1.form
  clear hI1 hB x0 g0
  cases pb with
  | false =>
    have HC := Lib.hid (HN.out rfl)
    have p0 := x1.c0
    have p1 := x1.c1
    have p2 := x1.c2
    have f0 := x1.fr 0
    have f1 := x1.fr 1
    have f2 := x1.fr 2
    have gW' := ((g1.setCell (p := ⟨w.heap.size, 0, none⟩) (Nat.le_refl _) (Value.slice none 0 0)).setCell (p := ⟨w.heap.size, 1, none⟩) (Nat.le_refl _) (Value.slice none 0 0)).setCell (p := ⟨w.heap.size, 2, none⟩) (Nat.le_refl _) (Value.slice none 0 0)
    clear x1 g1
    go_wp2_with fail
    refine bodyPost_ret (v := .tuple #[.agg #[Value.slice none 0 0, Value.slice none 0 0, Value.slice none 0 0], .int .i64 2]) (by simp [results, Try.results72, go_sem, p0, p1, p2]) rfl ?_
    rw [HC.out, okP_ne _ (by omega)]
    exact ⟨_, _, _, rfl, OP.none _ _, gW'⟩
  | true =>
    by_cases h6 : os.length ≤ 6
    case neg =>
      have HC := Lib.hid (HB.out rfl h6)
      have p0 := x1.c0
      have p1 := x1.c1
      have p2 := x1.c2
      have f0 := x1.fr 0
      have f1 := x1.fr 1
      have f2 := x1.fr 2
      have gW' := ((g1.setCell (p := ⟨w.heap.size, 0, none⟩) (Nat.le_refl _) (Value.slice none 0 0)).setCell (p := ⟨w.heap.size, 1, none⟩) (Nat.le_refl _) (Value.slice none 0 0)).setCell (p := ⟨w.heap.size, 2, none⟩) (Nat.le_refl _) (Value.slice none 0 0)
      clear x1 g1
      go_wp2_with fail
      refine bodyPost_ret (v := .tuple #[.agg #[Value.slice none 0 0, Value.slice none 0 0, Value.slice none 0 0], .int .i64 3]) (by simp [results, Try.results72, go_sem, p0, p1, p2]) rfl ?_
      rw [HC.out, okP_ne _ (by omega)]
      exact ⟨_, _, _, rfl, OP.none _ _, gW'⟩
    have HC := Lib.hid (HK.out rfl h6)
    go_wp2_with fail
    refine (s_l07Trivial _ os _ R1.out (by omega)).mono ?_
    rintro e w4 ⟨v1, v2, v3, rfl, hP, hB4⟩
    rw [cycP_zero] at hP
    have z4 := hB4.size
    have g4 := below_size g1 hB4
    have x4 := x1.below hB4 x1.lt
    obtain ⟨⟨b1, c1, rfl⟩, ⟨b2, c2, rfl⟩, ⟨b3, c3, rfl⟩⟩ := hP.formsN (n1 := os.length) (n2 := os.length) (n3 := os.length) rfl (cycPow_len _ _) (trivConj_len _ _)
    have y0 := Bx.new w4 (Value.slice b1 os.length c1) (Value.slice b2 os.length c2) (Value.slice b3 os.length c3)
    have hP0 : OP (w4.alloc (Obj.cells #[Value.slice b1 os.length c1, Value.slice b2 os.length c2, Value.slice b3 os.length c3] 28)) (fun k => w.heap.size < k ∧ k ≠ w4.heap.size) _ _ _ _ := OP.below (OP.sub hP (fun k hk h => ⟨by have := h.1; omega, by omega⟩)) (below_alloc w4 (Obj.cells #[Value.slice b1 os.length c1, Value.slice b2 os.length c2, Value.slice b3 os.length c3] 28))
    have g5 := g4.alloc (by omega : w.heap.size ≤ w4.heap.size) (Obj.cells #[Value.slice b1 os.length c1, Value.slice b2 os.length c2, Value.slice b3 os.length c3] 28)
    have x5 := x4.old (Obj.cells #[Value.slice b1 os.length c1, Value.slice b2 os.length c2, Value.slice b3 os.length c3] 28)
    clear hP hB4 x4 x1 g1 g4
    have hw4 : w.heap.size < w4.heap.size := by omega
    go_wp2_with fail
    go_loopw [7] (fun i w5 => ∃ j : Nat, (j = 0 ∨ j + 1 ≤ os.length) ∧ i = .int .i64 j ∧ OP w5 (fun k => w.heap.size < k ∧ k ≠ w4.heap.size) (Value.slice b1 os.length c1) (Value.slice b2 os.length c2) (Value.slice b3 os.length c3) (cycP os j) ∧ Bx w5 w4.heap.size (Value.slice b1 os.length c1) (Value.slice b2 os.length c2) (Value.slice b3 os.length c3) ∧ Bx w5 w.heap.size (Value.slice none 0 0) (Value.slice none 0 0) (Value.slice none 0 0) ∧ Below w.heap.size w w5) (fun i _ => os.length - (intOf i).toNat)
    case atStart => exact ⟨0, .inl rfl, rfl, hP0, y0, x5, g5⟩
    case round =>
      clear hP0 y0 x5 g5
      obtain ⟨j, hj, rfl, hP, hY, hX, hW⟩ := hrel
      have ly := hY.lt
      have lx := hX.lt
      by_cases hlt : j + 1 < os.length
      · have hPr : OP wr (fun k => (w.heap.size < k ∧ k ≠ w4.heap.size) ∧ k < wr.heap.size) _ _ _ _ := OP.sub hP (fun k hk h => ⟨h, hk⟩)
        obtain ⟨bg, cg, hbg, hrow0⟩ : ∃ g cap, b2 = some ⟨g, 0, none⟩ ∧ cap = c2 ∧ (∃ r, wr.cell? ⟨g, j, none⟩ = some r) ∧ wr.frozen? ⟨g, j, none⟩ = false ∧ g < wr.heap.size ∧ w.heap.size < g ∧ g ≠ w4.heap.size := by
          obtain ⟨A, B, C, h1, h2, h3, s1, s2, s3, d1, d2, d3⟩ := hPr
          obtain ⟨ao, cap, e, _, _, ho⟩ := ON.open h2
          rcases ho with h0 | ⟨g, rfl, hg, hgl, hc⟩
          · rw [show (cycP os j).powers.length = os.length from cycPow_len _ _] at h0; omega
          simp only [Value.slice.injEq] at e
          obtain ⟨rfl, _, rfl⟩ := e
          have hh := hc j (by rw [show (cycP os j).powers.length = os.length from cycPow_len _ _]; omega)
          exact ⟨g, _, rfl, rfl, hh.2, hh.1, hgl, (s2 g hg).1.1, (s2 g hg).1.2⟩
        subst hbg
        obtain ⟨rfl, ⟨r, hr⟩, hfz, hgl, hgw, hg4⟩ := hrow0
        have m1 := hY.c1
        have hj0 : (0 : Int) ≤ (j : Int) := by omega
        have hj1 : (j : Int) < (os.length : Int) := by omega
        have hj2 : j < os.length := by omega
        have W1 : IntKind.i64.wrap ((j : Int) + 1) = (j : Int) + 1 := IntWalk.i64_in _ (by omega)
        have HU : Hid (∀ wx, Calls Try.prog 78 #[.int .i64 os.length, .int .i64 ((j : Int) + 1)] wx (RetInts wx (unitL os.length (j + 1)))) := fun wx => by
          have := s_l07Unit os.length (j + 1) wx (by omega) (by omega)
          rwa [show (((j + 1 : Nat)) : Int) = (j : Int) + 1 by omega] at this
        have KB : Hid (∀ wx, Below wr.heap.size wr wx → wx.cell? ⟨w4.heap.size, 1, none⟩ = some (Value.slice (some ⟨bg, 0, none⟩) os.length cg) ∧ wx.cell? ⟨bg, j, none⟩ = some r ∧ wx.frozen? ⟨bg, j, none⟩ = false) :=
          fun wx hb => ⟨(hb.cell (p := ⟨w4.heap.size, 1, none⟩) ly).trans m1, (hb.cell (p := ⟨bg, j, none⟩) hgl).trans hr, ((bcell hb).2 bg j hgl).trans hfz⟩
        go_wp2_with fail
        go_region_held3 (fun wx => wx.cell? ⟨w4.heap.size, 1, none⟩ = some (Value.slice (some ⟨bg, 0, none⟩) os.length cg))
          (first
            | exact (KB.out _ (Below.refl _ _).drew).1
            | exact (KB.out _ hK2).1
            | exact hKS)
          (first
            | ((go_at_call 78); (refine (HU.out _).mono ?_); (rintro e w2 ⟨v2, rfl, hI2, hB2⟩); (have hK2 : Below wr.heap.size wr w2 := below_size (Below.refl _ _).drew hB2); (obtain ⟨a2, q2, e2, _, _⟩ := hI2.form); (rw [unitL_length] at e2); (subst e2); (have hr2 := (KB.out _ hK2).2.1); (have hf2 := (KB.out _ hK2).2.2); (have hKS : (w2.setCell ⟨bg, j, none⟩ (Value.slice a2 os.length q2)).cell? ⟨w4.heap.size, 1, none⟩ = some (Value.slice (some ⟨bg, 0, none⟩) os.length cg) := (((ChgS.setCell w2 bg j (Value.slice a2 os.length q2)).at (Nat.lt_of_lt_of_le ly hK2.size) (fun e => hg4 e.symm)).1 1).trans (KB.out _ hK2).1)))
        have s2 := hK2.size
        have hP2 := OP.below hPr hK2
        have hY2 := (hY.below hK2 ly).other (c := bg) (fun e => hg4 e.symm) j (Value.slice a2 os.length q2)
        have hX2 := (hX.below hK2 lx).other (c := bg) (by omega) j (Value.slice a2 os.length q2)
        have hW2 := (hW.trans (hK2.mono hW.size)).setCell (p := ⟨bg, j, none⟩) (by show w.heap.size ≤ bg; omega) (Value.slice a2 os.length q2)
        obtain ⟨g, cap, e3, _, _, _, hP3⟩ := op_setPow hP2 (j := j) (by show j < (cycPow os.length j).length; rw [cycPow_len]; omega) hI2.o1 (fun k hk h => by have h1 := hk.1; have h2 := h.2; simp at h1; omega)
        simp only [Value.slice.injEq, Option.some.injEq, Addr.mk.injEq] at e3
        obtain ⟨⟨rfl, hz8⟩, hz9, rfl⟩ := e3
        clear hz8 hz9
        have hset : (cycPow os.length j).set j (unitL os.length (j + 1)) = cycPow os.length (j + 1) := cycPow_set (by omega)
        rw [show (cycP os j).powers = cycPow os.length j from rfl, hset] at hP3
        have hP4 := OP.sub (S' := fun k => w.heap.size < k ∧ k ≠ w4.heap.size) hP3 (fun k hk h => by
          rcases h with ⟨h, _⟩ | h
          · exact h
          · have := h.1; simp at this; exact ⟨by omega, by omega⟩)
        clear hP hPr hP2 hP3 hY hX hW W1
        go_wp2_with fail
        go_roundw
        case rel => exact ⟨j + 1, .inr (by omega), by go_num, hP4, hY2, hX2, hW2⟩
        case measure => simp [intOf]; omega
      · have hj' : j = os.length - 1 := by omega
        subst hj'
        have p0 := hX.c0
        have p1 := hX.c1
        have p2 := hX.c2
        have f0 := hX.fr 0
        have f1 := hX.fr 1
        have f2 := hX.fr 2
        have m0 := hY.c0
        have m1 := hY.c1
        have m2 := hY.c2
        have nb : ¬ (w.heap.size < w.heap.size ∧ w.heap.size ≠ w4.heap.size) := fun h => by omega
        have hP' := OP.sets (OP.sets (OP.sets hP nb 0 (Value.slice b1 os.length c1)) nb 1 (Value.slice b2 os.length c2)) nb 2 (Value.slice b3 os.length c3)
        have hW' := ((hW.setCell (p := ⟨w.heap.size, 0, none⟩) (Nat.le_refl _) (Value.slice b1 os.length c1)).setCell (p := ⟨w.heap.size, 1, none⟩) (Nat.le_refl _) (Value.slice b2 os.length c2)).setCell (p := ⟨w.heap.size, 2, none⟩) (Nat.le_refl _) (Value.slice b3 os.length c3)
        clear hP hX hY hW
        go_wp2_with fail
        refine bodyPost_ret (v := .tuple #[.agg #[Value.slice b1 os.length c1, Value.slice b2 os.length c2, Value.slice b3 os.length c3], .int .i64 0]) (by simp [results, Try.results72, go_sem, p0, p1, p2]) rfl ?_
        rw [HC.out, okP_zero, HR.out]
        exact ⟨_, _, _, rfl, OP.sub hP' (fun k hk h => ⟨by have := h.1; omega, hk⟩), hW'⟩
theorem cat_len_all (n : Nat) : ∀ l : List (List Int), (∀ r ∈ l, r.length = n) → (cat l).length = n * l.length := by
  intro l
  induction l with
  | nil => intro _; simp [cat]
  | cons a l ih =>
    intro h
    have h1 := ih fun r hr => h r (by simp [hr])
    have h2 := h a (by simp)
    unfold cat at *
    simp only [List.flatten_cons, List.length_append, List.length_cons, h1, h2, Nat.mul_succ]
    omega
theorem cyc_size2 (n j : Nat) : size2 (cycPow n j) = size2 (trivPow n n) := by
  unfold size2
  rw [cycPow_len, trivPow_len, cat_len_all n (cycPow n j), cat_len_all n (trivPow n n), cycPow_len, trivPow_len]
  · intro r hr; simp only [trivPow, List.mem_replicate] at hr; rw [hr.2, zrow_len]
  · intro r hr
    simp only [cycPow, List.mem_map] at hr
    obtain ⟨i, _, rfl⟩ := hr
    unfold cycRow
    split
    · exact unitL_length _ _
    · exact zrow_len _
theorem len_CyclicPresentation (n : Int) : psize (okP (cycC n) (cycR n)) ≤ 1000000000 := by
  by_cases h : cycC n = 0
  · rw [h, okP_zero]
    have h6 : (cycOs n).length ≤ 6 := by
      unfold cycC at h
      split at h
      · split at h
        · split at h
          · assumption
          · omega
        · omega
      · omega
    have ht := triv_size (cycOs n) h6
    have e : psize (cycR n) = psize (triv (cycOs n)) := by
      unfold psize cycR cycP triv trivP
      simp only [cyc_size2]
    rw [e]; exact ht
  · rw [okP_ne _ h]; exact noP_size
end Go.Proofs.Ytiikoappknejgaa
namespace Go.Proofs.Ytiikoappknejgaa
set_option linter.unusedVariables false
set_option linter.unusedSimpArgs false
set_option maxRecDepth 100000
open Go.RowKit
attribute [local go_sem ↓] Go.wp_at_zero Go.wp_at_succ

--== shapes in a box
/-- box b2 is empty yet (the result's), box b4 holds a presentation of n levels -/
def BW (w : World) (b2 b4 n : Nat) (wx : World) : Prop := ∃ P, WS n P ∧ BInv w b2 b4 P wx
/-- a fresh presentation whose shape is sound -/
def RetW (w : World) (e : Ending) (w' : World) : Prop := ∃ n p, n ≤ 6 ∧ WS n p ∧ RetP w p e w'
theorem BW.bel {w wx : World} {b2 b4 n : Nat} (h : BW w b2 b4 n wx) : Below w.heap.size w wx := by
  obtain ⟨P, _, hI⟩ := h
  exact hI.bel
theorem BW.pow {w wx : World} {b2 b4 n i : Nat} (h : BW w b2 b4 n wx) (hi : i < n) :
    ∃ a1 c1 g c2 a3 c3, Bx wx b4 (.slice a1 n c1) (.slice (some ⟨g, 0, none⟩) n c2) (.slice a3 n c3) ∧ ∀ w3, Below wx.heap.size wx w3 → w3.cell? ⟨b4, 1, none⟩ = some (.slice (some ⟨g, 0, none⟩) n c2) ∧ (∃ r, w3.cell? ⟨g, i, none⟩ = some r) ∧ w3.frozen? ⟨g, i, none⟩ = false ∧
      ∀ u row, row.length = n → Ints w3 wx.heap.size u row → BW w b2 b4 n (w3.setCell ⟨g, i, none⟩ u) := by
  obtain ⟨P, hW, hI⟩ := h
  obtain ⟨a1, c1, a2, c2, a3, c3, hBO⟩ := hI.open hW.pl hW.cl
  obtain ⟨g, rfl, hset⟩ := hBO.set_pow (i := i) hi
  have x4 := hBO.x4
  rw [hW.on] at x4
  refine ⟨a1, c1, g, c2, a3, c3, x4, fun w3 hB => ?_⟩
  obtain ⟨h1, h2, h3, h4⟩ := hset w3 hB
  exact ⟨h1, h2, h3, fun u row hl hu => ⟨_, ws_stP hW hi hl, h4 u row hu⟩⟩
theorem BW.cnj {w wx : World} {b2 b4 n i j : Nat} (h : BW w b2 b4 n wx) (hi : i < n) (hj : j < n - (i + 1)) :
    ∃ a1 c1 a2 c2 g c3 g2 q2, Bx wx b4 (.slice a1 n c1) (.slice a2 n c2) (.slice (some ⟨g, 0, none⟩) n c3) ∧ ∀ w3, Below wx.heap.size wx w3 → w3.cell? ⟨b4, 2, none⟩ = some (.slice (some ⟨g, 0, none⟩) n c3) ∧ w3.cell? ⟨g, i, none⟩ = some (.slice (some ⟨g2, 0, none⟩) (n - (i + 1)) q2) ∧ (∃ r, w3.cell? ⟨g2, j, none⟩ = some r) ∧ w3.frozen? ⟨g2, j, none⟩ = false ∧
      ∀ u row, row.length = n → Ints w3 wx.heap.size u row → BW w b2 b4 n (w3.setCell ⟨g2, j, none⟩ u) := by
  obtain ⟨P, hW, hI⟩ := h
  obtain ⟨a1, c1, a2, c2, a3, c3, hBO⟩ := hI.open hW.pl hW.cl
  obtain ⟨g, g2, cap2, rfl, hset⟩ := hBO.set_conj (i := i) (j := j) hi (hW.rl i hi) hj
  have x4 := hBO.x4
  rw [hW.on] at x4
  refine ⟨a1, c1, a2, c2, g, c3, g2, cap2, x4, fun w3 hB => ?_⟩
  obtain ⟨h1, h2, h3, h4, h5⟩ := hset w3 hB
  exact ⟨h1, h2, h3, h4, fun u row hl hu => ⟨_, ws_stC hW hj hl, h5 u row hu⟩⟩
theorem BOpen.outE {w0 w wx : World} {b2 b4 : Nat} {P : Pres} {a1 c1 a2 n2 c2 a3 n3 c3} (h : BOpen w b2 b4 P a1 c1 a2 n2 c2 a3 n3 c3 wx) (hw : Below w0.heap.size w0 w) (hb2 : w0.heap.size ≤ b2) {n : Nat} (hn : P.orders.length = n) :
    OP (((wx.setCell ⟨b2, 0, none⟩ (.slice a1 n c1)).setCell ⟨b2, 1, none⟩ (.slice a2 n2 c2)).setCell ⟨b2, 2, none⟩ (.slice a3 n3 c3)) (win w0.heap.size (((wx.setCell ⟨b2, 0, none⟩ (.slice a1 n c1)).setCell ⟨b2, 1, none⟩ (.slice a2 n2 c2)).setCell ⟨b2, 2, none⟩ (.slice a3 n3 c3)).heap.size) (.slice a1 n c1) (.slice a2 n2 c2) (.slice a3 n3 c3) P ∧
      Below w0.heap.size w0 (((wx.setCell ⟨b2, 0, none⟩ (.slice a1 n c1)).setCell ⟨b2, 1, none⟩ (.slice a2 n2 c2)).setCell ⟨b2, 2, none⟩ (.slice a3 n3 c3)) := by
  subst hn
  have hs := hw.size
  exact ⟨OP.sub (OP.sets (OP.sets (OP.sets h.op (b := b2) (fun hh => hh.2.1 rfl) 0 _) (b := b2) (fun hh => hh.2.1 rfl) 1 _) (b := b2) (fun hh => hh.2.1 rfl) 2 _) (fun k hk hh => ⟨Nat.le_trans hs hh.1, hk⟩),
    (((below_size hw h.be).setCell (p := ⟨b2, 0, none⟩) hb2 _).setCell (p := ⟨b2, 1, none⟩) hb2 _).setCell (p := ⟨b2, 2, none⟩) hb2 _⟩
theorem BW.fin {w0 w wx : World} {b2 b4 n : Nat} (h : BW w b2 b4 n wx) (hw : Below w0.heap.size w0 w) (hb2 : w0.heap.size ≤ b2) :
    ∃ a1 c1 a2 c2 a3 c3, Bx wx b4 (.slice a1 n c1) (.slice a2 n c2) (.slice a3 n c3) ∧ Bx wx b2 (.slice none 0 0) (.slice none 0 0) (.slice none 0 0) ∧
      ∃ P, WS n P ∧ OP (((wx.setCell ⟨b2, 0, none⟩ (.slice a1 n c1)).setCell ⟨b2, 1, none⟩ (.slice a2 n c2)).setCell ⟨b2, 2, none⟩ (.slice a3 n c3)) (win w0.heap.size (((wx.setCell ⟨b2, 0, none⟩ (.slice a1 n c1)).setCell ⟨b2, 1, none⟩ (.slice a2 n c2)).setCell ⟨b2, 2, none⟩ (.slice a3 n c3)).heap.size) (.slice a1 n c1) (.slice a2 n c2) (.slice a3 n c3) P ∧
      Below w0.heap.size w0 (((wx.setCell ⟨b2, 0, none⟩ (.slice a1 n c1)).setCell ⟨b2, 1, none⟩ (.slice a2 n c2)).setCell ⟨b2, 2, none⟩ (.slice a3 n c3)) := by
  obtain ⟨P, hW, hI⟩ := h
  obtain ⟨a1, c1, a2, c2, a3, c3, hBO⟩ := hI.open hW.pl hW.cl
  have x4 := hBO.x4
  have o := hBO.outE hw hb2 hW.on
  rw [hW.on] at x4
  exact ⟨a1, c1, a2, c2, a3, c3, x4, hBO.x2, P, hW, o⟩
theorem BW.mk {w wx : World} {b2 : Nat} {v1 v2 v3 : Value} {os : List Int} (X2 : Bx wx b2 (.slice none 0 0) (.slice none 0 0) (.slice none 0 0)) (h : OP wx (win w.heap.size wx.heap.size) v1 v2 v3 (triv os)) (hp : primesB os = true)
    (h2 : b2 < w.heap.size) (be : Below w.heap.size w wx) : BW w b2 wx.heap.size os.length (wx.alloc (.cells #[v1, v2, v3] 28)) :=
  ⟨_, ws_triv hp, BInv.mk2 X2 h (fun k hk => by have := hk.1; exact ⟨this, by omega⟩) be⟩
def metaOK (n m : Nat) : Bool := decide (1 ≤ n ∧ n ≤ 12 ∧ 2 ≤ m ∧ m ≤ 12) && (primesB (facT n).2 && (primesB (facT m).2 && decide (0 < (facT n).2.length ∧ (facT n).2.length + (facT m).2.length ≤ 6)))
--== spec.l07Meta
set_option maxHeartbeats 4000000 in
theorem s_l07Meta (n m : Nat) (r s : Int) (w : World) (h : metaOK n m = true) : Calls Try.prog 73 #[.int .i64 n, .int .i64 m, .int .i64 r, .int .i64 s] w (RetW w) := by
  unfold metaOK at h
  rw [Bool.and_eq_true, Bool.and_eq_true, Bool.and_eq_true, decide_eq_true_eq, decide_eq_true_eq] at h
  obtain ⟨⟨hn1, hn2, hm1, hm2⟩, hp1, hp2, hl0, hl⟩ := h
  obtain ⟨i0, hi, hz0, hz1, hz2⟩ := info_parts Try.info2
  have g0 := below_alloc w (Obj.cells #[Value.slice none 0 0, Value.slice none 0 0, Value.slice none 0 0] 28)
  have x0 := Bx.new w (Value.slice none 0 0) (Value.slice none 0 0) (Value.slice none 0 0)
  go_enter Try.func73, Try.ntmps73
  go_wp2_with fail
  refine (s_l07Factors n _ (by omega) (by omega)).mono ?_
  rintro e w1 ⟨u1, rfl, hI1, hB1⟩
  have HP1 := Lib.hid hp1
  have HP2 := Lib.hid hp2
  generalize (facT n).2 = top at *
  generalize decide ((facT n).1 = 1) = ok1 at *
  obtain ⟨k, hk⟩ : ∃ k, top.length = k := ⟨_, rfl⟩
  rw [hk] at hl0 hl
  obtain ⟨a1, q1, rfl, _, _⟩ := hI1.rd.formN hk
  have g1 := below_size g0 hB1
  have x1 := x0.below hB1 (by simp)
  have hs1 := hB1.size
  simp at hs1
  clear g0 x0
  go_wp2_with fail
  refine (s_l07Factors m _ (by omega) (by omega)).mono ?_
  rintro e w2 ⟨u2, rfl, hI2, hB2⟩
  generalize (facT m).2 = bot at *
  generalize decide ((facT m).1 = 1) = ok2 at *
  obtain ⟨kb, hkb⟩ : ∃ k, bot.length = k := ⟨_, rfl⟩
  rw [hkb] at hl
  obtain ⟨a2, q2, rfl, _, _⟩ := hI2.rd.formN hkb
  have g2 := below_size g1 hB2
  have x2 := x1.below hB2 x1.lt
  have HT1 := Lib.hid (hI1.rd.below hB2)
  have HK1 := Lib.hid hk
  have HKB := Lib.hid hkb
  clear g1 x1 hI1 hB1 hk hkb
  go_wp2_with fail
  refine (s_l01Own _ top _ HT1.out (by rw [HK1.out]; omega)).mono ?_
  rintro e w3 ⟨u3, rfl, hI3, hB3⟩
  have g3 := below_size g2 hB3
  have x3 := x2.below hB3 x2.lt
  have HT3 := Lib.hid (HT1.out.below hB3)
  have hR2 := hI2.rd.below hB3
  have hs2 := g2.size
  have hs21 := hB2.size
  have hs3 := hB3.size
  clear g2 x2 hI2 hB2
  go_wp2_with (at_builtin; refine wp_appN _ rfl _ _ rfl w2.heap.size i0 Try.underlying24 hi hz0 hz1 hz2 _ top rfl hI3 _ bot rfl hR2 (by rw [HK1.out]; omega) (by rw [HKB.out]; omega) hs3 ?_)
  intro u4 w4 hI4 hG4 hB4
  have g4 := g3.trans (hB4.mono hs2)
  have x4 := x3.below hB4 (by omega)
  have HT4 := Lib.hid (HT1.out.below (hB3.trans hB4))
  have hos : (top ++ bot).length = k + kb := by rw [List.length_append, HK1.out, HKB.out]
  have HPR : Hid (primesB (top ++ bot) = true) := primesB_app HP1.out HP2.out
  generalize top ++ bot = os at *
  obtain ⟨N, hN⟩ : ∃ N, N = k + kb := ⟨_, rfl⟩
  rw [← hN] at hos hl
  have hkN : k ≤ N := by omega
  clear hN
  obtain ⟨a4, q4, rfl, _, _⟩ := hI4.rd.formN hos
  have HR4 := Lib.hid hI4.rd
  have HOS := Lib.hid hos
  have hs4 := hB4.size
  clear hI4 hG4 hB4 x3 g3 hI3 hB3 hR2
  go_wp2_with fail
  refine (s_l07Trivial _ os _ HR4.out (by rw [HOS.out]; omega)).mono ?_
  rintro e w5 ⟨v1, v2, v3, rfl, hP5, hB5⟩
  obtain ⟨⟨b1, c1, rfl⟩, ⟨b2, c2, rfl⟩, ⟨b3, c3, rfl⟩⟩ := hP5.formsN (n1 := N) (n2 := N) (n3 := N) HOS.out ((ws_triv HPR.out).pl.trans HOS.out) ((ws_triv HPR.out).cl.trans HOS.out)
  have x5 := x4.below hB5 x4.lt
  have HG4 := Lib.hid g4
  have HLT : Hid (w.heap.size < w4.heap.size) := x4.lt
  have hBW := BW.mk x5 hP5 HPR.out x4.lt hB5
  rw [HOS.out] at hBW
  have hbp : w4.heap.size ≤ w5.heap.size := hB5.size
  clear x5 hP5 hB5 x4 g4 hs4 hs3 hs2 hs21 hs1 HT1 HT3
  have HU : Hid (∀ j : Nat, j + 1 < N → ∀ wx, Calls Try.prog 78 #[.int .i64 N, .int .i64 ((j : Int) + 1)] wx (RetN wx N)) := fun j hj wx => by
    have := s_l07Unit N (j + 1) wx (by omega) (by omega)
    rw [show (((j + 1 : Nat)) : Int) = (j : Int) + 1 by omega] at this
    exact this.mono fun e w' ⟨v, h1, h2, h3⟩ => ⟨v, _, h1, unitL_length _ _, h2, h3⟩
  have HDG : Hid (∀ (x : Int) (j : Nat), j ≤ N → ∀ wx, Below w4.heap.size w4 wx → Calls Try.prog 80 #[.slice a4 N q4, .int .i64 j, .int .i64 x] wx (RetN wx N)) := fun x j hj wx hb => by
    have := s_l07Digits _ os j x wx (HR4.out.below hb) HPR.out (by rw [HOS.out]; omega) (by rw [HOS.out]; exact hj)
    rwa [HOS.out] at this
  have hk1 : IntKind.i64.wrap ((k : Int) - 1) = (k : Int) - 1 := IntWalk.i64_in _ (by omega)
  go_wp2_with fail
  generalize w5.alloc (Obj.cells #[Value.slice b1 N c1, Value.slice b2 N c2, Value.slice b3 N c3] 28) = w6 at *
  generalize w5.heap.size = b4 at *
  go_loopw [16] (fun i wr => ∃ j : Nat, j < N ∧ i = .int .i64 j ∧ BW w4 w.heap.size b4 N wr) (fun i _ => N - (intOf i).toNat)
  case atStart => exact ⟨0, by omega, rfl, hBW⟩
  case round =>
    clear hBW
    obtain ⟨j, hj, rfl, hBW⟩ := hrel
    by_cases hlt : j + 1 < N
    · by_cases hjk : (j : Int) = (k : Int) - 1
      · go_wp2_with fail
        go_roundw
        case rel => exact ⟨j + 1, by omega, by go_num, hBW⟩
        case measure => simp [intOf]; omega
      · obtain ⟨a7, c7, g7, c8, a9, c9, x4, hset⟩ := hBW.pow hj
        have HSET := Lib.hid hset
        have m1 := x4.c1
        have hj0 : (0 : Int) ≤ (j : Int) := by omega
        have hj1 : (j : Int) < (N : Int) := by omega
        have W1 : IntKind.i64.wrap ((j : Int) + 1) = (j : Int) + 1 := IntWalk.i64_in _ (by omega)
        have hju := HU.out j hlt
        clear hset hBW x4
        go_wp2_with fail
        go_region_law (go_simp; go_at_call 78; go_must (refine (hju _).mono ?_); rintro e w3 ⟨u3, ys, rfl, hys, hI3, hB3⟩; obtain ⟨hm1, ⟨r3, hr3⟩, hf3, hs3⟩ := HSET.out w3 (below_size (Below.refl _ _).drew hB3); obtain ⟨a9, c9, rfl, _, _⟩ := hI3.rd.formN hys; have hq := Lib.hid (hs3 _ _ hys hI3))
        all_goals
          go_wp2_with fail
          go_roundw
          case rel => exact ⟨j + 1, by omega, by go_num, hq.out⟩
          case measure => simp [intOf]; omega
    · obtain ⟨a7, c7, g7, c8, a9, c9, x4, hset⟩ := hBW.pow (i := k - 1) (by omega)
      have HSET := Lib.hid hset
      have m1 := x4.c1
      have hj0 : (0 : Int) ≤ (k : Int) - 1 := by omega
      have hj1 : (k : Int) - 1 < (N : Int) := by omega
      have hj2 : (0 : Int) < (k : Int) := by omega
      have hj3 : (1 : Int) ≤ (k : Int) := by omega
      have T1 : ((k : Int) - 1).toNat = k - 1 := by omega
      have HW := Lib.hid hBW.bel
      clear hset hBW x4
      go_upto_region 12 with (fail)
      go_cut [] (fun wx => BW w4 w.heap.size b4 N wx)
      case first =>
        go_region_law (go_simp; go_at_call 80; go_must (refine (HDG.out s k hkN _ HW.out.drew).mono ?_); rintro e w3 ⟨u3, ys, rfl, hys, hI3, hB3⟩; obtain ⟨hm1, ⟨r3, hr3⟩, hf3, hs3⟩ := HSET.out w3 (below_size (Below.refl _ _).drew hB3); obtain ⟨a9, c9, rfl, _, _⟩ := hI3.rd.formN hys; have hq := Lib.hid (hs3 _ _ hys hI3))
        all_goals (go_wp2_with fail; go_meet; exact hq.out)
      case rest =>
        have hBW := hcut
        clear hcut m1 hj0 hj1 T1 HSET HW hj hlt hj2 hk1
        have hm0 : ¬ (m : Int) = 0 := by omega
        go_wp2_with fail
        go_loopw [17, 18] (fun x i wr => ∃ (x' : Int) (j : Nat), j ≤ k ∧ x = .int .i64 x' ∧ i = .int .i64 j ∧ BW w4 w.heap.size b4 N wr) (fun _ i _ => k - (intOf i).toNat)
        case atStart => exact ⟨_, 0, by omega, rfl, rfl, hBW⟩
        case round =>
          clear hBW
          obtain ⟨x, i, hik, rfl, rfl, hBW⟩ := hrel
          by_cases hlt : i < k
          · go_wp2_with fail
            go_loopw [19] (fun t wr => ∃ j : Nat, k ≤ j ∧ j ≤ N ∧ t = .int .i64 j ∧ BW w4 w.heap.size b4 N wr) (fun t _ => N - (intOf t).toNat)
            case atStart => exact ⟨k, Nat.le_refl _, hkN, rfl, hBW⟩
            case round =>
              clear hBW
              obtain ⟨j, hkj, hj, rfl, hBW⟩ := hrel
              by_cases hlt2 : j < N
              · obtain ⟨a7, c7, a8, c8, g7, c9, g8, q8, x4, hset⟩ := hBW.cnj (i := i) (j := j - i - 1) (by omega) (by omega)
                obtain ⟨M, hM⟩ : ∃ M, N - (i + 1) = M := ⟨_, rfl⟩
                obtain ⟨d, hd⟩ : ∃ d, j - i - 1 = d := ⟨_, rfl⟩
                rw [hM, hd] at hset
                have HSET := Lib.hid hset
                obtain ⟨m2, m3, _, _, _⟩ := hset _ (Below.refl _ _)
                have W2 : IntKind.i64.wrap ((j : Int) - (i : Int)) = (j : Int) - (i : Int) := IntWalk.i64_in _ (by omega)
                have W3 : IntKind.i64.wrap ((j : Int) - (i : Int) - 1) = (j : Int) - (i : Int) - 1 := IntWalk.i64_in _ (by omega)
                have T3 : ((j : Int) - (i : Int) - 1).toNat = d := by omega
                have L1 : (0 : Int) ≤ (j : Int) - (i : Int) - 1 := by omega
                have L2 : (j : Int) - (i : Int) - 1 < (M : Int) := by omega
                have L3 : (i : Int) < (N : Int) := by omega
                have L5 : (1 : Int) ≤ (j : Int) - (i : Int) := by omega
                have L4 : (0 : Int) ≤ (i : Int) := by omega
                have HW := Lib.hid hBW.bel
                clear hset hBW x4 hM hd
                go_wp2_with fail
                go_region_law (go_simp; go_at_call 80; go_must (refine (HDG.out x j hj _ HW.out.drew).mono ?_); rintro e w3 ⟨u3, ys, rfl, hys, hI3, hB3⟩; obtain ⟨hm1, hm2, ⟨r3, hr3⟩, hf3, hs3⟩ := HSET.out w3 (below_size (Below.refl _ _).drew hB3); obtain ⟨a9, c9, rfl, _, _⟩ := hI3.rd.formN hys; have hq := Lib.hid (hs3 _ _ hys hI3))
                all_goals
                  go_wp2_with fail
                  go_roundw
                  case rel => exact ⟨j + 1, by omega, by omega, by go_num, hq.out⟩
                  case measure => simp [intOf]; omega
              · obtain ⟨b, off, rfl, hcell⟩ := (HT4.out.below hBW.bel).at (show i < top.length by rw [HK1.out]; exact hlt)
                have hop := primesB_at HP1.out (getD_mem (show i < top.length by rw [HK1.out]; exact hlt))
                generalize top.getD i 0 = o at *
                go_wp2_with fail
                refine (s_l01Power x o m _ (by omega) (by omega) (by omega) (by omega)).mono ?_
                rintro e w9 ⟨r9, rfl, rfl⟩
                go_wp2_with fail
                go_roundw
                case rel => exact ⟨r9, i + 1, by omega, rfl, by go_num, hBW⟩
                case measure => simp [intOf]; omega
          · obtain ⟨a1, c1, a2, c2, a3, c3, x4, x2, P, hW, hO, hB⟩ := hBW.fin HG4.out (Nat.le_refl _)
            have HO := Lib.hid hO
            have HB := Lib.hid hB
            have n0 := x4.c0
            have n1 := x4.c1
            have n2 := x4.c2
            have q0 := x2.c0
            have q1 := x2.c1
            have q2 := x2.c2
            have f0 := x2.fr 0
            have f1 := x2.fr 1
            have f2 := x2.fr 2
            clear x4 x2 hO hB hBW
            go_wp2_with fail
            refine bodyPost_ret (v := .agg #[Value.slice a1 N c1, Value.slice a2 N c2, Value.slice a3 N c3]) (by simp [results, Try.results73, go_sem, q0, q1, q2]) rfl ?_
            exact ⟨N, P, hl, hW, _, _, _, rfl, HO.out, HB.out⟩
--== end
end Go.Proofs.Ytiikoappknejgaa
namespace Go.Proofs.Ytiikoappknejgaa
set_option linter.unusedVariables false
set_option linter.unusedSimpArgs false
set_option maxRecDepth 100000
open Go.RowKit

/-- v reads as n bytes -/
def RdU (w : World) (v : Value) (n : Nat) : Prop :=
  ∃ ao cap, v = .slice ao n cap ∧ n ≤ cap ∧ cap ≤ 9223372036854775807 ∧ (n = 0 ∨ ∃ b off, ao = some ⟨b, off, none⟩ ∧ ∀ j, j < n → ∃ z : Nat, z < 256 ∧ w.cell? ⟨b, off + j, none⟩ = some (.int .u8 z))
theorem RdU.below {w w' : World} {v : Value} {n B : Nat} (h : RdU w v n) (hb : Below B w w') (hB : w.heap.size ≤ B) : RdU w' v n := by
  obtain ⟨ao, cap, rfl, h1, h2, h3⟩ := h
  refine ⟨ao, cap, rfl, h1, h2, h3.imp id ?_⟩
  rintro ⟨b, off, rfl, hc⟩
  refine ⟨b, off, rfl, fun j hj => ?_⟩
  obtain ⟨z, hz, hcz⟩ := hc j hj
  exact ⟨z, hz, (hb.cell (Nat.lt_of_lt_of_le (World.block_lt_of_cell? w _ hcz) hB)).trans hcz⟩
--== the source
/-- box b is a source that reads the bytes vc -/
structure Src (w0 : World) (vc : Value) (n b : Nat) (w : World) : Prop where
  rd : RdU w0 vc n
  n9 : n ≤ 1000000
  lo : w0.heap.size ≤ b
  be : Below w0.heap.size w0 w
  box : ∃ a s : Nat, a ≤ n ∧ s < 2147483647 ∧ w.heap[b]? = some (.cells #[vc, .int .i64 a, .int .i64 s] 66 (0, 0))
theorem Src.lt {w0 w : World} {vc : Value} {n b : Nat} (h : Src w0 vc n b w) : b < w.heap.size := by
  obtain ⟨a, s, _, _, hb⟩ := h.box
  exact (Array.getElem?_eq_some_iff.1 hb).1
theorem Src.below {w0 w w' : World} {vc : Value} {n b : Nat} (h : Src w0 vc n b w) (hb : Below w.heap.size w w') : Src w0 vc n b w' := by
  refine ⟨h.rd, h.n9, h.lo, h.be.trans (hb.mono h.be.size), ?_⟩
  obtain ⟨a, s, h1, h2, h3⟩ := h.box
  exact ⟨a, s, h1, h2, (hb.block b h.lt).trans h3⟩
/-- what a number drawn leaves -/
def Nxt (w0 : World) (vc : Value) (n b : Nat) (w : World) (m : Int) (e : Ending) (w' : World) : Prop :=
  ∃ r : Int, e = .returned (.int .i64 r) ∧ 0 ≤ r ∧ (r = 0 ∨ r < m) ∧ Src w0 vc n b w' ∧ Chg b (b + 1) w w'
theorem src_set1 {w : World} {b : Nat} {v1 v2 v3 : Value} {T : TypeId} (h : w.heap[b]? = some (.cells #[v1, v2, v3] T (0, 0))) (y : Value) : (w.setCell ⟨b, 1, none⟩ y).heap[b]? = some (.cells #[v1, y, v3] T (0, 0)) := by
  have := heap_setCell_same w b 1 #[v1, v2, v3] _ y h
  simpa using this
theorem src_set2 {w : World} {b : Nat} {v1 v2 v3 : Value} {T : TypeId} (h : w.heap[b]? = some (.cells #[v1, v2, v3] T (0, 0))) (y : Value) : (w.setCell ⟨b, 2, none⟩ y).heap[b]? = some (.cells #[v1, v2, y] T (0, 0)) := by
  have := heap_setCell_same w b 2 #[v1, v2, v3] _ y h
  simpa using this
theorem chg_set (w : World) (b o : Nat) (y : Value) : Chg b (b + 1) w (w.setCell ⟨b, o, none⟩ y) :=
  ⟨rfl, rfl, rfl, Nat.le_of_eq (by simp), fun k _ hk => heap_setCell_other w ⟨b, o, none⟩ k y (by show k ≠ b; omega)⟩
theorem Chg.drew {lo hi : Nat} {w w' : World} (h : Chg lo hi w w') (k : Nat) : Chg lo hi w (w'.drewN k) := ⟨h.os, h.tape, h.output, h.size, h.block⟩
theorem Src.chg {w0 w w' : World} {vc : Value} {n b a s : Nat} (h : Src w0 vc n b w) (hc : Chg b (b + 1) w w') (ha : a ≤ n) (hs : s < 2147483647) (hb : w'.heap[b]? = some (.cells #[vc, .int .i64 a, .int .i64 s] 66 (0, 0))) : Src w0 vc n b w' :=
  ⟨h.rd, h.n9, h.lo, h.be.trans (hc.below h.lo h.be.size), a, s, ha, hs, hb⟩
theorem nxt_of {w0 w w' : World} {vc : Value} {n b a s : Nat} {m r : Int} (h : Src w0 vc n b w) (hc : Chg b (b + 1) w w') (ha : a ≤ n) (hs : s < 2147483647) (hb : w'.heap[b]? = some (.cells #[vc, .int .i64 a, .int .i64 s] 66 (0, 0)))
    (h0 : 0 ≤ r) (h1 : r < m) : Nxt w0 vc n b w m (.returned (.int .i64 r)) w' := ⟨r, rfl, h0, .inr h1, h.chg hc ha hs hb, hc⟩
theorem src_setN {w : World} {b : Nat} {v1 v2 v3 : Value} {T : TypeId} (h : w.heap[b]? = some (.cells #[v1, v2, v3] T (0, 0))) (k : Nat) : (w.setCell ⟨b, 1, none⟩ (.int .i64 ((k : Int) + 1))).heap[b]? = some (.cells #[v1, .int .i64 ((k + 1 : Nat) : Int), v3] T (0, 0)) := by
  have := src_set1 h (.int .i64 ((k : Int) + 1))
  rw [this, Int.natCast_add]; rfl
--== spec.l01Next
set_option maxHeartbeats 4000000 in
theorem s_l01Next {w0 : World} {vc : Value} {n b : Nat} (w : World) (h : Src w0 vc n b w) (m : Int) (hm1 : -1000000000000 ≤ m) (hm2 : m ≤ 1000000000000) :
    Calls Try.prog 36 #[.pointer (some ⟨b, 0, none⟩), .int .i64 m] w (Nxt w0 vc n b w m) := by
  by_cases hm : m ≤ 1
  · go_enter Try.func36, Try.ntmps36
    go_wp2
    go_ret
    exact ⟨0, rfl, Int.le_refl _, .inl rfl, h, Chg.refl _ _ _⟩
  have HS := Lib.hid h
  obtain ⟨a, s, ha, hs, hbx⟩ := h.box
  have hn9 := h.n9
  obtain ⟨t, ht, hte⟩ : ∃ t : Nat, t < 2147483647 ∧ ((s : Int) * 48271 + 71) % 2147483647 = (t : Int) := ⟨(((s : Int) * 48271 + 71) % 2147483647).toNat, by omega, by omega⟩
  obtain ⟨q, hq, hqe⟩ : ∃ q : Nat, q < 2147483647 ∧ (t : Int) / 47 = (q : Int) := ⟨((t : Int) / 47).toNat, by omega, by omega⟩
  have hr0 : (0 : Int) ≤ m := by omega
  have hrd := h.rd
  obtain ⟨ao, cap, rfl, hc1, hc2, hby⟩ := h.rd
  have hbx2 := src_set2 hbx (.int .i64 (t : Int))
  have HX := Lib.hid hbx
  have HX2 := Lib.hid hbx2
  have hC2 := chg_set w b 2 (.int .i64 (t : Int))
  have p0 : w.cell? ⟨b, 0, none⟩ = some (.slice ao n cap) := by simp [World.cell?, hbx]
  have p1 : w.cell? ⟨b, 1, none⟩ = some (.int .i64 (a : Int)) := by simp [World.cell?, hbx]
  have p2 : w.cell? ⟨b, 2, none⟩ = some (.int .i64 (s : Int)) := by simp [World.cell?, hbx]
  have f2 : w.frozen? ⟨b, 2, none⟩ = false := by simp [World.frozen?, hbx]
  have f1 : w.frozen? ⟨b, 1, none⟩ = false := by simp [World.frozen?, hbx]
  clear hbx hbx2 h
  by_cases hat : a < n
  · rcases hby with h0 | ⟨g, off, rfl, hby⟩
    · omega
    obtain ⟨z, hz, hcz0⟩ := hby a hat
    have hcz : w.cell? ⟨g, off + a, none⟩ = some (.int .u8 (z : Int)) := (HS.out.be.cell (World.block_lt_of_cell? _ _ hcz0)).trans hcz0
    have hgl := World.block_lt_of_cell? _ _ hcz0
    have hlo := HS.out.lo
    have hgb : ¬ g = b := by have : g < w0.heap.size := hgl; omega
    have hgb2 : ¬ b = g := fun e => hgb e.symm
    clear hgl hlo
    have hi1 : (0 : Int) ≤ (a : Int) := by omega
    have hi2 : (a : Int) < (n : Int) := by omega
    clear hcz0 hby hrd
    by_cases h256 : m ≤ 256
    · by_cases hpar : ((a : Int) + 1) % 2 = 0
      · go_enter Try.func36, Try.ntmps36
        go_wp2
        go_quiet (fail)
        go_wp2
        have W1 : IntKind.i64.wrap ((q : Int) + (z : Int)) = (q : Int) + z := IntWalk.i64_in _ (by omega)
        go_quiet (fail)
        clear W1
        go_wp2
        have W2 : IntKind.i64.wrap ((a : Int) + 1 - 1) = (a : Int) := by rw [IntKind.wrap_i64]; omega
        go_quiet (fail)
        clear W2
        go_wp2
        go_ret
        exact nxt_of HS.out ((((hC2.drew _).trans (chg_set _ b 1 _) (Nat.le_refl _) (Nat.le_refl _) (Nat.le_refl _) (Nat.le_refl _))).drew _) (a := a + 1) (by omega) ht (src_setN HX2.out a) (Int.emod_nonneg _ (by omega)) (Int.emod_lt_of_pos _ (by omega))
      · have hpar2 : ((((a : Int) + 1) % 2) == 0) = false := by simpa using hpar
        go_enter Try.func36, Try.ntmps36
        go_wp2
        go_quiet (fail)
        go_wp2
        have W1 : IntKind.i64.wrap ((q : Int) + (z : Int)) = (q : Int) + z := IntWalk.i64_in _ (by omega)
        go_quiet (fail)
        clear W1
        go_wp2
        go_ret
        exact nxt_of HS.out (((hC2.drew _).trans (chg_set _ b 1 _) (Nat.le_refl _) (Nat.le_refl _) (Nat.le_refl _) (Nat.le_refl _))) (a := a + 1) (by omega) ht (src_setN HX2.out a) (Int.emod_nonneg _ (by omega)) (Int.emod_lt_of_pos _ (by omega))
    · go_enter Try.func36, Try.ntmps36
      go_wp2
      go_quiet (fail)
      go_wp2
      have W1 : IntKind.i64.wrap ((q : Int) + (z : Int)) = (q : Int) + z := IntWalk.i64_in _ (by omega)
      go_quiet (fail)
      clear W1
      go_wp2
      go_ret
      exact nxt_of HS.out (((hC2.drew _).trans (chg_set _ b 1 _) (Nat.le_refl _) (Nat.le_refl _) (Nat.le_refl _) (Nat.le_refl _))) (a := a + 1) (by omega) ht (src_setN HX2.out a) (Int.emod_nonneg _ (by omega)) (Int.emod_lt_of_pos _ (by omega))
  · obtain rfl : a = n := by omega
    clear hrd hby
    go_enter Try.func36, Try.ntmps36
    go_wp2
    go_quiet (fail)
    go_wp2
    go_ret
    exact nxt_of HS.out (hC2.drew _) (a := a) (Nat.le_refl _) ht HX2.out (Int.emod_nonneg _ (by omega)) (Int.emod_lt_of_pos _ (by omega))
end Go.Proofs.Ytiikoappknejgaa
namespace Go.Proofs.Ytiikoappknejgaa
set_option linter.unusedVariables false
set_option linter.unusedSimpArgs false
set_option maxRecDepth 100000
open Go.RowKit

theorem Rd.chg1 {w w' : World} {g b n c : Nat} {xs : List Int} (h : Rd w (.slice (some ⟨g, 0, none⟩) n c) xs) (hc : Chg b (b + 1) w w') (hg : g ≠ b) : Rd w' (.slice (some ⟨g, 0, none⟩) n c) xs := by
  obtain ⟨ao, cap, he, h1, h2, h0, h3⟩ := h
  simp only [Value.slice.injEq] at he
  obtain ⟨rfl, rfl, rfl⟩ := he
  refine ⟨_, _, rfl, h1, h2, h0, h3.imp id ?_⟩
  rintro ⟨b', off, e, hcell⟩
  cases e
  refine ⟨_, _, rfl, fun j hj => ?_⟩
  have hj' := hcell j hj
  have hl := World.block_lt_of_cell? w _ hj'
  rw [← hj']
  exact World.cell?_of_block (hc.block _ hl (by show g < b ∨ b + 1 ≤ g; omega))
theorem Chg.tr {b : Nat} {w w1 w2 : World} (h : Chg b (b + 1) w w1) (k : Chg b (b + 1) w1 w2) : Chg b (b + 1) w w2 := h.trans k (Nat.le_refl _) (Nat.le_refl _) (Nat.le_refl _) (Nat.le_refl _)
theorem Chg.bel {b : Nat} {w w1 w2 : World} (h : Chg b (b + 1) w w1) (k : Below w1.heap.size w1 w2) : Chg b (b + 1) w w2 := h.tr (Chg.of_below k _ _)
theorem Chg.belB {b : Nat} {w w1 w2 : World} (h : Chg b (b + 1) w w1) (k : Below w.heap.size w1 w2) : Chg b (b + 1) w w2 :=
  ⟨k.os.trans h.os, k.tape.trans h.tape, k.output.trans h.output, Nat.le_trans h.size k.size, fun i hi hh => (k.block i hi).trans (h.block i hi hh)⟩
theorem Src.belowB {w0 w w' : World} {vc : Value} {n b B : Nat} (h : Src w0 vc n b w) (hb : Below B w w') (hB : b < B) (h0 : w0.heap.size ≤ B) : Src w0 vc n b w' := by
  refine ⟨h.rd, h.n9, h.lo, h.be.trans (hb.mono h0), ?_⟩
  obtain ⟨a, s, h1, h2, h3⟩ := h.box
  exact ⟨a, s, h1, h2, (hb.block b hB).trans h3⟩
theorem Ints.chgb {w w' : World} {B b : Nat} {v : Value} {xs : List Int} (h : Ints w B v xs) (hc : Chg b (b + 1) w w') (hb : b < B) : Ints w' B v xs := h.chg hc fun g hg => .inr (by have := (h.lt g hg).1; omega)
/-- letters that a draw may give -/
def Tiny (xs : List Int) : Prop := ∀ x ∈ xs, -1000 ≤ x ∧ x ≤ 1000
theorem Tiny.nil : Tiny [] := fun x hx => by simp at hx
theorem Tiny.snoc {xs : List Int} (h : Tiny xs) {y : Int} (hy : -1000 ≤ y ∧ y ≤ 1000) : Tiny (xs ++ [y]) := fun x hx => by
  rcases List.mem_append.1 hx with h1 | h1
  · exact h x h1
  · rw [List.mem_singleton.1 h1]; exact hy
theorem Tiny.app {xs ys : List Int} (h : Tiny xs) (h2 : Tiny ys) : Tiny (xs ++ ys) := fun x hx => by
  rcases List.mem_append.1 hx with h1 | h1
  · exact h x h1
  · exact h2 x h1
theorem Tiny.small {xs : List Int} (h : Tiny xs) : Small xs := fun x hx => by have := h x hx; omega
theorem Tiny.inv {xs : List Int} (h : Tiny xs) : Tiny (invW xs) := fun x hx => by
  unfold invW at hx
  rw [List.mem_reverse, List.mem_map] at hx
  obtain ⟨y, hy, rfl⟩ := hx
  have := h y hy
  omega
def FromP (vc : Value) (n : Nat) (w : World) (e : Ending) (w' : World) : Prop := ∃ b, e = .returned (.pointer (some ⟨b, 0, none⟩)) ∧ Src w vc n b w'
def PickP (w0 : World) (vc : Value) (n b : Nat) (w : World) (xs : List Int) (e : Ending) (w' : World) : Prop := ∃ q, q < xs.length ∧ e = .returned (.int .i64 (xs.getD q 0)) ∧ Src w0 vc n b w' ∧ Chg b (b + 1) w w'
def CntP (w0 : World) (vc : Value) (n b : Nat) (w : World) (e : Ending) (w' : World) : Prop := ∃ k : Int, e = .returned (.int .i64 k) ∧ -1 ≤ k ∧ k ≤ 7 ∧ Src w0 vc n b w' ∧ Chg b (b + 1) w w'
def LetP (w0 : World) (vc : Value) (n b : Nat) (w : World) (L : Nat) (e : Ending) (w' : World) : Prop := ∃ v xs, e = .returned v ∧ Tiny xs ∧ xs.length ≤ L ∧ Ints w' w.heap.size v xs ∧ Src w0 vc n b w' ∧ Chg b (b + 1) w w'
--== spec.l01From
set_option maxHeartbeats 2000000 in
theorem s_l01From (v : Value) (n : Nat) (w : World) (h : RdU w v n) (hn : n ≤ 1000000) : Calls Try.prog 17 #[v] w (FromP v n w) := by
  have HR := Lib.hid h
  obtain ⟨ao, cap, rfl, hc1, hc2, hby⟩ := h
  have g0 := below_alloc w (Obj.cells #[.slice ao n cap, .int .i64 0, .int .i64 76001] 66)
  have hS0 : Src w (.slice ao n cap) n w.heap.size (w.alloc (Obj.cells #[.slice ao n cap, .int .i64 0, .int .i64 76001] 66)) :=
    ⟨HR.out, hn, Nat.le_refl _, g0, 0, 76001, Nat.zero_le _, by omega, heap_alloc_new w _⟩
  have HS0 := Lib.hid hS0
  clear g0 hS0
  go_enter Try.func17, Try.ntmps17
  go_wp2_with fail
  go_loopw [4] (fun i wr => ∃ j : Nat, j ≤ n ∧ i = .int .i64 j ∧ Src w (.slice ao n cap) n w.heap.size wr) (fun i _ => n - (intOf i).toNat)
  case atStart => exact ⟨0, Nat.zero_le _, rfl, HS0.out⟩
  case round =>
    obtain ⟨j, hj, rfl, hS⟩ := hrel
    have HS := Lib.hid hS
    by_cases hlt : j < n ∧ j < 64
    · obtain ⟨h1, h2⟩ := hlt
      obtain ⟨a, s, ha, hs, hbx⟩ := hS.box
      obtain ⟨g, off, rfl, hby2⟩ := hby.resolve_left (by omega)
      obtain ⟨z, hz, hcz0⟩ := hby2 j h1
      have hcz : wr.cell? ⟨g, off + j, none⟩ = some (.int .u8 (z : Int)) := (hS.be.cell (World.block_lt_of_cell? _ _ hcz0)).trans hcz0
      obtain ⟨t, ht, hte⟩ : ∃ t : Nat, t < 2147483647 ∧ ((s : Int) * 71 + z) % 2147483647 = (t : Int) := ⟨(((s : Int) * 71 + z) % 2147483647).toNat, by omega, by omega⟩
      have hbx2 := src_set2 hbx (.int .i64 (t : Int))
      have HX2 := Lib.hid hbx2
      have hC2 := Lib.hid (chg_set wr w.heap.size 2 (.int .i64 (t : Int)))
      have p2 : wr.cell? ⟨w.heap.size, 2, none⟩ = some (.int .i64 (s : Int)) := by simp [World.cell?, hbx]
      have f2 : wr.frozen? ⟨w.heap.size, 2, none⟩ = false := by simp [World.frozen?, hbx]
      have W1 : IntKind.i64.wrap ((s : Int) * 71) = (s : Int) * 71 := IntWalk.i64_in _ (by omega)
      have W2 : IntKind.i64.wrap ((s : Int) * 71 + z) = (s : Int) * 71 + z := IntWalk.i64_in _ (by omega)
      have W3 : ((s : Int) * 71 + z).tmod 2147483647 = (t : Int) := by rw [Int.tmod_eq_emod_of_nonneg (by omega)]; exact hte
      have W4 : IntKind.i64.wrap (t : Int) = (t : Int) := IntWalk.i64_in _ (by omega)
      have W5 : IntKind.i64.wrap (z : Int) = (z : Int) := IntWalk.i64_in _ (by omega)
      have hi1 : (0 : Int) ≤ (j : Int) := by omega
      have hi2 : (j : Int) < (n : Int) := by omega
      clear hbx hbx2 hS hby hby2 hcz0 HS0
      go_wp2_with fail
      apply via
      case h =>
        go_region
        all_goals exact ⟨rfl, rfl⟩
      clear W1 W2 W3 W4 W5
      go_wp2_with fail
      go_roundw
      case rel => exact ⟨j + 1, by omega, by go_num, HS.out.chg ((hC2.out).drew 1) ha ht HX2.out⟩
      case measure => simp [intOf]; omega
    · go_wp2_with fail
      all_goals
        go_ret
        exact ⟨_, rfl, HS.out⟩
--== spec.l01Pick
set_option maxHeartbeats 1000000 in
theorem s_l01Pick {w0 : World} {vc : Value} {n b : Nat} (w : World) (h : Src w0 vc n b w) (vl : Value) (xs : List Int) (hv : Rd w vl xs) (hst : ∀ w', Chg b (b + 1) w w' → Rd w' vl xs) (hx : 0 < xs.length) (hl : xs.length ≤ 1000) :
    Calls Try.prog 51 #[.pointer (some ⟨b, 0, none⟩), vl] w (PickP w0 vc n b w xs) := by
  have HST := Lib.hid hst
  have HS := Lib.hid h
  obtain ⟨ao, cap, rfl, _, _⟩ := hv.form
  clear hst hv h
  go_enter Try.func51, Try.ntmps51
  go_wp2_with fail
  refine (s_l01Next w HS.out (xs.length : Int) (by omega) (by omega)).mono ?_
  rintro e w1 ⟨r, rfl, h0, h1, hS, hC⟩
  obtain ⟨q, rfl⟩ : ∃ q : Nat, r = (q : Int) := ⟨r.toNat, by omega⟩
  have hq : q < xs.length := by rcases h1 with h1 | h1 <;> omega
  have hrd := HST.out w1 hC
  have HSS := Lib.hid hS
  have HC := Lib.hid hC
  obtain ⟨bb, off, rfl, hcell⟩ := hrd.at hq
  clear hS hC h1 hrd
  generalize hy : xs.getD q 0 = y at *
  have HY := Lib.hid hy
  clear hy
  go_wp2_with fail
  go_ret
  exact ⟨q, hq, by rw [HY.out]; rfl, HSS.out, HC.out⟩
end Go.Proofs.Ytiikoappknejgaa
namespace Go.Proofs.Ytiikoappknejgaa
set_option linter.unusedVariables false
set_option linter.unusedSimpArgs false
set_option maxRecDepth 100000
open Go.RowKit
attribute [local go_sem ↓] Go.wp_at_zero Go.wp_at_succ

--== plain
theorem primesB_rep {q : Int} (h : primeB q = true) (j : Nat) : primesB (List.replicate j q) = true := by
  unfold primesB
  rw [List.all_eq_true]
  intro x hx
  rw [(List.mem_replicate.1 hx).2]; exact h
theorem repl_snoc (q : Int) (j : Nat) : List.replicate j q ++ [q] = List.replicate (j + 1) q := by rw [List.replicate_succ']
def affOK (n c : Nat) : Bool := decide (1 ≤ n ∧ n ≤ 12 ∧ c ≤ 6) && (primesB (facT n).2 && decide (0 < (facT n).2.length ∧ (facT n).2.length + c ≤ 6))
/-- as BW, and the presentation lies apart from the blocks of X -/
def BWX (w : World) (b2 b4 n : Nat) (X : Nat → Prop) (wx : World) : Prop :=
  ∃ P v1 v2 v3, WS n P ∧ Bx wx b2 (.slice none 0 0) (.slice none 0 0) (.slice none 0 0) ∧ Bx wx b4 v1 v2 v3 ∧ OP wx (fun k => (w.heap.size ≤ k ∧ k ≠ b2 ∧ k ≠ b4) ∧ ¬ X k) v1 v2 v3 P ∧ Below w.heap.size w wx
theorem BWX.bw {w wx : World} {b2 b4 n : Nat} {X : Nat → Prop} (h : BWX w b2 b4 n X wx) : BW w b2 b4 n wx := by
  obtain ⟨P, v1, v2, v3, hW, X2, X4, hO, hB⟩ := h
  exact ⟨P, hW, v1, v2, v3, X2, X4, OP.sub hO fun k _ hk => hk.1, hB⟩
theorem BW.apart {w wx wy : World} {b2 b4 n : Nat} (h : BW w b2 b4 n wx) (hb : Below wx.heap.size wx wy) : BWX w b2 b4 n (win wx.heap.size wy.heap.size) wy := by
  obtain ⟨P, hW, v1, v2, v3, X2, X4, hO, hB⟩ := h
  exact ⟨P, v1, v2, v3, hW, X2.below hb X2.lt, X4.below hb X4.lt, OP.sub (OP.below (OP.sub hO fun k hk hh => (⟨hh, hk⟩ : (w.heap.size ≤ k ∧ k ≠ b2 ∧ k ≠ b4) ∧ k < wx.heap.size)) hb) fun k _ hh => ⟨hh.1, fun hx => by have h1 := hx.1; have h2 := hh.2; omega⟩, below_size hB hb⟩
theorem BWX.below {w wx wy : World} {b2 b4 n : Nat} {X : Nat → Prop} (h : BWX w b2 b4 n X wx) (hb : Below wx.heap.size wx wy) : BWX w b2 b4 n X wy := by
  obtain ⟨P, v1, v2, v3, hW, X2, X4, hO, hB⟩ := h
  exact ⟨P, v1, v2, v3, hW, X2.below hb X2.lt, X4.below hb X4.lt, OP.sub (OP.below (OP.sub hO fun k hk hh => (⟨hh, hk⟩ : ((w.heap.size ≤ k ∧ k ≠ b2 ∧ k ≠ b4) ∧ ¬ X k) ∧ k < wx.heap.size)) hb) fun k _ hh => hh.1, below_size hB hb⟩
theorem BWX.cnj {w wx : World} {b2 b4 n i j : Nat} {X : Nat → Prop} (h : BWX w b2 b4 n X wx) (hX : ∀ k, X k → k < wx.heap.size) (hi : i < n) (hj : j < n - (i + 1)) :
    ∃ a1 c1 a2 c2 g c3 g2 q2, Bx wx b4 (.slice a1 n c1) (.slice a2 n c2) (.slice (some ⟨g, 0, none⟩) n c3) ∧ ∀ w3, Below wx.heap.size wx w3 → w3.cell? ⟨b4, 2, none⟩ = some (.slice (some ⟨g, 0, none⟩) n c3) ∧ w3.cell? ⟨g, i, none⟩ = some (.slice (some ⟨g2, 0, none⟩) (n - (i + 1)) q2) ∧ (∃ r, w3.cell? ⟨g2, j, none⟩ = some r) ∧ w3.frozen? ⟨g2, j, none⟩ = false ∧
      ∀ u row, row.length = n → Ints w3 wx.heap.size u row → BWX w b2 b4 n X (w3.setCell ⟨g2, j, none⟩ u) ∧ ∀ va A, O2 wx X va A → O2 (w3.setCell ⟨g2, j, none⟩ u) X va A := by
  obtain ⟨P, v1, v2, v3, hW, X2, X4, hO, hBl⟩ := h
  obtain ⟨⟨a1, c1, rfl⟩, ⟨a2, c2, rfl⟩, ⟨a3, c3, rfl⟩⟩ := hO.formsN hW.on hW.pl hW.cl
  have h0 := OP.sub (S' := fun k => ((w.heap.size ≤ k ∧ k ≠ b2 ∧ k ≠ b4) ∧ ¬ X k) ∧ k < wx.heap.size) hO fun k hk hh => ⟨hh, hk⟩
  have hrl := hW.rl i hi
  have hcl := hW.cl
  obtain ⟨g, cap, g2, cap2, e0, hcell, ⟨r, hr⟩, hfz, hSg, hSg2, hg, hg2, _⟩ := op_setCj h0 (i := i) (j := j) (by omega) (by omega) (T := fun _ => False) (y := .slice none 0 0) (d := []) (local_O1.nil _ _) (fun k hk => hk.elim)
  simp only [Value.slice.injEq] at e0
  obtain ⟨rfl, _, rfl⟩ := e0
  refine ⟨a1, c1, a2, c2, g, c3, g2, cap2, X4, fun w3 hB => ?_⟩
  have X43 := X4.below hB X4.lt
  have X23 := X2.below hB X2.lt
  have hcell3 := (hB.cell (p := ⟨g, i, none⟩) hg).trans hcell
  rw [hrl] at hcell3
  refine ⟨X43.c2, hcell3, ⟨r, (hB.cell (p := ⟨g2, j, none⟩) hg2).trans hr⟩, ((bcell hB).2 g2 j hg2).trans hfz, fun u row hl hI => ?_⟩
  have hop2 : OP w3 (fun k => ((w.heap.size ≤ k ∧ k ≠ b2 ∧ k ≠ b4) ∧ ¬ X k) ∧ k < wx.heap.size) (.slice a1 n c1) (.slice a2 n c2) (.slice (some ⟨g, 0, none⟩) n c3) P := OP.below h0 hB
  obtain ⟨g', cap', g2', cap2', e', hcell', _, _, _, _, _, _, hP⟩ := op_setCj hop2 (i := i) (j := j) (by omega) (by omega) (T := fun k => wx.heap.size ≤ k) ⟨hI.mono (Nat.zero_le _), fun g hg => (hI.lt g hg).1⟩ (fun k hk hh => by have h1 : wx.heap.size ≤ k := hk; have h2 := hh.2; omega)
  simp only [Value.slice.injEq, Option.some.injEq, Addr.mk.injEq] at e'
  obtain ⟨⟨rfl, _⟩, _, _⟩ := e'
  rw [hcell3] at hcell'
  simp only [Option.some.injEq, Value.slice.injEq, Addr.mk.injEq] at hcell'
  obtain ⟨⟨rfl, _⟩, _, _⟩ := hcell'
  have l2 := X2.lt
  have l4 := X4.lt
  have sz := hB.size
  have be := hBl.size
  refine ⟨⟨_, _, _, _, ws_stC hW hj hl, X23.other (Ne.symm hSg2.1.1.2.1) j _, X43.other (Ne.symm hSg2.1.1.2.2) j _, OP.sub hP (fun k hk hh => ?_), (below_size hBl hB).setCell (p := ⟨g2, j, none⟩) hSg2.1.1.1 _⟩, fun va A hA => ?_⟩
  · rcases hh with ⟨hh, _⟩ | hh
    · exact hh
    · have hh' : wx.heap.size ≤ k := hh
      exact ⟨⟨by omega, by omega, by omega⟩, fun hx => by have := hX k hx; omega⟩
  · have hA3 := local_O2.below hA hB
    exact local_O2.chg hA3 (ChgS.setCell w3 g2 j u) fun k hk e => hSg2.1.2 (e ▸ hk)
--== spec.l07Affine
set_option maxHeartbeats 4000000 in
theorem s_l07Affine (q : Int) (vr : Value) (L : List (List Int)) (c n : Nat) (w : World) (hq : primeB q = true) (hr : Rd2 w vr L) (hLc : L.length = c) (hrow : ∀ i, i < c → (L.getD i []).length = c) (h : affOK n c = true) :
    Calls Try.prog 75 #[.int .i64 q, vr, .int .i64 n] w (RetW w) := by
  unfold affOK at h
  rw [Bool.and_eq_true, Bool.and_eq_true, decide_eq_true_eq, decide_eq_true_eq] at h
  obtain ⟨⟨hn1, hn2, hc6⟩, hp1, hl0, hl⟩ := h
  have hq2 : 2 ≤ q ∧ q ≤ 7 := primesB_at (os := [q]) (by simp [primesB, hq]) (List.mem_singleton.2 rfl)
  obtain ⟨hqa, hqb⟩ := hq2
  obtain ⟨i0, hi, hz0, hz1, hz2⟩ := info_parts Try.info2
  have g0 := below_alloc w (Obj.cells #[Value.slice none 0 0, Value.slice none 0 0, Value.slice none 0 0] 28)
  have x0 := Bx.new w (Value.slice none 0 0) (Value.slice none 0 0) (Value.slice none 0 0)
  obtain ⟨ro, rq, rfl, _, _⟩ := hr.formN hLc
  have HLC := Lib.hid hLc
  have HROW := Lib.hid hrow
  have HRD := Lib.hid hr
  have HQ := Lib.hid hq
  clear hr hLc hrow
  go_enter Try.func75, Try.ntmps75
  go_wp2_with fail
  refine (s_l07Factors n _ (by omega) (by omega)).mono ?_
  rintro e w1 ⟨u1, rfl, hI1, hB1⟩
  have HP1 := Lib.hid hp1
  generalize (facT n).2 = top at *
  generalize decide ((facT n).1 = 1) = ok1 at *
  obtain ⟨k, hk⟩ : ∃ k, top.length = k := ⟨_, rfl⟩
  rw [hk] at hl0 hl
  obtain ⟨a1, q1, rfl, _, _⟩ := hI1.rd.formN hk
  have g1 := below_size g0 hB1
  have x1 := x0.below hB1 (by simp)
  have HT1 := Lib.hid hI1.rd
  have HK1 := Lib.hid hk
  have hlt1 := x1.lt
  clear g0 x0 hI1 hB1 hk
  go_wp2_with fail
  refine (s_l01Own _ top _ HT1.out (by rw [HK1.out]; omega)).mono ?_
  rintro e w2 ⟨u2, rfl, hI2, hB2⟩
  have hI2' : Ints w2 w1.heap.size u2 (top ++ List.replicate 0 q) := by simpa using hI2
  go_wp2_with fail
  go_loopw [9, 10] (fun u i wr => ∃ j : Nat, j ≤ c ∧ i = .int .i64 j ∧ Ints wr w1.heap.size u (top ++ List.replicate j q) ∧ Below w1.heap.size w1 wr) (fun _ i _ => c - (intOf i).toNat)
  case atStart => exact ⟨0, Nat.zero_le _, rfl, hI2', hB2⟩
  case round =>
    clear hI2 hI2' hB2
    obtain ⟨j, hj, rfl, hI, hB⟩ := hrel
    have hS := hB.size
    by_cases hlt : j < c
    · have hlen : (top ++ List.replicate j q).length ≤ 1000000000 := by rw [List.length_append, HK1.out, List.length_replicate]; omega
      have HR := Lib.hid (repl_snoc q j)
      go_wp2_with (at_builtin; refine wp_app1 _ rfl _ _ rfl w1.heap.size i0 Try.underlying24 hi hz0 hz1 hz2 _ _ rfl hI q rfl hlen hS ?_)
      intro v' w3 hI3 hG3 hB3
      have hI3 : Ints w3 w1.heap.size v' (top ++ List.replicate (j + 1) q) := by rw [← HR.out]; exact hI3
      have hB4 := hB.trans hB3
      clear hI hB hG3 hB3
      go_wp2_with fail
      go_roundw
      case rel => exact ⟨j + 1, by omega, by go_num, hI3, hB4⟩
      case measure => simp [intOf]; omega
    · obtain rfl : j = c := by omega
      obtain ⟨w4, hw4⟩ : ∃ x, x = wr := ⟨_, rfl⟩
      subst hw4
      have hos : (top ++ List.replicate j q).length = k + j := by rw [List.length_append, HK1.out, List.length_replicate]
      have HPR : Hid (primesB (top ++ List.replicate j q) = true) := primesB_app HP1.out (primesB_rep HQ.out j)
      generalize top ++ List.replicate j q = os at *
      obtain ⟨N, hN⟩ : ∃ N, N = k + j := ⟨_, rfl⟩
      rw [← hN] at hos hl
      have HN := Lib.hid hN
      have hkN : k ≤ N := by omega
      clear hN hj hlt
      obtain ⟨a4, q4, rfl, _, _⟩ := hI.rd.formN hos
      have HR4 := Lib.hid hI.rd
      have HT4 := Lib.hid (HT1.out.below hB)
      have HOS := Lib.hid hos
      have g4 := below_size g1 hB
      have x4 := x1.below hB hlt1
      have HRD4 := Lib.hid (HRD.out.below g4)
      clear hI hB g1 x1
      go_wp2_with fail
      refine (s_l07Trivial _ os _ HR4.out (by rw [HOS.out]; omega)).mono ?_
      rintro e w5 ⟨v1, v2, v3, rfl, hP5, hB5⟩
      obtain ⟨⟨b1, c1, rfl⟩, ⟨b2, c2, rfl⟩, ⟨b3, c3, rfl⟩⟩ := hP5.formsN (n1 := N) (n2 := N) (n3 := N) HOS.out ((ws_triv HPR.out).pl.trans HOS.out) ((ws_triv HPR.out).cl.trans HOS.out)
      have x5 := x4.below hB5 x4.lt
      have HG4 := Lib.hid g4
      have hBW := BW.mk x5 hP5 HPR.out x4.lt hB5
      rw [HOS.out] at hBW
      clear x5 hP5 hB5 x4 g4
      have HU : Hid (∀ j : Nat, j + 1 < N → ∀ wx, Calls Try.prog 78 #[.int .i64 N, .int .i64 ((j : Int) + 1)] wx (RetN wx N)) := fun j hj wx => by
        have := s_l07Unit N (j + 1) wx (by omega) (by omega)
        rw [show (((j + 1 : Nat)) : Int) = (j : Int) + 1 by omega] at this
        exact this.mono fun e w' ⟨v, h1, h2, h3⟩ => ⟨v, _, h1, unitL_length _ _, h2, h3⟩
      go_wp2_with fail
      generalize w5.alloc (Obj.cells #[Value.slice b1 N c1, Value.slice b2 N c2, Value.slice b3 N c3] 28) = w6 at *
      generalize w5.heap.size = b4 at *
      go_loopw [13] (fun i wr' => ∃ j : Nat, j < N ∧ i = .int .i64 j ∧ BW w4 w.heap.size b4 N wr') (fun i _ => N - (intOf i).toNat)
      case atStart => exact ⟨0, by omega, rfl, hBW⟩
      case round =>
        clear hBW
        obtain ⟨j', hj', rfl, hBW⟩ := hrel
        by_cases hlt : j' + 1 < k
        · obtain ⟨a7, c7, g7, c8, a9, c9, x4, hset⟩ := hBW.pow hj'
          have HSET := Lib.hid hset
          have m1 := x4.c1
          have hj0 : (0 : Int) ≤ (j' : Int) := by omega
          have hj1 : (j' : Int) < (N : Int) := by omega
          have W1 : IntKind.i64.wrap ((j' : Int) + 1) = (j' : Int) + 1 := IntWalk.i64_in _ (by omega)
          have hju := HU.out j' (by omega)
          clear hset hBW x4
          go_wp2_with fail
          go_region_law (go_simp; go_at_call 78; go_must (refine (hju _).mono ?_); rintro e w3 ⟨u3, ys, rfl, hys, hI3, hB3⟩; obtain ⟨hm1, ⟨r3, hr3⟩, hf3, hs3⟩ := HSET.out w3 (below_size (Below.refl _ _).drew hB3); obtain ⟨a9, c9, rfl, _, _⟩ := hI3.rd.formN hys; have hq := Lib.hid (hs3 _ _ hys hI3))
          all_goals
            go_wp2_with fail
            go_roundw
            case rel => exact ⟨j' + 1, by omega, by go_num, hq.out⟩
            case measure => simp [intOf]; omega
        · go_wp2_with fail
          refine (s_l01Own2 _ L _ (HRD4.out.below hBW.bel) (by rw [HLC.out]; omega) (fun i hi => by rw [HROW.out i (by rw [HLC.out] at hi; exact hi)]; omega)).mono ?_
          rintro e w7 ⟨u7, rfl, hO7, hB7⟩
          have hX := hBW.apart hB7
          clear hBW hB7 hlt hj'
          go_wp2_with fail
          go_loopw [14, 15] (fun u i wr => ∃ (i' : Nat) (A : List (List Int)) (X : Nat → Prop), i' ≤ k ∧ i = .int .i64 i' ∧ A.length = j ∧ (∀ t, t < j → (A.getD t []).length = j) ∧ O2 wr X u A ∧ (∀ b, X b → b < wr.heap.size) ∧ BWX w4 w.heap.size b4 N X wr) (fun _ i _ => k - (intOf i).toNat)
          case atStart => exact ⟨0, L, _, Nat.zero_le _, rfl, HLC.out, HROW.out, hO7, fun b hb => hb.2, hX⟩
          case round =>
            clear hO7 hX
            obtain ⟨i', A, X, hik, rfl, hA, hAr, hO, hXb, hB⟩ := hrel
            obtain ⟨ua, uc, rfl, _, _⟩ := hO.rd.formN hA
            have HA := Lib.hid hA
            have HAr := Lib.hid hAr
            clear hA hAr
            by_cases hlt : i' < k
            · go_wp2_with fail
              go_loopw [16] (fun t wr => ∃ t' : Nat, t' ≤ j ∧ t = .int .i64 t' ∧ O2 wr X (.slice ua j uc) A ∧ (∀ b, X b → b < wr.heap.size) ∧ BWX w4 w.heap.size b4 N X wr) (fun t _ => j - (intOf t).toNat)
              case atStart => exact ⟨0, Nat.zero_le _, rfl, hO, hXb, hB⟩
              case round =>
                clear hO hXb hB
                obtain ⟨t', ht, rfl, hO, hXb, hB⟩ := hrel
                by_cases hlt2 : t' < j
                · obtain ⟨a7, c7, a8, c8, g7, c9, g8, q8, x4, hset⟩ := hB.cnj hXb (i := i') (j := k + t' - i' - 1) (by omega) (by have := HN.out; omega)
                  obtain ⟨M, hM⟩ : ∃ M, N - (i' + 1) = M := ⟨_, rfl⟩
                  obtain ⟨d, hd⟩ : ∃ d, k + t' - i' - 1 = d := ⟨_, rfl⟩
                  rw [hM, hd] at hset
                  have HSET := Lib.hid hset
                  obtain ⟨m2, m3, _, _, _⟩ := hset _ (Below.refl _ _)
                  obtain ⟨ba, oa, ra, ea, hca, hra⟩ := hO.rd.at (show t' < A.length by rw [HA.out]; exact hlt2)
                  subst ea
                  obtain ⟨ar, cr, rfl, _, _⟩ := hra.formN (HAr.out t' hlt2)
                  have HSH : Hid (∀ wx, Below wr.heap.size wr wx → Calls Try.prog 77 #[.int .i64 k, .slice ar j cr, .int .i64 0] wx (RetN wx N)) := fun wx hb => (s_shB _ (A.getD t' []) k wx (hra.below hb) (by omega) (by rw [HAr.out t' hlt2]; omega)).mono fun e w' ⟨v, h1, h2, h3⟩ => ⟨v, _, h1, by rw [padL_len, HAr.out t' hlt2, HN.out]; rfl, h2, h3⟩
                  have W0 : IntKind.i64.wrap ((k : Int) + (t' : Int)) = (k : Int) + (t' : Int) := IntWalk.i64_in _ (by omega)
                  have W2 : IntKind.i64.wrap ((k : Int) + (t' : Int) - (i' : Int)) = (k : Int) + (t' : Int) - (i' : Int) := IntWalk.i64_in _ (by omega)
                  have W3 : IntKind.i64.wrap ((k : Int) + (t' : Int) - (i' : Int) - 1) = (k : Int) + (t' : Int) - (i' : Int) - 1 := IntWalk.i64_in _ (by omega)
                  have T3 : ((k : Int) + (t' : Int) - (i' : Int) - 1).toNat = d := by omega
                  have hNN := HN.out
                  have L1 : (0 : Int) ≤ (k : Int) + (t' : Int) - (i' : Int) - 1 := by omega
                  have L2 : (k : Int) + (t' : Int) - (i' : Int) - 1 < (M : Int) := by omega
                  have L3 : (i' : Int) < (N : Int) := by omega
                  have L4 : (0 : Int) ≤ (i' : Int) := by omega
                  have L5 : (1 : Int) ≤ (k : Int) + (t' : Int) - (i' : Int) := by omega
                  have L6 : (t' : Int) < (j : Int) := by omega
                  have L7 : (0 : Int) ≤ (t' : Int) := by omega
                  have HXB := Lib.hid hXb
                  have HO := Lib.hid hO
                  clear hset hB x4 hM hd hNN hra hO hXb
                  go_wp2_with fail
                  go_region_law (go_simp; go_at_call 77; go_must (refine (HSH.out _ (Below.refl _ _).drew).mono ?_); rintro e w3 ⟨u3, ys, rfl, hys, hI3, hB3⟩; obtain ⟨hm1, hm2, ⟨r3, hr3⟩, hf3, hs3⟩ := HSET.out w3 (below_size (Below.refl _ _).drew hB3); obtain ⟨a9, c9, rfl, _, _⟩ := hI3.rd.formN hys; have hq := Lib.hid (hs3 _ _ hys hI3); have hz := hB3.size)
                  all_goals
                    go_wp2_with fail
                    go_roundw
                    case rel => exact ⟨t' + 1, by omega, by go_num, hq.out.2 _ _ HO.out, fun b hb => Nat.lt_of_lt_of_le (HXB.out b hb) (by simpa using hz), hq.out.1⟩
                    case measure => simp [intOf]; omega
                · have hB0 : Rd2 wr (.slice ua j uc) A := hO.rd
                  have hbel := hB.bw.bel
                  obtain ⟨wo, hwo⟩ : ∃ x, x = wr := ⟨_, rfl⟩
                  subst hwo
                  have HB0 := Lib.hid hB0
                  obtain ⟨o, ho⟩ : ∃ o, o = top.getD i' 0 := ⟨_, rfl⟩
                  have hop := primesB_at HP1.out (getD_mem (show i' < top.length by rw [HK1.out]; exact hlt))
                  have HTO : Hid (∀ wx, Below w4.heap.size w4 wx → ∃ b off, a1 = some ⟨b, off, none⟩ ∧ wx.cell? ⟨b, off + i', none⟩ = some (.int .i64 o)) := fun wx hb => by
                    have := (HT4.out.below hb).at (show i' < top.length by rw [HK1.out]; exact hlt)
                    rw [← ho] at this; exact this
                  rw [← ho] at hop
                  obtain ⟨ho1, ho2⟩ := hop
                  clear ho hB0
                  have HMU : Hid (∀ (va : Value) (D : List (List Int)) wx, Below wo.heap.size wo wx → Rd2 wx va D → D.length = j → (∀ t, t < j → (D.getD t []).length = j) → Calls Try.prog 82 #[.int .i64 q, va, .slice ua j uc, .int .i64 j] wx (RetNN wx j j)) := fun va D wx hb hd h1 h2 =>
                    s_l02Product q va _ D A j wx hqa (by omega) hd (HB0.out.below hb) h1 HA.out h2 HAr.out (by omega)
                  go_wp2_with fail
                  go_loopw [14, 18] (fun u t wr => ∃ (t' : Int) (D : List (List Int)) (Y : Nat → Prop), 1 ≤ t' ∧ t' ≤ 10 ∧ t = .int .i64 t' ∧ D.length = j ∧ (∀ t, t < j → (D.getD t []).length = j) ∧ O2 wr Y u D ∧ (∀ b, Y b → b < wr.heap.size) ∧ BWX w4 w.heap.size b4 N Y wr ∧ Below wo.heap.size wo wr) (fun _ t _ => (o - intOf t).toNat)
                  case atStart => exact ⟨1, A, X, by omega, by omega, rfl, HA.out, HAr.out, hO, hXb, hB, Below.refl _ _⟩
                  case round =>
                    clear hO hXb hB hbel
                    obtain ⟨t2, D, Y, ht1, ht2, rfl, hD, hDr, hO, hYb, hB, hbo⟩ := hrel
                    obtain ⟨b, off, rfl, hct⟩ := HTO.out wr hB.bw.bel
                    obtain ⟨va, vc, rfl, _, _⟩ := hO.rd.formN hD
                    have HD := Lib.hid hD
                    have HDr := Lib.hid hDr
                    have hi1 : (i' : Int) < (k : Int) := by omega
                    have hi2 : (0 : Int) ≤ (i' : Int) := by omega
                    clear hD hDr
                    by_cases hlt3 : t2 < o
                    · go_wp2_with fail
                      refine (HMU.out _ D _ hbo hO.rd HD.out HDr.out).mono ?_
                      rintro e w9 ⟨D9, hd1, hd2, v9, rfl, hO9, hB9⟩
                      have hX9 := hB.bw.apart hB9
                      have hb9 := below_size hbo hB9
                      have HD1 := Lib.hid hd1
                      have HD2 := Lib.hid hd2
                      clear hd1 hd2
                      go_wp2_with fail
                      go_roundw
                      case rel => exact ⟨t2 + 1, D9, _, by omega, by omega, by go_num, HD1.out, HD2.out, hO9, fun b hb => hb.2, hX9, hb9⟩
                      case measure => simp [intOf]; omega
                    · go_wp2_with fail
                      go_roundw
                      case rel => exact ⟨i' + 1, D, Y, by omega, by go_num, HD.out, HDr.out, hO, hYb, hB⟩
                      case measure => simp [intOf]; omega
            · obtain ⟨a1, c1, a2, c2, a3, c3, x4, x2, P, hW, hO, hB⟩ := hB.bw.fin HG4.out (Nat.le_refl _)
              have HO := Lib.hid hO
              have HB := Lib.hid hB
              have n0 := x4.c0
              have n1 := x4.c1
              have n2 := x4.c2
              have q0 := x2.c0
              have q1 := x2.c1
              have q2 := x2.c2
              have f0 := x2.fr 0
              have f1 := x2.fr 1
              have f2 := x2.fr 2
              clear x4 x2 hO hB
              go_wp2_with fail
              refine bodyPost_ret (v := .agg #[Value.slice a1 N c1, Value.slice a2 N c2, Value.slice a3 N c3]) (by simp [results, Try.results75, go_sem, q0, q1, q2]) rfl ?_
              exact ⟨N, P, hl, hW, _, _, _, rfl, HO.out, HB.out⟩
--== end
end Go.Proofs.Ytiikoappknejgaa
namespace Go.Proofs.Ytiikoappknejgaa
set_option linter.unusedVariables false
set_option linter.unusedSimpArgs false
set_option maxRecDepth 100000
open Go.RowKit Go.PlainAid
attribute [local go_sem ↓] Go.wp_at_zero Go.wp_at_succ

theorem op_two {w : World} {A B : Nat → Prop} {u1 u2 : Value} {os : List Int} {L : List (List Int)} (h1 : O1 w A u1 os) (h2 : O2 w B u2 L) (hd : ∀ k, A k → ¬ B k) : OP w (fun k => A k ∨ B k) u1 u2 (.slice none 0 0) ⟨os, L, []⟩ :=
  ⟨A, B, fun _ => False, h1, h2, local_O3.nil _ _, fun _ => .inl, fun _ => .inr, fun _ h => h.elim, hd, fun _ _ h => h, fun _ _ h => h⟩
/-- the first conjugates' rows alone -/
def cnjTo (p : Pres) (i : Nat) : Pres := ⟨p.orders, p.powers, p.conj.take i⟩
theorem cnjTo_zero (p : Pres) : cnjTo p 0 = ⟨p.orders, p.powers, []⟩ := rfl
theorem cnjTo_succ (p : Pres) {i : Nat} (h : i < p.conj.length) : cnjTo p (i + 1) = ⟨(cnjTo p i).orders, (cnjTo p i).powers, (cnjTo p i).conj ++ [p.conj.getD i []]⟩ := by
  unfold cnjTo
  congr 1
  show p.conj.take (i + 1) = p.conj.take i ++ [p.conj.getD i []]
  rw [List.take_succ_eq_append_getElem h, List.getD, List.getElem?_eq_getElem h]; rfl
theorem cnjTo_all (p : Pres) : cnjTo p p.conj.length = p := by
  unfold cnjTo
  rw [List.take_length]
--== spec.l07Own
set_option maxHeartbeats 8000000 in
theorem s_l07Own {n : Nat} {p : Pres} (hW : WS n p) (hn : n ≤ 6) (v1 v2 v3 : Value) (w : World) (hp : RdP w v1 v2 v3 p) :
    Calls Try.prog 59 #[.agg #[v1, v2, v3]] w (RetP w p) := by
  obtain ⟨R1, R2, R3⟩ := hp
  obtain ⟨ao1, aq1, rfl, _, _⟩ := R1.formN hW.on
  obtain ⟨ao2, aq2, rfl, _, _⟩ := R2.formN hW.pl
  obtain ⟨ao3, aq3, rfl, _, _⟩ := R3.formN hW.cl
  have g2 := below_alloc w (Obj.cells #[Value.slice ao1 n aq1, Value.slice ao2 n aq2, Value.slice ao3 n aq3] 28)
  have HXA := Bx.new w (Value.slice ao1 n aq1) (Value.slice ao2 n aq2) (Value.slice ao3 n aq3)
  have z2 : (w.alloc (Obj.cells #[Value.slice ao1 n aq1, Value.slice ao2 n aq2, Value.slice ao3 n aq3] 28)).heap.size = w.heap.size + 1 := by simp
  have HRA1 := Lib.hid (R1.below g2)
  have HRA2 := Lib.hid (R2.below g2)
  have HRA3 := Lib.hid (R3.below g2)
  have HWS := Lib.hid hW
  clear R1 R2 R3 hW
  have HG2 := Lib.hid g2
  clear g2
  go_enter Try.func59, Try.ntmps59
  go_wp2_with fail
  generalize w.alloc (Obj.cells #[Value.slice ao1 n aq1, Value.slice ao2 n aq2, Value.slice ao3 n aq3] 28) = w2 at *
  rw [← z2]
  have HZ2 : Hid (w.heap.size ≤ w2.heap.size) := by show _ ≤ _; omega
  obtain ⟨pa, hpa⟩ : ∃ x, x = w.heap.size := ⟨_, rfl⟩
  rw [← hpa] at HXA ⊢
  clear hpa
  have g0 := below_alloc w2 (Obj.cells #[Value.slice none 0 0, Value.slice none 0 0, Value.slice none 0 0] 28)
  have x0 := Bx.new w2 (Value.slice none 0 0) (Value.slice none 0 0) (Value.slice none 0 0)
  have z0 : (w2.alloc (Obj.cells #[Value.slice none 0 0, Value.slice none 0 0, Value.slice none 0 0] 28)).heap.size = w2.heap.size + 1 := by simp
  have ca1 := HXA.c0
  have ca2 := HXA.c1
  have CA3 := Lib.hid HXA.c2
  have ea1 := below_cells g0 _ _ ca1
  have ea2 := below_cells g0 _ _ ca2
  have HG := Lib.hid g0
  have HX := Lib.hid x0
  have HZ := Lib.hid z0
  have KEEP : Hid (∀ wx, Below w2.heap.size w2 wx → wx.cell? ⟨pa, 0, none⟩ = some (.slice ao1 n aq1) ∧ wx.cell? ⟨pa, 1, none⟩ = some (.slice ao2 n aq2)) := fun wx hb => ⟨below_cells hb _ _ ca1, below_cells hb _ _ ca2⟩
  clear g0 x0 z0 z2
  go_upto_region 1 with (fail)
  go_cut [3] (fun v wx => ∃ b4, v = .pointer (some ⟨b4, 0, none⟩) ∧ w2.heap.size < b4 ∧ BInv w2 w2.heap.size b4 (cnjTo p 0) wx)
  case first =>
    have L2 := Lib.hid (ballocD HG.out (Obj.cells #[Value.slice none 0 0, Value.slice none 0 0, Value.slice none 0 0] 28))
    have Y2 : Hid (Bx ((w2.alloc (Obj.cells #[Value.slice none 0 0, Value.slice none 0 0, Value.slice none 0 0] 28)).alloc (Obj.cells #[Value.slice none 0 0, Value.slice none 0 0, Value.slice none 0 0] 28)) (w2.heap.size + 1) (.slice none 0 0) (.slice none 0 0) (.slice none 0 0)) := by
      have := Bx.new (w2.alloc (Obj.cells #[Value.slice none 0 0, Value.slice none 0 0, Value.slice none 0 0] 28)) (Value.slice none 0 0) (Value.slice none 0 0) (Value.slice none 0 0)
      rw [HZ.out] at this
      exact this
    have HLO : Hid (p.orders.length ≤ 100) := by show _ ≤ _; rw [HWS.out.on]; omega
    have HLP : Hid (p.powers.length ≤ 1000000 ∧ ∀ i, i < p.powers.length → (p.powers.getD i []).length ≤ 1000) := ⟨by rw [HWS.out.pl]; omega, fun i hi => by rw [HWS.out.pl] at hi; rw [HWS.out.pv i hi]; omega⟩
    go_region_held3 (fun wx => wx.cell? ⟨pa, 0, none⟩ = some (.slice ao1 n aq1) ∧ wx.cell? ⟨pa, 1, none⟩ = some (.slice ao2 n aq2))
      (first
        | exact KEEP.out _ HG.out.drew
        | exact KEEP.out _ (ballocD HG.out _).drew
        | exact KEEP.out _ hW3
        | exact KEEP.out _ (ballocD hW3 _)
        | exact KEEP.out _ hW4
        | exact KEEP.out _ (ballocD hW4 _)
        | exact KEEP.out _ (set3 hW4 (by omega) _ _ _))
      (first
        | ((go_at_call 52); (with_reducible refine (s_l01Own _ p.orders (w2.alloc (Obj.cells #[Value.slice none 0 0, Value.slice none 0 0, Value.slice none 0 0] 28)).drew (HRA1.out.below HG.out.drew) (by have := HLO.out; omega)).mono ?_); (rintro e w3 ⟨u3, rfl, hI3, hB3⟩); (have hW3 := below_size HG.out.drew hB3); (have X23 := ((HX.out).drew).below hB3 ((HX.out).drew).lt))
        | ((go_at_call 52); (with_reducible refine (s_l01Own _ p.orders ((w2.alloc (Obj.cells #[Value.slice none 0 0, Value.slice none 0 0, Value.slice none 0 0] 28)).alloc (Obj.cells #[Value.slice none 0 0, Value.slice none 0 0, Value.slice none 0 0] 28)).drew (HRA1.out.below (ballocD HG.out _).drew) (by have := HLO.out; omega)).mono ?_); (rintro e w3 ⟨u3, rfl, hI3, hB3⟩); (have hW3 := below_size (ballocD HG.out _).drew hB3); (have X23 := ((HX.out.old (Obj.cells #[Value.slice none 0 0, Value.slice none 0 0, Value.slice none 0 0] 28)).drew).below hB3 ((HX.out.old (Obj.cells #[Value.slice none 0 0, Value.slice none 0 0, Value.slice none 0 0] 28)).drew).lt); (have X43 := (Y2.out.drew).below hB3 (Y2.out.drew).lt))
        | ((go_at_call 68); (with_reducible refine (s_l01Own2 _ p.powers w3 (HRA2.out.below hW3) HLP.out.1 HLP.out.2).mono ?_); (rintro e w4 ⟨u4, rfl, hO4, hB4⟩); (obtain ⟨a3, c3, rfl, _, _⟩ := hI3.rd.formN HWS.out.on); (obtain ⟨a4, c4, rfl, _, _⟩ := hO4.formN HWS.out.pl); (have hW4 := below_size hW3 hB4); (have X24 := X23.below hB4 X23.lt); (have X44 := X43.below hB4 X43.lt); (have P4 := op_two (local_O1.below hI3.o1 hB4) hO4 (fun k hk hk2 => by have := hk.2; have := hk2.1; omega)); (have m0 := X44.c0); (have m1 := X44.c1); (have m2 := X44.c2); (have z0 := X44.fr 0); (have z1 := X44.fr 1); (have z2 := X44.fr 2); (have hl4 := X44.lt); (have hl2 := X24.lt); (have hle := hB3.size); (have hl3 := X43.lt))
        | ((go_at_call 68); (with_reducible refine (s_l01Own2 _ p.powers w3 (HRA2.out.below hW3) HLP.out.1 HLP.out.2).mono ?_); (rintro e w4 ⟨u4, rfl, hO4, hB4⟩); (obtain ⟨a3, c3, rfl, _, _⟩ := hI3.rd.formN HWS.out.on); (obtain ⟨a4, c4, rfl, _, _⟩ := hO4.formN HWS.out.pl); (have hW4 := below_size hW3 hB4); (have X24 := X23.below hB4 X23.lt); (have P4 := op_two (local_O1.below hI3.o1 hB4) hO4 (fun k hk hk2 => by have := hk.2; have := hk2.1; omega)); (have hl2 := X24.lt); (have hle := hB3.size))
        | ((go_at_call 68); (with_reducible refine (s_l01Own2 _ p.powers (w3.alloc (Obj.cells #[Value.slice none 0 0, Value.slice none 0 0, Value.slice none 0 0] 28)) (HRA2.out.below (ballocD hW3 _)) HLP.out.1 HLP.out.2).mono ?_); (rintro e w4 ⟨u4, rfl, hO4, hB4⟩); (obtain ⟨a3, c3, rfl, _, _⟩ := hI3.rd.formN HWS.out.on); (obtain ⟨a4, c4, rfl, _, _⟩ := hO4.formN HWS.out.pl); (have hW4 := below_size (ballocD hW3 (Obj.cells #[Value.slice none 0 0, Value.slice none 0 0, Value.slice none 0 0] 28)) hB4); (have X24 := (X23.old (Obj.cells #[Value.slice none 0 0, Value.slice none 0 0, Value.slice none 0 0] 28)).below hB4 (X23.old (Obj.cells #[Value.slice none 0 0, Value.slice none 0 0, Value.slice none 0 0] 28)).lt); (have X44 := (Bx.new w3 (.slice none 0 0) (.slice none 0 0) (.slice none 0 0)).below hB4 (Bx.new w3 _ _ _).lt); (have hal : w3.heap.size < (w3.alloc (Obj.cells #[Value.slice none 0 0, Value.slice none 0 0, Value.slice none 0 0] 28)).heap.size := by simp); (have P4 := op_two (local_O1.below (local_O1.below hI3.o1 (below_alloc w3 (Obj.cells #[Value.slice none 0 0, Value.slice none 0 0, Value.slice none 0 0] 28))) hB4) hO4 (fun k hk hk2 => by have := hk.2; have := hk2.1; omega)); (have m0 := X44.c0); (have m1 := X44.c1); (have m2 := X44.c2); (have z0 := X44.fr 0); (have z1 := X44.fr 1); (have z2 := X44.fr 2); (have hl4 := X44.lt); (have hl2 := X24.lt); (have hle := hB3.size); (have hl3 := X23.lt)))
    all_goals
      have HZD : ((w2.alloc (Obj.cells #[Value.slice none 0 0, Value.slice none 0 0, Value.slice none 0 0] 28)).drew).heap.size = w2.heap.size + 1 := HZ.out
      have HZF : (((w2.alloc (Obj.cells #[Value.slice none 0 0, Value.slice none 0 0, Value.slice none 0 0] 28)).alloc (Obj.cells #[Value.slice none 0 0, Value.slice none 0 0, Value.slice none 0 0] 28)).drew).heap.size = w2.heap.size + 1 + 1 := by show ((w2.alloc (Obj.cells #[Value.slice none 0 0, Value.slice none 0 0, Value.slice none 0 0] 28)).alloc (Obj.cells #[Value.slice none 0 0, Value.slice none 0 0, Value.slice none 0 0] 28)).heap.size = _; simp
      go_wp2_with fail
      go_meet
      first
        | exact ⟨_, rfl, by omega, BInv.mk2 X24 P4 (fun k hk => by rcases hk with hk | hk <;> (have h1 := hk.1; have h2 := hk.2; exact ⟨by omega, by omega⟩)) hW4⟩
        | exact ⟨_, rfl, by omega, BInv.mk1 (w := w2) X24 X44 P4 (fun k hk => by rcases hk with hk | hk <;> (have h1 := hk.1; have h2 := hk.2; exact ⟨by omega, by omega, by omega⟩)) hW4 (by omega) (by omega)⟩
  case rest =>
    obtain ⟨b4, rfl, hb4, hI⟩ := hcut
    have hb4' := hb4
    have d3 := below_cells hI.bel _ _ CA3.out
    clear ea1 ea2 ca1 ca2 HXA
    go_wp2_with fail
    go_loopw [4] (fun i wr => ∃ j : Nat, j ≤ n ∧ i = .int .i64 j ∧ BInv w2 w2.heap.size b4 (cnjTo p j) wr) (fun i _ => n - (intOf i).toNat)
    case atStart => exact ⟨0, Nat.zero_le _, rfl, hI⟩
    case round =>
      clear hI d3
      obtain ⟨j, hj, rfl, hI⟩ := hrel
      have HCL : Hid ((cnjTo p j).conj.length = j) := by show (p.conj.take j).length = j; rw [List.length_take, HWS.out.cl]; omega
      have d3 := below_cells hI.bel _ _ CA3.out
      obtain ⟨p1, o1, p2, c2, p3, c3, hBO⟩ := hI.open (n2 := n) (n3 := j) HWS.out.pl HCL.out
      have m0 := hBO.x4.c0
      have m1 := hBO.x4.c1
      have m2 := hBO.x4.c2
      have hl4 := hBO.x4.lt
      have HBO := Lib.hid hBO
      have HW := Lib.hid hBO.be
      by_cases hlt : j < n
      · have HS := Lib.hid (cnjTo_succ p (i := j) (by rw [HWS.out.cl]; exact hlt))
        obtain ⟨bc, oc, rc, ec, hcc0, hrc0⟩ := HRA3.out.at (show j < p.conj.length by rw [HWS.out.cl]; exact hlt)
        have hcc := below_cells HW.out _ _ hcc0
        have HRC := Lib.hid hrc0
        have HLR : Hid ((p.conj.getD j []).length = n - (j + 1) ∧ ∀ k, k < (p.conj.getD j []).length → ((p.conj.getD j []).getD k []).length = n) := ⟨HWS.out.rl j hlt, fun k hk => HWS.out.cv j k hlt (by rw [HWS.out.rl j hlt] at hk; exact hk)⟩
        subst ec
        generalize cnjTo p j = Q at *
        generalize p.conj.getD j [] = L at *
        obtain ⟨ac, cc, rfl, _, _⟩ := HRC.out.formN HLR.out.1
        clear hI hBO hcc0 hrc0
        go_wp2_with fail
        go_region_law (first
          | (go_simp; go_at_call 68; go_must (refine (s_l01Own2 _ L _ (HRC.out.below HW.out.drew) (by rw [HLR.out.1]; omega) (fun k hk => by rw [HLR.out.2 k hk]; omega)).mono ?_); rintro e w3 ⟨u3, rfl, hI3, hB3⟩; obtain ⟨a9, c9, rfl, _, _⟩ := hI3.formN HLR.out.1; have hB4 := below_size (Below.refl _ _).drew hB3; obtain ⟨a', c', w4, hr, hq0, hq1, hq2, hq3⟩ := HBO.out.grow_conj (Nat.le_refl _) (by omega) (by omega) 26 hB4 hI3 rfl (by omega); have hm2 := (HBO.out.below hB4).x4.c2; have hl4 := (HBO.out.below hB4).x4.lt; clear hB4 hI3 hB3)
          | (refine step_of_run rfl (.tmp 20) (.tmp 27) 26 rfl _ _ (by simp [Act.eval, Act.put]) (by simp [Act.eval, Act.put]) _ _ hr ?_))
        all_goals
          have HQ3 := Lib.hid hq3
          clear hq3
          go_wp2_with fail
          go_roundw
          case rel => exact ⟨j + 1, by omega, by go_num, by rw [HS.out]; exact HQ3.out⟩
          case measure => simp [intOf]; omega
      · obtain rfl : j = n := by omega
        have hall : cnjTo p j = p := by have := cnjTo_all p; rw [HWS.out.cl] at this; exact this
        have HF := Lib.hid (hBO.out (Nat.le_refl _))
        rw [hall] at HF m0
        rw [HWS.out.on] at HF m0
        have q0 := hBO.x2.c0
        have q1 := hBO.x2.c1
        have q2 := hBO.x2.c2
        have f0 := hBO.x2.fr 0
        have f1 := hBO.x2.fr 1
        have f2 := hBO.x2.fr 2
        have l2 := hBO.x2.lt
        clear hBO hI hall
        go_wp2_with fail
        refine bodyPost_ret (v := .agg #[Value.slice p1 j o1, Value.slice p2 j c2, Value.slice p3 j c3]) (by simp [results, Try.results59, go_sem, q0, q1, q2]) rfl ?_
        exact ⟨_, _, _, rfl, OP.sub HF.out.1 (fun k hk hh => ⟨Nat.le_trans HZ2.out hh.1, hk⟩), HG2.out.trans (HF.out.2.mono HZ2.out)⟩
--== end
end Go.Proofs.Ytiikoappknejgaa
