/-
  Critical pairs: the closures of the program, one pair of the reference.
-/
import Derived.Test.YthnpndheaailjaaCrb
import Derived.Test.YthnpndheaailjaaCol
import Derived.Test.YthnpndheaailjaaRel
import Derived.Deep.DeepCutAuto
import Derived.Deep.DrawnRows
namespace Go.Proofs.Ythnpndheaailjaa
set_option linter.unusedVariables false
set_option linter.unusedSimpArgs false
set_option maxRecDepth 100000
open Go.RowKit

--== a list that grows
/-- the list of pairs so far, in blocks from B on -/
def CO (B : Nat) (w0 : World) (v : Value) (p : Pres) (L : List Itm) (w : World) : Prop :=
  ∃ S : Nat → Prop, OT w S v L.length (flC p L) ∧ (∀ k, S k → B ≤ k ∧ k < w.heap.size) ∧ Below w0.heap.size w0 w
theorem CO.keep {B : Nat} {w0 w w' : World} {v : Value} {p : Pres} {L : List Itm} (h : CO B w0 v p L w) (hb : Below w.heap.size w w') : CO B w0 v p L w' := by
  obtain ⟨S, h1, h2, h3⟩ := h
  exact ⟨S, h1.below hb, fun k hk => ⟨(h2 k hk).1, by have := (h2 k hk).2; have := hb.size; omega⟩, below_size h3 hb⟩
theorem CO.below {B : Nat} {w0 w : World} {v : Value} {p : Pres} {L : List Itm} (h : CO B w0 v p L w) : Below w0.heap.size w0 w := by
  obtain ⟨S, h1, h2, h3⟩ := h; exact h3
theorem CO.rt {B : Nat} {w0 w : World} {v : Value} {p : Pres} {L : List Itm} (h : CO B w0 v p L w) : RT w v L.length (flC p L) := by
  obtain ⟨S, h1, h2, h3⟩ := h; exact h1.rt
theorem CO.grow {B : Nat} {w0 w1 w4 : World} {v x1 x2 x3 : Value} {p : Pres} {L : List Itm} {it : Itm} {T1 T2 T3 : Nat → Prop} (h : CO B w0 v p L w1) (hB : Below w1.heap.size w1 w4) (hB0 : w0.heap.size ≤ B) (hB1 : B ≤ w1.heap.size)
    (h1 : O1 w4 T1 x1 it.1) (h2 : O1 w4 T2 x2 (stepL p it.1 0)) (h3 : O1 w4 T3 x3 (stepL p it.1 it.2))
    (s1 : ∀ k, T1 k → w1.heap.size ≤ k) (s2 : ∀ k, T2 k → w1.heap.size ≤ k) (s3 : ∀ k, T3 k → w1.heap.size ≤ k) (d12 : ∀ k, T1 k → ¬ T2 k) (d13 : ∀ k, T1 k → ¬ T3 k) (d23 : ∀ k, T2 k → ¬ T3 k)
    (o1 : x1.oneCell' = true) (o2 : x2.oneCell' = true) (o3 : x3.oneCell' = true) (hn : L.length ≤ 1000000) :
    ∃ v' w5, (Builtin.append_ #[76, 76] 76 #[v, .slice (some ⟨w4.heap.size, 0, none⟩) 1 1]).run Try.prog (w4.alloc (.cells #[x1, x2, x3] 127)) = .ok v' w5 ∧
      CO B w0 v' p (L ++ [it]) w5 ∧ ChgS (fun k => B ≤ k) w4 w5 := by
  obtain ⟨S, g1, g2, g3⟩ := h
  have z4 := hB.size
  obtain ⟨v', w5, hr, hO, hC⟩ := run_appT w4 (X := fun k => w1.heap.size ≤ k) (g1.below hB) h1 h2 h3 s1 s2 s3 d12 d13 d23 (fun k hk hs => by have := (g2 k hs).2; have hk' : w1.heap.size ≤ k := hk; omega) o1 o2 o3 hn
  have hC2 : ChgS (fun k => B ≤ k) w4 w5 := ⟨hC.os, hC.tape, hC.output, hC.size, fun k hk hn => hC.block k hk fun hs => hn (g2 k hs).1⟩
  have z5 := hC.size
  refine ⟨v', w5, hr, ⟨_, by rw [flC_snoc, List.length_append]; exact hO, ?_, ?_⟩, hC2⟩
  · rintro k (⟨h | h, hl⟩ | h)
    · exact ⟨(g2 k h).1, by omega⟩
    · have h' : w1.heap.size ≤ k := h; exact ⟨by omega, by omega⟩
    · exact ⟨by have := h.1; omega, h.2⟩
  · have z0 := g3.size
    exact (below_size g3 hB).trans (hC2.below (fun k hk => Nat.le_trans hB0 hk) (by omega))
/-- the closure's variable: a block of its own, w0's next one -/
def CB (w0 : World) (p : Pres) (L : List Itm) (w : World) : Prop :=
  ∃ v, w.heap[w0.heap.size]? = some (.cells #[v] 76 (0, 0)) ∧ CO (w0.heap.size + 1) w0 v p L w
theorem CB.keep {w0 w w' : World} {p : Pres} {L : List Itm} (h : CB w0 p L w) (hb : Below w.heap.size w w') : CB w0 p L w' := by
  obtain ⟨v, h1, h2⟩ := h
  exact ⟨v, (hb.block _ (lt_of_block h1)).trans h1, h2.keep hb⟩
theorem CB.below {w0 w : World} {p : Pres} {L : List Itm} (h : CB w0 p L w) : Below w0.heap.size w0 w := by
  obtain ⟨v, h1, h2⟩ := h; exact h2.below
/-- all that the closure 'add' does -/
theorem CB.add {w0 w1 w w3 w4 : World} {x1 x2 x3 : Value} {p : Pres} {L : List Itm} {it : Itm} (h : CB w0 p L w1) (hB : Below w1.heap.size w1 w) (h1 : Ints w w1.heap.size x1 it.1)
    (hB3 : Below w.heap.size w w3) (h2 : Ints w3 w.heap.size x2 (stepL p it.1 0)) (hB4 : Below w3.heap.size w3 w4) (h3 : Ints w4 w3.heap.size x3 (stepL p it.1 it.2))
    (o1 : x1.oneCell' = true) (o2 : x2.oneCell' = true) (o3 : x3.oneCell' = true) (hn : L.length ≤ 1000000) :
    ∃ v a' c' w5, w.cell? ⟨w0.heap.size, 0, none⟩ = some v ∧ w3.cell? ⟨w0.heap.size, 0, none⟩ = some v ∧ w4.cell? ⟨w0.heap.size, 0, none⟩ = some v ∧
      (Builtin.append_ #[76, 76] 76 #[v, .slice (some ⟨w4.heap.size, 0, none⟩) 1 1]).run Try.prog (w4.alloc (.cells #[x1, x2, x3] 127)) = .ok (.slice a' (L.length + 1) c') w5 ∧
      w5.cell? ⟨w0.heap.size, 0, none⟩ = some v ∧ w5.frozen? ⟨w0.heap.size, 0, none⟩ = false ∧ CB w0 p (L ++ [it]) (w5.setCell ⟨w0.heap.size, 0, none⟩ (.slice a' (L.length + 1) c')) := by
  obtain ⟨v, hb, hO⟩ := h
  have hlt := lt_of_block hb
  have z := hB.size
  have z3 := hB3.size
  have z4 := hB4.size
  have b : w.heap[w0.heap.size]? = some (.cells #[v] 76 (0, 0)) := (hB.block _ hlt).trans hb
  have b3 : w3.heap[w0.heap.size]? = some (.cells #[v] 76 (0, 0)) := (hB3.block _ (lt_of_block b)).trans b
  have b4 : w4.heap[w0.heap.size]? = some (.cells #[v] 76 (0, 0)) := (hB4.block _ (lt_of_block b3)).trans b3
  obtain ⟨v', w5, hr, hO5, hC5⟩ := hO.grow (w4 := w4) (hB.trans ((hB3.trans (hB4.mono z3)).mono z)) (Nat.le_succ _) hlt
    (local_O1.below (local_O1.below h1.o1 hB3) hB4) (local_O1.below h2.o1 hB4) h3.o1
    (fun k hk => hk.1) (fun k hk => by have := hk.1; omega) (fun k hk => by have := hk.1; omega) (fun k hk hh => by have := hk.2; have := hh.1; omega) (fun k hk hh => by have := hk.2; have := hh.1; omega) (fun k hk hh => by have := hk.2; have := hh.1; omega) o1 o2 o3 hn
  have b5 : w5.heap[w0.heap.size]? = some (.cells #[v] 76 (0, 0)) := (hC5.block _ (lt_of_block b4) (fun h => by have h' : w0.heap.size + 1 ≤ w0.heap.size := h; omega)).trans b4
  obtain ⟨a', c', hv', _⟩ := hO5.rt.form
  rw [List.length_append] at hv'
  subst hv'
  refine ⟨v, a', c', w5, cell_of_one b, cell_of_one b3, cell_of_one b4, hr, cell_of_one b5, free_of_one b5, _, one_setCell b5, ?_⟩
  obtain ⟨S, k1, k2, k3⟩ := hO5
  exact ⟨S, k1.chg (ChgS.setCell w5 w0.heap.size 0 _) (fun k hk e => by have := (k2 k hk).1; have e' : k = w0.heap.size := e; omega), fun k hk => ⟨(k2 k hk).1, by simpa using (k2 k hk).2⟩, k3.setCell (p := ⟨w0.heap.size, 0, none⟩) (Nat.le_refl _) _⟩
/-- the ways through a region at a function's end meet: at a world of which R holds -/
def MeetR (R : World → Prop) : Exit → Act → World → Prop
  | .normal, a, w => a.defers = [] ∧ R w
  | _, _, _ => False
theorem viaR {P : Program} {c : Code} {Q : Exit → Act → World → Prop} {a : Act} {w : World} (R : World → Prop) (h : Code.wp P c (MeetR R) a w) (hQ : ∀ a' w', a'.defers = [] → R w' → Q .normal a' w') : Code.wp P c Q a w :=
  Code.wp_mono (fun e b u hb => by
    cases e with
    | normal => exact hQ _ _ hb.1 hb.2
    | _ => exact hb.elim) h
--== impl.criticalPairs$1
set_option maxHeartbeats 1000000 in
theorem i_cpAdd {p : Pres} (hV : ValidP p) (L : List Itm) (it : Itm) (hg : CG p it) (vw vp : Value) (b1 : Nat) (w0 w1 w : World) (hC : CB w0 p L w1) (hB : Below w1.heap.size w1 w) (hx : Ints w w1.heap.size vw it.1) (hp : PtrP w0 vp p) (hb1 : w0.cell? ⟨b1, 0, none⟩ = some vp) (hl : L.length ≤ 1000) :
    Calls Try.prog 160 #[vw, .int .i64 it.2, .pointer (some ⟨w0.heap.size, 0, none⟩), .pointer (some ⟨b1, 0, none⟩)] w fun e w' => e = .returned (.tuple #[]) ∧ CB w0 p (L ++ [it]) w' := by
  have hb0 := below_size hC.below hB
  have PT := Lib.hid (hp.below hb0)
  obtain ⟨pb, _, _, _, rfl, _⟩ := hp
  have hc1 := below_cells hb0 _ _ hb1
  have HC := Lib.hid hC
  have HB := Lib.hid hB
  have HX := Lib.hid hx
  have HG := Lib.hid hg
  obtain ⟨ax, cx, rfl, _, _⟩ := hx.form
  obtain ⟨v, hbx, _⟩ := hC.keep hB
  have c0 := cell_of_one hbx
  have l0 := lt_of_block hbx
  have S0 : Hid (∀ wx, Below w.heap.size w wx → Calls Try.prog 161 #[.pointer (some ⟨pb, 0, none⟩), .slice ax it.1.length cx, .int .i64 0] wx (RetInts wx (stepL p it.1 0))) := fun wx hb =>
    i_stepAt _ _ p it.1 0 wx hV (PT.out.below hb) (HX.out.rd.below hb) HG.out.lt0 HG.out.pos HG.out.r0 (by have := HG.out.len; omega)
  have S1 : Hid (∀ wx, Below w.heap.size w wx → Calls Try.prog 161 #[.pointer (some ⟨pb, 0, none⟩), .slice ax it.1.length cx, .int .i64 it.2] wx (RetInts wx (stepL p it.1 it.2))) := fun wx hb =>
    i_stepAt _ _ p it.1 it.2 wx hV (PT.out.below hb) (HX.out.rd.below hb) HG.out.at' HG.out.pos HG.out.rt (by have := HG.out.len; omega)
  have HC1 := Lib.hid hc1
  clear hb0 hb1 hC hB hx hg hbx
  go_enter Try.func160, Try.ntmps160
  refine viaR (fun wx => CB w0 p (L ++ [it]) wx) ?h fun a' w' hd hR => bodyPost_end (results_none rfl _ _ _) hd ⟨rfl, hR⟩
  case h =>
    go_upto_region 0 with (fail)
    go_region_law (first
      | (go_simp; go_at_call 161; (with_reducible refine (S0.out _ (Below.refl _ _).drew).mono ?_); rintro e w3 ⟨u3, rfl, hI3, hB3⟩; have hB3' : Below w.heap.size w w3 := below_size (Below.refl _ _).drew hB3; have hI3' : Ints w3 w.heap.size u3 (stepL p it.1 0) := hI3; obtain ⟨a3, c3, rfl, _, _⟩ := hI3.form; have m1 := below_cells hB3' _ _ HC1.out; have m2 := below_cells hB3' _ _ c0; have l3 := Nat.lt_of_lt_of_le l0 hB3'.size)
      | (go_simp; go_at_call 161; (with_reducible refine (S1.out _ hB3').mono ?_); rintro e w4 ⟨u4, rfl, hI4, hB4⟩; obtain ⟨a4, c4, rfl, _, _⟩ := hI4.form; have l4 := Nat.lt_of_lt_of_le l3 hB4.size; obtain ⟨v2, a', c', w5, n0, n1, n2, hr, n3, n4, hC5⟩ := CB.add HC.out HB.out HX.out hB3' hI3' hB4 hI4 rfl rfl rfl (by omega); obtain rfl : v2 = v := by (have := n0.symm.trans c0; simpa using this))
      | (refine step_of_run rfl (.tmp 6) (.tmp 16) 76 rfl _ _ (by simp [Act.eval, Act.put]) (by simp [Act.eval, Act.put]) _ _ hr ?_))
    all_goals exact ⟨rfl, hC5⟩
--== end
end Go.Proofs.Ythnpndheaailjaa
