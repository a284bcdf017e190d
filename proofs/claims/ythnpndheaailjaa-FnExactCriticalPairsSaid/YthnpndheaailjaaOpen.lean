/-
  What the walks of the laws share, for arguments with depth: lists of lists, presentations that came in.
-/
import Derived.Test.YthnpndheaailjaaPres
import Derived.Deep.Slices
import Derived.Deep.RegionHeld3
namespace Go.Proofs.Ythnpndheaailjaa
set_option linter.unusedVariables false
set_option linter.unusedSimpArgs false
set_option maxRecDepth 100000
open Go.ChangeShapes Go.WideShapes Go.ChangeAt Go.RowKit

section
variable {H : Type} {enc : TypeId × Value → H} {w : World} {fuel : Nat} {v : Value}
theorem rd_addr {a : Addr} {u : Value} (h : w.cell? (a.add 0) = some u) : ∃ b off, a = ⟨b, off, none⟩ := by
  obtain ⟨b, off, spot⟩ := a
  have hspot : spot = none := by simpa [Addr.add] using World.cell?_spot h
  subst hspot
  exact ⟨b, off, rfl⟩
theorem rd1_of {x : DataW H × List MemPlace} (h : DataW.trod enc Try.prog w 0 (fun _ => true) true fuel 22 [v] = some x) : ∃ xs, Rd w v xs := by
  rcases open_ints Try.underlying22 Try.underlying2 (by kernel_rfl) h with ⟨hcs, _⟩ | ⟨a, l, c, zs, hcs, _, hl, hm, hz, _, hcell, hwz⟩
  · obtain rfl : v = .slice none 0 0 := by simpa using hcs
    exact ⟨[], Rd.nil w⟩
  · obtain rfl : v = .slice (some a) l c := by simpa using hcs
    have hz' : zs.length = c := by simpa using hz
    have : IsRow .i64 w (some a) l c zs := .inr ⟨a, rfl, hl, hm, hz', hcell, hwz⟩
    exact ⟨_, this.rd⟩
theorem rd2_of {x : DataW H × List MemPlace} (h : DataW.trod enc Try.prog w 0 (fun _ => true) true fuel 29 [v] = some x) : ∃ xss, Rd2 w v xss := by
  rcases Go.Deep.open_slice1 Try.underlying29 (by kernel_rfl) h with ⟨hcs, _⟩ | ⟨a, len, cap, m, n, V, D, Pl, hcs, _, hl, hm, hmm, _, hx⟩
  · obtain rfl : v = .slice none 0 0 := by simpa using hcs
    exact ⟨[], Rd2.nil w⟩
  · obtain rfl : v = .slice (some a) len cap := by simpa using hcs
    simp only [if_true] at hmm
    subst hmm
    obtain ⟨X, hX⟩ := Go.Deep.choose_lt (α := List Int) (p := fun i xs => Rd w (V i) xs) (fun i hi => rd1_of (hx i hi).2)
    refine ⟨(List.range len).map X, (List.range len).map V, ⟨some a, m, by simp, by simpa using hl, by unfold maxLen at hm; omega, fun h => by (cases h), ?_⟩, by simp, fun i hi => ?_⟩
    · by_cases h0 : len = 0
      · exact .inl (by simpa using h0)
      · obtain ⟨b, off, rfl⟩ := rd_addr (hx 0 (by omega)).1
        refine .inr ⟨b, off, rfl, fun j hj => ?_⟩
        simp only [List.length_map, List.length_range] at hj
        have := (hx j (by omega)).1
        rw [Addr.add_lit] at this
        rw [this, List.getElem?_map, List.getElem?_range hj]; rfl
    · simp only [List.length_map, List.length_range] at hi
      simp only [List.getD_eq_getElem?_getD, List.getElem?_map, List.getElem?_range hi, Option.map_some, Option.getD_some]
      exact hX i (by omega)
theorem rd3_of {x : DataW H × List MemPlace} (h : DataW.trod enc Try.prog w 0 (fun _ => true) true fuel 30 [v] = some x) : ∃ xss, Rd3 w v xss := by
  rcases Go.Deep.open_slice1 Try.underlying30 (by kernel_rfl) h with ⟨hcs, _⟩ | ⟨a, len, cap, m, n, V, D, Pl, hcs, _, hl, hm, hmm, _, hx⟩
  · obtain rfl : v = .slice none 0 0 := by simpa using hcs
    exact ⟨[], Rd3.nil w⟩
  · obtain rfl : v = .slice (some a) len cap := by simpa using hcs
    simp only [if_true] at hmm
    subst hmm
    obtain ⟨X, hX⟩ := Go.Deep.choose_lt (α := List (List Int)) (p := fun i xs => Rd2 w (V i) xs) (fun i hi => rd2_of (hx i hi).2)
    refine ⟨(List.range len).map X, (List.range len).map V, ⟨some a, m, by simp, by simpa using hl, by unfold maxLen at hm; omega, fun h => by (cases h), ?_⟩, by simp, fun i hi => ?_⟩
    · by_cases h0 : len = 0
      · exact .inl (by simpa using h0)
      · obtain ⟨b, off, rfl⟩ := rd_addr (hx 0 (by omega)).1
        refine .inr ⟨b, off, rfl, fun j hj => ?_⟩
        simp only [List.length_map, List.length_range] at hj
        have := (hx j (by omega)).1
        rw [Addr.add_lit] at this
        rw [this, List.getElem?_map, List.getElem?_range hj]; rfl
    · simp only [List.length_map, List.length_range] at hi
      simp only [List.getD_eq_getElem?_getD, List.getElem?_map, List.getElem?_range hi, Option.map_some, Option.getD_some]
      exact hX i (by omega)
end
theorem OP.formsE {w : World} {S : Nat → Prop} {v1 v2 v3 : Value} {p : Pres} (h : OP w S v1 v2 v3 p) :
    ∃ a1 n1 c1 a2 n2 c2 a3 n3 c3, v1 = .slice a1 n1 c1 ∧ v2 = .slice a2 n2 c2 ∧ v3 = .slice a3 n3 c3 := by
  obtain ⟨r1, r2, r3⟩ := h.rd
  obtain ⟨a1, c1, e1, _⟩ := r1.form
  obtain ⟨a2, c2, e2, _⟩ := r2.form
  obtain ⟨a3, c3, e3, _⟩ := r3.form
  exact ⟨a1, _, c1, a2, _, c2, a3, _, c3, e1, e2, e3⟩
--== a presentation that came in
theorem rdP_of {H : Type} {enc : TypeId × Value → H} {w : World} {base : Nat} {r : Reach} {v : Value} {d : DataW H} {ps : List MemPlace} (ho : Value.okWide Try.prog w r base 38 v) (h : DataW.Trod enc Try.prog w 0 (fun _ => true) true 38 v d ps) :
    ∃ v1 v2 v3 p, v = .agg #[v1, v2, v3] ∧ RdP w v1 v2 v3 p := by
  obtain ⟨cs, rfl, hcs⟩ := okWide_struct Try.underlying38 ho
  obtain ⟨fuel, hf⟩ := h
  obtain ⟨xs, n, _, hx, hl, hl2, hfs⟩ := DataW.trod_struct Try.underlying38 hf
  have c43 : Try.prog.cellsOf 38 = 3 := by kernel_rfl
  have c22 : Try.prog.cellsOf 22 = 1 := by kernel_rfl
  have c23 : Try.prog.cellsOf 29 = 1 := by kernel_rfl
  have c24 : Try.prog.cellsOf 30 = 1 := by kernel_rfl
  rw [c43] at hcs
  obtain ⟨v1, v2, v3, rfl⟩ : ∃ v1 v2 v3, cs = #[v1, v2, v3] := by
    obtain ⟨l⟩ := cs
    match l, hcs with
    | [a, b, c], _ => exact ⟨a, b, c, rfl⟩
  have hc : (Value.agg #[v1, v2, v3]).cells.toList = [v1, v2, v3] := rfl
  rw [hc] at hfs
  have f0 : DataW.trod enc Try.prog w 0 (fun _ => true) true n 22 (([v1, v2, v3].drop 0).take (Try.prog.cellsOf 22)) = xs[0]? := hfs 0 _ rfl
  rw [c22] at f0
  replace f0 : DataW.trod enc Try.prog w 0 (fun _ => true) true n 22 [v1] = xs[0]? := f0
  have f1 : DataW.trod enc Try.prog w 0 (fun _ => true) true n 29 (([v1, v2, v3].drop 1).take (Try.prog.cellsOf 29)) = xs[1]? := hfs 1 _ rfl
  rw [c23] at f1
  replace f1 : DataW.trod enc Try.prog w 0 (fun _ => true) true n 29 [v2] = xs[1]? := f1
  have f2 : DataW.trod enc Try.prog w 0 (fun _ => true) true n 30 (([v1, v2, v3].drop 2).take (Try.prog.cellsOf 30)) = xs[2]? := hfs 2 _ rfl
  rw [c24] at f2
  replace f2 : DataW.trod enc Try.prog w 0 (fun _ => true) true n 30 [v3] = xs[2]? := f2
  have hl3 : xs.length = 3 := hl2
  rw [List.getElem?_eq_getElem (by omega)] at f0 f1 f2
  obtain ⟨x1, h1⟩ := rd1_of f0
  obtain ⟨x2, h2⟩ := rd2_of f1
  obtain ⟨x3, h3⟩ := rd3_of f2
  exact ⟨v1, v2, v3, ⟨x1, x2, x3⟩, rfl, h1, h2, h3⟩
end Go.Proofs.Ythnpndheaailjaa
