/-
  CollectWord and CollectProduct: the plain part, and an append as a run.
-/
import Derived.Test.YtbhjbfgkohgiiaaCol
namespace Go.Proofs.Ytbhjbfgkohgiiaa
set_option linter.unusedVariables false
set_option linter.unusedSimpArgs false
set_option maxRecDepth 100000
open Go.RowKit

--== append
theorem run_appK (w : World) (ty : TypeId) (B : Nat) (v : Value) (xs : List Int) (hown : Ints w B v xs) (vx : Value) (ys : List Int) (hrd : Rd w vx ys) (hn : xs.length ≤ 1000000000) (hm : ys.length ≤ 1000000000) (hB : B ≤ w.heap.size) :
    ∃ v' w', (Builtin.append_ #[22, 22] ty #[v, vx]).run Try.prog w = .ok v' w' ∧ Ints w' B v' (xs ++ ys) ∧ Below B w w' := by
  obtain ⟨i0, hi, hz0, hz1, hz2⟩ := info_parts Try.info2
  obtain ⟨v', w', hr, h1, h2, h3⟩ := run_app w B 22 ty 2 i0 (.int .i64 0) 8 Try.underlying22 hi hz0 hz1 hz2 rfl v xs.length (xs.map (Value.int .i64)) hown vx (ys.map (Value.int .i64)) hrd.cells (ints_oneCell _ _) (by simp [maxLen]; omega) (by simp; omega) hB
  have hg : Grew w w' v v' := ⟨h2, h3⟩
  refine ⟨v', w', hr, ?_, hg.below hB fun g hg => (hown.lt g hg).1⟩
  unfold Ints
  rw [List.length_append, List.map_append]
  simpa using h1
--== plain
def cwK (p : Pres) (w : List Int) (l : Int) : Int := if posV p w = true then (if inB l 0 2000 = true then collC p l.toNat w else 2) else 1
def cwN (p : Pres) (w : List Int) (l : Int) : Int := if posV p w = true then (if inB l 0 2000 = true then collN p l.toNat w else 0) else 0
def cwL (p : Pres) (w : List Int) (l : Int) : List Int := if posV p w = true then (if inB l 0 2000 = true then collL p l.toNat w else []) else []
theorem cw_no {p : Pres} {w : List Int} {l : Int} (h : posV p w = false) : cwK p w l = 1 ∧ cwN p w l = 0 ∧ cwL p w l = [] := by simp [cwK, cwN, cwL, h]
theorem cw_lim {p : Pres} {w : List Int} {l : Int} (h : posV p w = true) (h2 : inB l 0 2000 = false) : cwK p w l = 2 ∧ cwN p w l = 0 ∧ cwL p w l = [] := by simp [cwK, cwN, cwL, h, h2]
theorem cw_go {p : Pres} {w : List Int} {m : Nat} (h : posV p w = true) (h2 : inB (m : Int) 0 2000 = true) : cwK p w m = collC p m w ∧ cwN p w m = collN p m w ∧ cwL p w m = collL p m w := by simp [cwK, cwN, cwL, h, h2]
theorem collL_len (p : Pres) (m : Nat) (w : List Int) : (collL p m w).length ≤ p.n := by
  unfold collL
  split
  · rw [vecL_len]; omega
  · simp
theorem len_CollectWord (p : Pres) (w : List Int) (l : Int) : (cwL p w l).length ≤ 1000000000 := by
  unfold cwL
  split
  · rename_i h
    have := (posV_true h).1.n6
    split
    · have := collL_len p l.toNat w; omega
    · simp
  · simp
def cpB (p : Pres) (a b : List Int) : Bool := validB p && (tailB p.orders a 0 && tailB p.orders b 0)
def cpK (p : Pres) (a b : List Int) (l : Int) : Int := if cpB p a b = true then (if inB l 0 2000 = true then collC p l.toNat (nwL a ++ nwL b) else 2) else 1
def cpL (p : Pres) (a b : List Int) (l : Int) : List Int := if cpB p a b = true then (if inB l 0 2000 = true then collL p l.toNat (nwL a ++ nwL b) else []) else []
theorem cp_no {p : Pres} {a b : List Int} {l : Int} (h : cpB p a b = false) : cpK p a b l = 1 ∧ cpL p a b l = [] := by simp [cpK, cpL, h]
theorem cp_lim {p : Pres} {a b : List Int} {l : Int} (h : cpB p a b = true) (h2 : inB l 0 2000 = false) : cpK p a b l = 2 ∧ cpL p a b l = [] := by simp [cpK, cpL, h, h2]
theorem cp_go {p : Pres} {a b : List Int} {m : Nat} (h : cpB p a b = true) (h2 : inB (m : Int) 0 2000 = true) : cpK p a b m = collC p m (nwL a ++ nwL b) ∧ cpL p a b m = collL p m (nwL a ++ nwL b) := by simp [cpK, cpL, h, h2]
theorem cpB_true {p : Pres} {a b : List Int} (h : cpB p a b = true) : ValidP p ∧ tailB p.orders a 0 = true ∧ tailB p.orders b 0 = true := by
  unfold cpB at h
  rw [Bool.and_eq_true, Bool.and_eq_true] at h
  exact ⟨validB_true.1 h.1, h.2⟩
theorem len_CollectProduct (p : Pres) (a b : List Int) (l : Int) : (cpL p a b l).length ≤ 1000000000 := by
  unfold cpL
  split
  · rename_i h
    have := (cpB_true h).1.n6
    split
    · have := collL_len p l.toNat (nwL a ++ nwL b); omega
    · simp
  · simp
theorem cp_word {p : Pres} {a b : List Int} (h : cpB p a b = true) : SmE a ∧ SmE b ∧ PosW p.n (nwL a ++ nwL b) ∧ (nwL a ++ nwL b).length ≤ 200 ∧ (nwL a).length ≤ 100 ∧ (nwL b).length ≤ 100 := by
  obtain ⟨hV, ha, hb⟩ := cpB_true h
  have ho := (ordB_true hV.ord).1
  have sa := tailB_sm ho hV.n6 ha
  have sb := tailB_sm ho hV.n6 hb
  have la := nwL_len sa
  have lb := nwL_len sb
  exact ⟨sa, sb, (PosM.app (nwL_pos (tailB_true ha).1) (nwL_pos (tailB_true hb).1)).w, by rw [List.length_append]; omega, la, lb⟩
end Go.Proofs.Ytbhjbfgkohgiiaa
