/-
  The program's last test of a group that it has made; plain steps of the columns that it multiplies.
-/
import Derived.Test.YtnedihpppbjmdaaGreatDoorAbj
import Derived.Test.YtnedihpppbjmdaaGreatDoorAbg
import Derived.Test.YtnedihpppbjmdaaGreatDoorAbe
namespace Go.Proofs.YtnedihpppbjmdaaGreatDoor
set_option linter.unusedVariables false
set_option linter.unusedSimpArgs false
set_option maxRecDepth 100000
open Go.RowKit

theorem getD_eq_one {l : List Nat} {j : Nat} (h : l.length ≤ j) : l.getD j 1 = 1 := by rw [List.getD_eq_getElem?_getD, List.getElem?_eq_none h]; rfl
theorem getD_setS {l : List Nat} {i x d : Nat} (h : i < l.length) : (l.set i x).getD i d = x := by rw [List.getD_eq_getElem?_getD, List.getElem?_set_self h]; rfl
theorem getD_setN {l : List Nat} {i j x d : Nat} (h : i ≠ j) : (l.set i x).getD j d = l.getD j d := by rw [List.getD_eq_getElem?_getD, List.getElem?_set_ne h, ← List.getD_eq_getElem?_getD]
/-- one more power is multiplied in -/
theorem mulU_step (xs Q : List Nat) (j : Nat) (hj : j < Q.length) :
    mulU xs (Q.take (j + 1)) = (if (mulU xs (Q.take j)).length = j then mulU xs (Q.take j) ++ [1] else mulU xs (Q.take j)).set j (xs.getD j 1 * Q.getD j 0) := by
  have hl : (mulU xs (Q.take j)).length = max xs.length j := by rw [mulU_length, List.length_take, Nat.min_eq_left (by omega)]
  have hq : Q.getD j 0 = Q.getD j 1 := by rw [List.getD_eq_getElem?_getD, List.getD_eq_getElem?_getD, List.getElem?_eq_getElem hj]; rfl
  apply ext_getD1'
  · rw [mulU_length, List.length_take, Nat.min_eq_left (by omega), List.length_set]
    split
    · next h => rw [List.length_append, hl, List.length_singleton]; omega
    · next h => rw [hl]; omega
  · intro i
    rw [mulU_getD]
    have ht : (Q.take (j + 1)).getD i 1 = if i ≤ j then Q.getD i 1 else 1 := by
      split
      · next h => rw [List.getD_eq_getElem?_getD, List.getElem?_take_of_lt (by omega), ← List.getD_eq_getElem?_getD]
      · next h => exact getD_eq_one (by rw [List.length_take]; omega)
    have ht2 : (mulU xs (Q.take j)).getD i 1 = xs.getD i 1 * if i < j then Q.getD i 1 else 1 := by
      rw [mulU_getD]
      congr 1
      split
      · next h => rw [List.getD_eq_getElem?_getD, List.getElem?_take_of_lt h, ← List.getD_eq_getElem?_getD]
      · next h => exact getD_eq_one (by rw [List.length_take]; omega)
    have ha : (if (mulU xs (Q.take j)).length = j then mulU xs (Q.take j) ++ [1] else mulU xs (Q.take j)).getD i 1 = (mulU xs (Q.take j)).getD i 1 := by
      split
      · next h =>
        rw [List.getD_eq_getElem?_getD, List.getElem?_append]
        split
        · rw [List.getD_eq_getElem?_getD]
        · next h2 =>
          rw [getD_eq_one (by omega)]
          by_cases h3 : i - (mulU xs (Q.take j)).length = 0
          · rw [h3]; rfl
          · rw [List.getElem?_eq_none (by simp; omega)]; rfl
      · rfl
    have hlen : j < (if (mulU xs (Q.take j)).length = j then mulU xs (Q.take j) ++ [1] else mulU xs (Q.take j)).length := by
      split
      · next h => rw [List.length_append, h, List.length_singleton]; omega
      · next h => rw [hl] at h ⊢; omega
    by_cases e : i = j
    · subst e
      rw [ht, if_pos (Nat.le_refl _), getD_setS hlen, hq]
    · rw [getD_setN (fun h => e h.symm), ha, ht, ht2]
      by_cases h1 : i < j
      · rw [if_pos h1, if_pos (by omega)]
      · rw [if_neg h1, if_neg (by omega)]
/-- what stands at the place before it is multiplied -/
theorem mulU_here (xs Q : List Nat) (j : Nat) (hj : j < Q.length) : (if (mulU xs (Q.take j)).length = j then mulU xs (Q.take j) ++ [1] else mulU xs (Q.take j)).getD j 0 = xs.getD j 1 := by
  have hl : (mulU xs (Q.take j)).length = max xs.length j := by rw [mulU_length, List.length_take, Nat.min_eq_left (by omega)]
  have h1 : (mulU xs (Q.take j)).getD j 1 = xs.getD j 1 := by
    rw [mulU_getD, getD_eq_one (l := Q.take j) (by rw [List.length_take]; omega), Nat.mul_one]
  split
  · next h =>
    rw [List.getD_eq_getElem?_getD, List.getElem?_append_right (by omega), h, Nat.sub_self, getD_eq_one (by rw [hl] at h; omega)]; rfl
  · next h =>
    rw [← h1, List.getD_eq_getElem?_getD, List.getD_eq_getElem?_getD, List.getElem?_eq_getElem (by rw [hl] at h ⊢; omega)]; rfl
--== impl.abelianResult
set_option maxHeartbeats 2000000 in
theorem i_abelianResult (v : Value) (fs : List Nat) (r : Int) (w : World) (hv : Rd w v (nI fs)) (hf : ∀ f ∈ fs, f ≤ 1000000000) (hn : fs.length ≤ 1000000) (hr1 : -1000 ≤ r) (hr2 : r ≤ 1000) : Calls Tryz.prog 46 #[.agg #[v, .int .i64 r]] w (RetMade w v fs r) := by
  have HV := Lib.hid hv
  have HIS : Hid (∀ wx, Below w.heap.size w wx → Calls Tryz.prog 16 #[.agg #[v, .int .i64 r]] wx (RetB wx (abP fs r))) := fun wx hb => i_IsAbelian v fs r wx (hv.below hb) hf hn hr1 hr2
  obtain ⟨ao, cap, rfl, _, _⟩ := hv.form
  rw [nI_length] at *
  have HB0 := Lib.hid (below_size (below_alloc w (.cells #[.slice ao fs.length cap, .int .i64 r] 26)) (below_alloc _ (.cells #[.slice none 0 0, .int .i64 0] 26)))
  generalize fs.length = n at *
  clear hv hf
  go_enter Tryz.func46, Tryz.ntmps46
  go_wp2_with fail
  refine (HIS.out _ HB0.out).mono ?_
  rintro e w1 ⟨b, rfl, hb, hB1⟩
  have HBB := Lib.hid hb
  have HB1 := Lib.hid (below_size HB0.out hB1)
  have hx2 : B2 w1 w.heap.size (.slice ao n cap) (.int .i64 r) := ((B2.new w _ _).alloc (.cells #[.slice none 0 0, .int .i64 0] 26)).below hB1 (by simp; omega)
  have hx1 : B2 w1 (w.heap.size + 1) (.slice none 0 0) (.int .i64 0) := by
    have h := (B2.new (w.alloc (.cells #[.slice ao n cap, .int .i64 r] 26)) (.slice none 0 0) (.int .i64 0)).below hB1 (by simp)
    rwa [show (w.alloc (.cells #[.slice ao n cap, .int .i64 r] 26)).heap.size = w.heap.size + 1 by simp] at h
  have c0 := hx1.c0
  have c1 := hx1.c1
  have f0 := hx1.f 0
  have f1 := hx1.f 1
  have d0 := hx2.c0
  have d1 := hx2.c1
  have HX1 := Lib.hid hx1
  clear hb hB1 hx1 hx2 HIS
  cases b
  · go_wp2_with fail
    have q := HX1.out.set (.slice none 0 0) (.int .i64 0)
    have q0 := q.c0
    have q1 := q.c1
    refine bodyPost_ret (v := .tuple #[.agg #[.slice none 0 0, .int .i64 0], .int .i64 3]) (by simp [results, Tryz.results46, go_sem, q0, q1]) rfl ?_
    exact ⟨_, [], 0, 3, rfl, .inr ⟨rfl, rfl⟩, .inr ⟨fun h => by simpa using HBB.out.2 h, rfl, rfl, rfl⟩, below_set2 HB1.out (Nat.le_succ _) _ _⟩
  · go_wp2_with fail
    have q := HX1.out.set (.slice ao n cap) (.int .i64 r)
    have q0 := q.c0
    have q1 := q.c1
    refine bodyPost_ret (v := .tuple #[.agg #[.slice ao n cap, .int .i64 r], .int .i64 0]) (by simp [results, Tryz.results46, go_sem, q0, q1]) rfl ?_
    have hb := below_set2 HB1.out (Nat.le_succ _) (.slice ao n cap) (.int .i64 r)
    exact ⟨_, fs, r, 0, rfl, .inl ⟨rfl, rfl⟩, .inl ⟨by simpa using HBB.out, rfl, rfl, rfl⟩, hb⟩
end Go.Proofs.YtnedihpppbjmdaaGreatDoor
