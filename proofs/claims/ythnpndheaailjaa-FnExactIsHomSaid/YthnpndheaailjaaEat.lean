/-
  Elements by number: both sides.
-/
import Derived.Test.YthnpndheaailjaaOrd
namespace Go.Proofs.Ythnpndheaailjaa
set_option linter.unusedVariables false
set_option linter.unusedSimpArgs false
set_option maxRecDepth 100000
open Go.RowKit

--== spec.l10One
set_option maxHeartbeats 1000000 in
theorem s_l10One {p : Pres} (hV : ValidP p) (v1 v2 v3 : Value) (w : World) (hp : RdP w v1 v2 v3 p) :
    Calls Try.prog 175 #[.agg #[v1, v2, v3]] w (RetInts w p.zv) := by
  obtain ⟨i0, hi, hz0, hz1, hz2⟩ := info_parts Try.info2
  have hn6 := hV.n6
  obtain ⟨p1, q1, rfl, _, _⟩ := hp.1.formN (n := p.n) rfl
  obtain ⟨p2, q2, rfl, _, _⟩ := hp.2.1.formN hV.pl
  obtain ⟨p3, q3, rfl, _, _⟩ := hp.2.2.formN hV.cl
  have g0 := below_alloc w (Obj.cells #[Value.slice p1 p.n q1, Value.slice p2 p.n q2, Value.slice p3 p.n q3] 32)
  clear hp
  go_enter Try.func175, Try.ntmps175
  go_wp2_with (at_make; refine wp_mkInts _ rfl _ _ rfl i0 Try.underlying22 hi hz0 hz1 hz2 _ _ _ _ p.n rfl rfl rfl rfl (by omega) ?_)
  intro w1 hI hB hlt
  have hB1 := below_from g0 hB (by simp)
  have hI1 : Ints w1 w.heap.size _ p.zv := hI.mono (by simp)
  clear hI hB g0
  go_wp2_with fail
  go_ret
  exact ⟨_, rfl, hI1, hB1⟩
--== ElementAt
def eaC (p : Pres) (k : Int) : Int := if conB p = true then (if inB k 0 (prodO p.orders - 1) = true then 0 else 2) else 1
theorem eaC_1 {p : Pres} {k : Int} (h : conB p = false) : eaC p k = 1 := by unfold eaC; rw [h]; rfl
theorem eaC_2 {p : Pres} {k : Int} (h : conB p = true) (h2 : inB k 0 (prodO p.orders - 1) = false) : eaC p k = 2 := by unfold eaC; rw [h, h2]; rfl
theorem eaC_0 {p : Pres} {k : Int} (h : conB p = true) (h2 : inB k 0 (prodO p.orders - 1) = true) : eaC p k = 0 := by unfold eaC; rw [h, h2]; rfl
theorem ord_bd0 {p : Pres} (hV : ValidP p) : 1 ≤ prodO p.orders ∧ prodO p.orders ≤ 729 := by have := ord_bd hV p.n; rwa [ord_all] at this
