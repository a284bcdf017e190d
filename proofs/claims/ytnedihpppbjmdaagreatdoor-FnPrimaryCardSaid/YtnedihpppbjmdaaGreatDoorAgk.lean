/-
  Whether two abelian groups are the same.
-/
import Derived.Test.YtnedihpppbjmdaaGreatDoorAbh
namespace Go.Proofs.YtnedihpppbjmdaaGreatDoor
set_option linter.unusedVariables false
set_option linter.unusedSimpArgs false
set_option maxRecDepth 100000
open Go.RowKit

theorem nI_inj {xs ys : List Nat} (h : nI xs = nI ys) : xs = ys := List.map_inj_right (fun a b hab => by omega) |>.1 h
--== laws.likeAbelian5
set_option maxHeartbeats 4000000 in
theorem l_likeAb (va vb : Value) (fa fb : List Nat) (ra rb : Int) (w : World) (hva : Rd w va (nI fa)) (hvb : Rd w vb (nI fb)) :
    Calls Tryz.prog 12 #[.agg #[va, .int .i64 ra], .agg #[vb, .int .i64 rb]] w (RetV w (.bool (decide (ra = rb ∧ fa = fb)))) := by
  have HL : Hid (∀ wx, Below w.heap.size w wx → Calls Tryz.prog 10 #[va, vb] wx (RetV wx (.bool (decide (nI fa = nI fb))))) := fun wx hx => l_like va vb (nI fa) (nI fb) wx (hva.below hx) (hvb.below hx)
  have HD : Hid (decide (nI fa = nI fb) = decide (fa = fb)) := decide_eq_decide.2 ⟨nI_inj, fun h => by rw [h]⟩
  obtain ⟨aa, ca', hfa, _, _⟩ := rd_formN hva (nI_length fa)
  obtain ⟨ab, cb', hfb, _, _⟩ := rd_formN hvb (nI_length fb)
  subst hfa hfb
  clear hva hvb
  go_enter Tryz.func12, Tryz.ntmps12
  have HB0 := Lib.hid (below_size (below_alloc w (.cells #[.slice aa fa.length ca', .int .i64 ra] 26)) (below_alloc _ (.cells #[.slice ab fb.length cb', .int .i64 rb] 26)))
  by_cases hr : ra = rb
  · subst hr
    have HL2 := Lib.hid (HL.out _ HB0.out)
    rw [HD.out] at HL2
    have e1 : decide (ra = ra ∧ fa = fb) = decide (fa = fb) := decide_eq_decide.2 ⟨fun h => h.2, fun h => ⟨rfl, h⟩⟩
    rw [e1]
    clear e1 HD HL
    generalize decide (fa = fb) = bb at *
    go_wp2_with fail
    refine HL2.out.mono ?_
    rintro e w1 ⟨rfl, hB1⟩
    have HB1 := Lib.hid (below_size HB0.out hB1)
    clear hB1
    cases bb
    all_goals
      go_wp2_with fail
      go_ret
      exact ⟨rfl, HB1.out⟩
  · have e1 : decide (ra = rb ∧ fa = fb) = false := decide_eq_false fun h => hr h.1
    rw [e1]
    have hr2 : (ra == rb) = false := by rw [beq_eq_false_iff_ne]; exact hr
    clear e1 HD HL
    go_wp2_with fail
    go_ret
    exact ⟨rfl, HB0.out⟩
end Go.Proofs.YtnedihpppbjmdaaGreatDoor
