/-
  The order of a presentation; normal words, exported.
-/
import Derived.Test.YtjefjhbnkcokhaaPresC
namespace Go.Proofs.Ytjefjhbnkcokhaa
set_option linter.unusedVariables false
set_option linter.unusedSimpArgs false
set_option maxRecDepth 100000
open Go.RowKit

def okI (c : Bool) (n : Int) : Int := if c then n else 0
def cod1 (c : Bool) : Int := if c then 0 else 1
def okX (c : Bool) (xs : List Int) : List Int := if c then xs else []
theorem ret_ii {a b c d : Int} (h : a = b) (h' : c = d) : Ending.returned (.tuple #[.int .i64 a, .int .i64 c]) = .returned (.tuple #[.int .i64 b, .int .i64 d]) := by rw [h, h']
--== impl.NormalWord
set_option maxHeartbeats 2000000 in
theorem i_NormalWord (v1 v2 v3 : Value) (p : Pres) (v : Value) (xs : List Int) (w : World) (hp : RdP w v1 v2 v3 p) (hv : Rd w v xs) :
    Calls Try.prog 39 #[.agg #[v1, v2, v3], v] w (RetInts2 w (okX (exvB p xs) (nwL xs)) (cod1 (exvB p xs))) := by
  have HP := Lib.hid hp
  obtain ⟨ao1, cap1, rfl, _, _⟩ := hp.1.form
  obtain ⟨ao2, cap2, rfl, _, _⟩ := hp.2.1.form
  obtain ⟨ao3, cap3, rfl, _, _⟩ := hp.2.2.form
  have g0 := below_alloc w (Obj.cells #[Value.slice ao1 p.orders.length cap1, Value.slice ao2 p.powers.length cap2, Value.slice ao3 p.conj.length cap3] 28)
  clear hp
  by_cases hV : exvB p xs = true
  case neg =>
    have hV' : exvB p xs = false := by simpa using hV
    rw [hV']
    go_enter Try.func39, Try.ntmps39
    go_wp2_with fail
    refine (i_IsExponentVector _ _ _ p _ xs _ (HP.out.below g0) (hv.below g0)).mono ?_
    rintro e w1 ⟨rfl, hb⟩
    have g1 := below_size g0 hb
    rw [hV']
    clear hb hV' hV
    go_wp2_with fail
    go_ret2
    exact ⟨_, rfl, Ints.nil _ _, g1⟩
  have HS := Lib.hid (exvB_sm hV)
  rw [hV]
  go_enter Try.func39, Try.ntmps39
  go_wp2_with fail
  refine (i_IsExponentVector _ _ _ p _ xs _ (HP.out.below g0) (hv.below g0)).mono ?_
  rintro e w1 ⟨rfl, hb⟩
  have g1 := below_size g0 hb
  rw [hV]
  clear hb hV
  go_wp2_with fail
  refine (i_normalWord _ xs _ (hv.below g1) HS.out).mono ?_
  rintro e w2 ⟨v2, rfl, hI, hb⟩
  have g2 := below_size g1 hb
  have s1 := g1.size
  clear hb
  go_wp2_with fail
  go_ret2
  exact ⟨_, rfl, hI.mono s1, g2⟩
