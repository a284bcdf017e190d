/-
  HeadPresentation: the plain part of its tops.
-/
import Derived.Test.YtjefjhbnkcokhaaHeb
import Derived.Test.YtjefjhbnkcokhaaHec
import Derived.Test.YtjefjhbnkcokhaaHez
import Derived.Test.YtjefjhbnkcokhaaNorT
import Derived.Test.YtjefjhbnkcokhaaRp2
import Derived.Test.YtjefjhbnkcokhaaSiz
namespace Go.Proofs.Ytjefjhbnkcokhaa
set_option linter.unusedVariables false
set_option linter.unusedSimpArgs false
set_option maxRecDepth 100000
open Go.RowKit

--== both
def hdK (p : Pres) (f : Int) : Int := if ntK p f = 0 then (if ntB p f.toNat = true then 0 else 5) else ntK p f
def hdX (p : Pres) (f : Int) : Pres := if hdK p f = 0 then hdP p f.toNat f.toNat else noP
theorem hdK_k {p : Pres} {f : Int} (h : ¬ ntK p f = 0) : hdK p f = ntK p f := by unfold hdK; rw [if_neg h]
theorem hdK_5 {p : Pres} {m : Nat} (h : ntK p (m : Int) = 0) (h2 : ntB p m = false) : hdK p (m : Int) = 5 := by unfold hdK; rw [if_pos h, Int.toNat_natCast, h2]; rfl
theorem hdK_0 {p : Pres} {m : Nat} (h : ntK p (m : Int) = 0) (h2 : ntB p m = true) : hdK p (m : Int) = 0 := by unfold hdK; rw [if_pos h, Int.toNat_natCast, h2]; rfl
theorem hdX_ne {p : Pres} {f : Int} (h : ¬ hdK p f = 0) : hdX p f = noP := by unfold hdX; rw [if_neg h]
theorem hdX_0 {p : Pres} {m : Nat} (h : hdK p (m : Int) = 0) : hdX p (m : Int) = hdP p m m := by unfold hdX; rw [if_pos h, Int.toNat_natCast]
theorem ntK_inv {p : Pres} {f : Int} (h : ntK p f = 0) : ValidP p ∧ ∃ m : Nat, f = (m : Int) ∧ m ≤ p.n := by
  by_cases hc : conB p = true
  · by_cases hi : inB f 0 p.n = true
    · obtain ⟨h1, h2⟩ := inB_true.1 hi
      exact ⟨(conB_true hc).1, f.toNat, by omega, by omega⟩
    · rw [ntK_2 hc (by simpa using hi)] at h; omega
  · rw [ntK_1 (by simpa using hc)] at h; omega
--== impl.headOf
theorem i_headOf_all {p : Pres} (hV : ValidP p) (f : Nat) (hf : f ≤ p.n) (vp : Value) (w : World) (hp : PtrP w vp p) :
    Calls Try.prog 93 #[vp, .int .i64 f] w (RetP w (hdP p f f)) := by
  by_cases h : 0 < p.n
  · exact i_headOf hV f h hf vp w hp
  · obtain rfl : f = 0 := by omega
    exact i_headOf_zero (by omega) vp w hp
--== spec.HeadPresentation
theorem s_Head_all {p : Pres} (hV : ValidP p) (f : Nat) (hf : f ≤ p.n) (v1 v2 v3 : Value) (w : World) (hp : RdP w v1 v2 v3 p) (hK : ntK p (f : Int) = 0) (hN : ntB p f = true) :
    Calls Try.prog 46 #[.agg #[v1, v2, v3], .int .i64 f] w (RetP2 w (hdP p f f) 0) := by
  by_cases h : 0 < p.n
  · exact s_Head_go hV f h hf v1 v2 v3 w hp hK hN
  · obtain rfl : f = 0 := by omega
    exact s_Head_zero hV (by omega) v1 v2 v3 w hp hK hN
end Go.Proofs.Ytjefjhbnkcokhaa
