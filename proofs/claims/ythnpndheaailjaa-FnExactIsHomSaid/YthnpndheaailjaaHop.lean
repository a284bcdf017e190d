/-
  IsHom: what its walks share.
-/
import Derived.Test.YthnpndheaailjaaHom
namespace Go.Proofs.Ythnpndheaailjaa
set_option linter.unusedVariables false
set_option linter.unusedSimpArgs false
set_option maxRecDepth 100000
open Go.RowKit

theorem relL_words {s : Pres} {L : List (List Int)} (hV : ValidP s) (hn : L.length = s.n) : ∀ j, j < (relL s).length → wordB (L.length : Int) ((relL s).getD j []) = true := fun j hj => by rw [hn]; exact rel_at hV hj
/-- the first three cells, the next three and the last of a homomorphism that lies in memory -/
theorem Hx.ptr {w : World} {b : Nat} {u0 u1 u2 u3 u4 u5 u6 : Value} {t : Pres} (h : Hx 57 w b u0 u1 u2 u3 u4 u5 u6) (hr : RdP w u3 u4 u5 t) : PtrO w (.pointer (some ⟨b, 3, none⟩)) t :=
  ⟨b, 3, u3, u4, u5, rfl, h.cs.2.2.2.1, h.cs.2.2.2.2.1, h.cs.2.2.2.2.2.1, hr⟩
end Go.Proofs.Ythnpndheaailjaa
