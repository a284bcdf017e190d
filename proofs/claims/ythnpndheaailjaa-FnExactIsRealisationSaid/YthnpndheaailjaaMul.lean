/-
  Products, inverses of elements, as they are asked for.
-/
import Derived.Test.YthnpndheaailjaaElm
namespace Go.Proofs.Ythnpndheaailjaa
set_option linter.unusedVariables false
set_option linter.unusedSimpArgs false
set_option maxRecDepth 100000
open Go.RowKit

--== lengths
theorem len_els {p : Pres} {xss : List (List Int)} {R : List Int} (h : elsB p xss = true → R.length = p.n) : (okX (elsB p xss) R).length ≤ 1000000000 := by
  unfold okX
  by_cases hE : elsB p xss = true
  · rw [hE, if_pos rfl, h hE]
    have := (conB_true (elsB_true hE).1).1.n6
    omega
  · rw [if_neg hE]; simp
theorem len_Multiply (p : Pres) (x y : List Int) : (okX (elsB p [x, y]) (p.at 0 x y)).length ≤ 1000000000 := len_els fun h => by
  obtain ⟨hc, ha⟩ := elsB_true h
  exact ((conB_true hc).2.at (tail_VI (ha x (by simp))) (tail_VI (ha y (by simp)))).len
theorem len_Inverse (p : Pres) (x : List Int) : (okX (elsB p [x]) (p.inv 0 x)).length ≤ 1000000000 := len_els fun h => by
  obtain ⟨hc, ha⟩ := elsB_true h
  exact ((conB_true hc).2.inv (tail_VI (ha x (by simp)))).len
end Go.Proofs.Ythnpndheaailjaa
