/-
  CollectStep.
-/
import Derived.Test.YthnpndheaailjaaSte
import Derived.Test.YthnpndheaailjaaStf
import Derived.Test.YthnpndheaailjaaTriv
namespace Go.Proofs.Ythnpndheaailjaa
set_option linter.unusedVariables false
set_option linter.unusedSimpArgs false
set_option maxRecDepth 100000
open Go.RowKit

--== three results
def RetInts3 (w : World) (xs : List Int) (a b : Int) (e : Ending) (w' : World) : Prop := ∃ v, e = .returned (.tuple #[v, .int .i64 a, .int .i64 b]) ∧ Ints w' w.heap.size v xs ∧ Below w.heap.size w w'
theorem ret_vii {u v : Value} {a b c d : Int} (h : u = v) (h' : a = c) (h'' : b = d) : Ending.returned (.tuple #[u, .int .i64 a, .int .i64 b]) = .returned (.tuple #[v, .int .i64 c, .int .i64 d]) := by rw [h, h', h'']
theorem len_CollectStep (p : Pres) (w : List Int) : (csL p w).length ≤ 1000000000 := by
  by_cases h : posV p w = true
  · obtain ⟨hV, hP, hl⟩ := posV_true h
    rcases firstR_bd p.orders w with hf | ⟨t, hf, ht, _⟩
    · rw [(cs_nf h hf).2.2]; omega
    · rw [(cs_at h hf).2.2]
      have := stepL_len ht hV (posB_true hP)
      omega
  · rw [(cs_no (by simpa using h)).2.2]; simp
