/-
  Appends of a row to a list of rows; what a call returns that makes rows.
-/
import Derived.Test.YthnpndheaailjaaOwn
import Derived.Test.YthnpndheaailjaaPresC
namespace Go.Proofs.Ythnpndheaailjaa
set_option linter.unusedVariables false
set_option linter.unusedSimpArgs false
set_option maxRecDepth 100000
open Go.RowKit

theorem step_rows {B : Nat} {wr w5 : World} {u u5 : Value} {L : List (List Int)} {xs : List Int} (hO : O2 wr (win B wr.heap.size) u L) (hBw : B ≤ wr.heap.size) (hI5 : Ints w5 wr.heap.size u5 xs) (hone : u5.oneCell' = true) (hB5 : Below wr.heap.size wr w5) (hn : L.length ≤ 1000000000) :
    ∃ v6 w6, (Builtin.append_ #[29, 29] 29 #[u, .slice (some ⟨w5.heap.size, 0, none⟩) 1 1]).run Try.prog (w5.alloc (.cells #[u5] 22)) = .ok v6 w6 ∧ O2 w6 (win B w6.heap.size) v6 (L ++ [xs]) ∧ Below B w5 w6 := by
  obtain ⟨i0, hi, hz0, hz1, hz2⟩ := info_parts Try.infoRow
  have hO5 := local_O2.below hO hB5
  have hy5 := hI5.o1
  have sz5 := hB5.size
  obtain ⟨v6, w6, hr6, hO6, hC6⟩ := run_appO local_O1 w5 29 29 i0 Try.underlying29 hi hz0 hz1 hz2 _ _ _ _ hO5 _ _ hy5 hone (fun k hk h => by have := hk.1; have := h.2; omega) hn
  have sz6 := hC6.size
  refine ⟨v6, w6, hr6, local_O2.mono hO6 (fun k hk h => ⟨?_, hk⟩), hC6.below (fun k hk => hk.1.1) (by omega)⟩
  rcases h with ⟨h | h, _⟩ | h
  · exact h.1
  · have := h.1; omega
  · omega
def RetL2 (w : World) (d : List (List Int)) (e : Ending) (w' : World) : Prop := ∃ v, e = .returned v ∧ O2 w' (win w.heap.size w'.heap.size) v d ∧ Below w.heap.size w w'
def RetL2c (w : World) (d : List (List Int)) (c : Int) (e : Ending) (w' : World) : Prop := ∃ v, e = .returned (.tuple #[v, .int .i64 c]) ∧ O2 w' (win w.heap.size w'.heap.size) v d ∧ Below w.heap.size w w'
theorem O2.grow {w w2 w' : World} {v : Value} {d : List (List Int)} (h : O2 w' (win w2.heap.size w'.heap.size) v d) (hs : w.heap.size ≤ w2.heap.size) : O2 w' (win w.heap.size w'.heap.size) v d :=
  local_O2.mono h fun k _ hk => ⟨by have := hk.1; omega, hk.2⟩
theorem O2.formN {w : World} {S : Nat → Prop} {v : Value} {d : List (List Int)} (h : O2 w S v d) {n : Nat} (e : d.length = n) : ∃ ao cap, v = .slice ao n cap ∧ n ≤ cap ∧ cap ≤ 9223372036854775807 := h.rd.formN e
end Go.Proofs.Ythnpndheaailjaa
