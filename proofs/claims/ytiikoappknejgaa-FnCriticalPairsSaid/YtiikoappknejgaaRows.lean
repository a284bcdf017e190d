/-
  No cell of these rows narrows 'for every input' (looked for: loops, veiled, ifaces, maps, wideKeys, modest, calm, conditions, laid).
  DERIVED. THE GIVEN ROWS OF THIS SEAT. 2 by the template 'for every input the law returns true; each argument reads behind the call as it read before'; 0 by the template 'total and deterministic' (their statements: YtiikoappknejgaaTotals.lean).
  GIVEN WITH THE SEED: the statements are not yours to turn. If you find one false, say at which input.
  Laid BY PROGRAM, IN A SANDBOX (cutbox-rows.mjs): the forced cells as the released guide's own fill.sh prints them over the translation 42a346073c5835c3… (all of the seat's roots in one cut). By AI agents, Wed Nov 11 2026. No macro, syntax, notation, axiom, sorry.
-/
import Derived.Test.YtiikoappknejgaaChecked
import GoSem.Claim
import GoSem.ClaimJoined
import GoSem.ClaimMapViews
import Derived.JoinedTies
import Derived.KernelRfl
namespace Go.Proofs.Ytiikoappknejgaa
/- THE CELL 'sum', in the pinned program and in every row, IS THE sha256 OF THE DUMP (.gsa) THAT YtiikoappknejgaaProg.lean LOADS. Nothing in Lean hashes anything: it is a label: what it is worth is what the hold of that sum in a sandbox is worth. -/
noncomputable def Try.pinned : Pinned := { name := "ytiikoappknejgaa", sum := "42a346073c5835c30b98645e9322ae88ad26d114ae88fbef5b029ba285333888", checked := Try.checked }
namespace Rows
def none {H : Type} : Left H := { results := [], args := [] }

/-- 'laws.FnCriticalPairs': WHATEVER THE INPUT: true; the input reads as it did. -/
def fnCriticalPairsSpec : ChangeSpec := { name := "fnCriticalPairs", fn := fun _ => fun
  | [d] => { results := [.lit (.bool true)], args := [d] }
  | _ => none }
def fnCriticalPairsRow : OpenClaim := { program := "ytiikoappknejgaa", sum := "42a346073c5835c30b98645e9322ae88ad26d114ae88fbef5b029ba285333888", func := "loop.example/g01076/laws.FnCriticalPairs", spec := "fnCriticalPairs", unfollowed := true, recurses := true, apart := false }
def FnCriticalPairsSaid : Prop := fnCriticalPairsRow.holds Try.pinned (OpenSpec.ofChange fnCriticalPairsSpec)

/-- ITS FALSE NEIGHBOUR: 'it returns false'. Refute it at one input. -/
def fnCriticalPairsWrong : ChangeSpec := { name := "fnCriticalPairs", fn := fun _ => fun
  | [d] => { results := [.lit (.bool false)], args := [d] }
  | _ => none }
def FnCriticalPairsWrongFalsely : Prop := fnCriticalPairsRow.holds Try.pinned (OpenSpec.ofChange fnCriticalPairsWrong)

/-- 'laws.FnSteps': WHATEVER THE INPUT: true; the input reads as it did. -/
def fnStepsSpec : ChangeSpec := { name := "fnSteps", fn := fun _ => fun
  | [d] => { results := [.lit (.bool true)], args := [d] }
  | _ => none }
def fnStepsRow : OpenClaim := { program := "ytiikoappknejgaa", sum := "42a346073c5835c30b98645e9322ae88ad26d114ae88fbef5b029ba285333888", func := "loop.example/g01076/laws.FnSteps", spec := "fnSteps", recurses := true, apart := false }
def FnStepsSaid : Prop := fnStepsRow.holds Try.pinned (OpenSpec.ofChange fnStepsSpec)

/-- ITS FALSE NEIGHBOUR: 'it returns false'. Refute it at one input. -/
def fnStepsWrong : ChangeSpec := { name := "fnSteps", fn := fun _ => fun
  | [d] => { results := [.lit (.bool false)], args := [d] }
  | _ => none }
def FnStepsWrongFalsely : Prop := fnStepsRow.holds Try.pinned (OpenSpec.ofChange fnStepsWrong)

/- THE SECOND FORM. 'bulk': how many values and letters a reading holds, each counted each time it is reached (what is shared counts as often as it is met; a slice's spare places count too). A statement '..UptoSaid' is the law's where the arguments, and the package variables that the reading takes, are together of bulk at most 1048576: NARROWER than '..Said'. Prove '..Said' where nothing that the law and all that it calls make is longer than what came in: it says more and counts as full. Else prove '..UptoSaid'. A law counts once. -/
mutual
def uptoBulk {H : Type} : DataW H → Nat
  | .lit (.string bytes) => bytes.length + 1
  | .lit _ => 1
  | .nil => 1
  | .ptr d => uptoBulk d + 1
  | .slice elems spare => uptoBulkAll elems + uptoBulkAll spare + 1
  | .agg parts => uptoBulkAll parts + 1
  | .iface _ d => uptoBulk d + 1
  | .map entries => uptoBulkEntries entries + 1
  | .held _ => 1
def uptoBulkAll {H : Type} : List (DataW H) → Nat
  | [] => 0
  | d :: r => uptoBulk d + uptoBulkAll r
def uptoBulkEntries {H : Type} : List (Lit × DataW H) → Nat
  | [] => 0
  | x :: r => uptoBulkEntry x + uptoBulkEntries r
def uptoBulkEntry {H : Type} : Lit × DataW H → Nat
  | (.string bytes, d) => bytes.length + uptoBulk d + 1
  | (_, d) => uptoBulk d + 1
 end
def uptoSmall : (H : Type) → List (DataW H) → Bool := fun _ ds => decide (uptoBulkAll ds ≤ 1048576)
def OpenSpec.upto (s : _root_.Go.ChangeSpec) : _root_.Go.OpenSpec := { _root_.Go.OpenSpec.ofChange s with cond := some uptoSmall }

/-- 'laws.FnCriticalPairs', WHERE WHAT IT READS IS OF BULK AT MOST 1048576: true; the input reads as it did. -/
def fnCriticalPairsUptoRow : OpenClaim := { program := "ytiikoappknejgaa", sum := "42a346073c5835c30b98645e9322ae88ad26d114ae88fbef5b029ba285333888", func := "loop.example/g01076/laws.FnCriticalPairs", spec := "fnCriticalPairs", unfollowed := true, recurses := true, apart := false, narrowed := true }
def FnCriticalPairsUptoSaid : Prop := fnCriticalPairsUptoRow.holds Try.pinned (OpenSpec.upto fnCriticalPairsSpec)

/-- 'laws.FnSteps', WHERE WHAT IT READS IS OF BULK AT MOST 1048576: true; the input reads as it did. -/
def fnStepsUptoRow : OpenClaim := { program := "ytiikoappknejgaa", sum := "42a346073c5835c30b98645e9322ae88ad26d114ae88fbef5b029ba285333888", func := "loop.example/g01076/laws.FnSteps", spec := "fnSteps", recurses := true, apart := false, narrowed := true }
def FnStepsUptoSaid : Prop := fnStepsUptoRow.holds Try.pinned (OpenSpec.upto fnStepsSpec)

end Rows
end Go.Proofs.Ytiikoappknejgaa
