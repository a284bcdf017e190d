/-
  No cell of these rows narrows 'for every input' (looked for: loops, veiled, ifaces, maps, wideKeys, modest, calm, conditions, laid).
  DERIVED. THE GIVEN ROWS OF THIS SEAT. 6 by the template 'for every input the law returns true; each argument reads behind the call as it read before'; 0 by the template 'total and deterministic' (their statements: YtjefjhbnkcokhaaTotals.lean).
  GIVEN WITH THE SEED: the statements are not yours to turn. If you find one false, say at which input.
  Laid BY PROGRAM, IN A SANDBOX (cutbox-rows.mjs): the forced cells as the released guide's own fill.sh prints them over the translation b2f68a292d3bc14a… (all of the seat's roots in one cut). By AI agents, Wed Nov 11 2026. No macro, syntax, notation, axiom, sorry.
-/
import Derived.Test.YtjefjhbnkcokhaaChecked
import GoSem.Claim
import GoSem.ClaimJoined
import GoSem.ClaimMapViews
import Derived.JoinedTies
import Derived.KernelRfl
namespace Go.Proofs.Ytjefjhbnkcokhaa
/- THE CELL 'sum', in the pinned program and in every row, IS THE sha256 OF THE DUMP (.gsa) THAT YtjefjhbnkcokhaaProg.lean LOADS. Nothing in Lean hashes anything: it is a label: what it is worth is what the hold of that sum in a sandbox is worth. -/
noncomputable def Try.pinned : Pinned := { name := "ytjefjhbnkcokhaa", sum := "b2f68a292d3bc14a5846829c9dac9949c068d734c1281c4665de1ace7534d35c", checked := Try.checked }
namespace Rows
def none {H : Type} : Left H := { results := [], args := [] }

/-- 'laws.FnExactSectionOf': WHATEVER THE INPUT: true; the input reads as it did. -/
def fnExactSectionOfSpec : ChangeSpec := { name := "fnExactSectionOf", fn := fun _ => fun
  | [d1, d2] => { results := [.lit (.bool true)], args := [d1, d2] }
  | _ => none }
def fnExactSectionOfRow : OpenClaim := { program := "ytjefjhbnkcokhaa", sum := "b2f68a292d3bc14a5846829c9dac9949c068d734c1281c4665de1ace7534d35c", func := "loop.example/g01076/laws.FnExactSectionOf", spec := "fnExactSectionOf", recurses := true, apart := false }
def FnExactSectionOfSaid : Prop := fnExactSectionOfRow.holds Try.pinned (OpenSpec.ofChange fnExactSectionOfSpec)

/-- ITS FALSE NEIGHBOUR: 'it returns false'. Refute it at one input. -/
def fnExactSectionOfWrong : ChangeSpec := { name := "fnExactSectionOf", fn := fun _ => fun
  | [d1, d2] => { results := [.lit (.bool false)], args := [d1, d2] }
  | _ => none }
def FnExactSectionOfWrongFalsely : Prop := fnExactSectionOfRow.holds Try.pinned (OpenSpec.ofChange fnExactSectionOfWrong)

/-- 'laws.FnExactIsAbelianGroup': WHATEVER THE INPUT: true; the input reads as it did. -/
def fnExactIsAbelianGroupSpec : ChangeSpec := { name := "fnExactIsAbelianGroup", fn := fun _ => fun
  | [d] => { results := [.lit (.bool true)], args := [d] }
  | _ => none }
def fnExactIsAbelianGroupRow : OpenClaim := { program := "ytjefjhbnkcokhaa", sum := "b2f68a292d3bc14a5846829c9dac9949c068d734c1281c4665de1ace7534d35c", func := "loop.example/g01076/laws.FnExactIsAbelianGroup", spec := "fnExactIsAbelianGroup", recurses := true, apart := false }
def FnExactIsAbelianGroupSaid : Prop := fnExactIsAbelianGroupRow.holds Try.pinned (OpenSpec.ofChange fnExactIsAbelianGroupSpec)

/-- ITS FALSE NEIGHBOUR: 'it returns false'. Refute it at one input. -/
def fnExactIsAbelianGroupWrong : ChangeSpec := { name := "fnExactIsAbelianGroup", fn := fun _ => fun
  | [d] => { results := [.lit (.bool false)], args := [d] }
  | _ => none }
def FnExactIsAbelianGroupWrongFalsely : Prop := fnExactIsAbelianGroupRow.holds Try.pinned (OpenSpec.ofChange fnExactIsAbelianGroupWrong)

/-- 'laws.FnExactCriticalPairs': WHATEVER THE INPUT: true; the input reads as it did. -/
def fnExactCriticalPairsSpec : ChangeSpec := { name := "fnExactCriticalPairs", fn := fun _ => fun
  | [d] => { results := [.lit (.bool true)], args := [d] }
  | _ => none }
def fnExactCriticalPairsRow : OpenClaim := { program := "ytjefjhbnkcokhaa", sum := "b2f68a292d3bc14a5846829c9dac9949c068d734c1281c4665de1ace7534d35c", func := "loop.example/g01076/laws.FnExactCriticalPairs", spec := "fnExactCriticalPairs", unfollowed := true, recurses := true, apart := false }
def FnExactCriticalPairsSaid : Prop := fnExactCriticalPairsRow.holds Try.pinned (OpenSpec.ofChange fnExactCriticalPairsSpec)

/-- ITS FALSE NEIGHBOUR: 'it returns false'. Refute it at one input. -/
def fnExactCriticalPairsWrong : ChangeSpec := { name := "fnExactCriticalPairs", fn := fun _ => fun
  | [d] => { results := [.lit (.bool false)], args := [d] }
  | _ => none }
def FnExactCriticalPairsWrongFalsely : Prop := fnExactCriticalPairsRow.holds Try.pinned (OpenSpec.ofChange fnExactCriticalPairsWrong)

/-- 'laws.FnExactCriticalPairsJoin': WHATEVER THE INPUT: true; the input reads as it did. -/
def fnExactCriticalPairsJoinSpec : ChangeSpec := { name := "fnExactCriticalPairsJoin", fn := fun _ => fun
  | [d1, d2] => { results := [.lit (.bool true)], args := [d1, d2] }
  | _ => none }
def fnExactCriticalPairsJoinRow : OpenClaim := { program := "ytjefjhbnkcokhaa", sum := "b2f68a292d3bc14a5846829c9dac9949c068d734c1281c4665de1ace7534d35c", func := "loop.example/g01076/laws.FnExactCriticalPairsJoin", spec := "fnExactCriticalPairsJoin", unfollowed := true, recurses := true, apart := false }
def FnExactCriticalPairsJoinSaid : Prop := fnExactCriticalPairsJoinRow.holds Try.pinned (OpenSpec.ofChange fnExactCriticalPairsJoinSpec)

/-- ITS FALSE NEIGHBOUR: 'it returns false'. Refute it at one input. -/
def fnExactCriticalPairsJoinWrong : ChangeSpec := { name := "fnExactCriticalPairsJoin", fn := fun _ => fun
  | [d1, d2] => { results := [.lit (.bool false)], args := [d1, d2] }
  | _ => none }
def FnExactCriticalPairsJoinWrongFalsely : Prop := fnExactCriticalPairsJoinRow.holds Try.pinned (OpenSpec.ofChange fnExactCriticalPairsJoinWrong)

/-- 'laws.FnCriticalPairs': WHATEVER THE INPUT: true; the input reads as it did. -/
def fnCriticalPairsSpec : ChangeSpec := { name := "fnCriticalPairs", fn := fun _ => fun
  | [d] => { results := [.lit (.bool true)], args := [d] }
  | _ => none }
def fnCriticalPairsRow : OpenClaim := { program := "ytjefjhbnkcokhaa", sum := "b2f68a292d3bc14a5846829c9dac9949c068d734c1281c4665de1ace7534d35c", func := "loop.example/g01076/laws.FnCriticalPairs", spec := "fnCriticalPairs", unfollowed := true, recurses := true, apart := false }
def FnCriticalPairsSaid : Prop := fnCriticalPairsRow.holds Try.pinned (OpenSpec.ofChange fnCriticalPairsSpec)

/-- ITS FALSE NEIGHBOUR: 'it returns false'. Refute it at one input. -/
def fnCriticalPairsWrong : ChangeSpec := { name := "fnCriticalPairs", fn := fun _ => fun
  | [d] => { results := [.lit (.bool false)], args := [d] }
  | _ => none }
def FnCriticalPairsWrongFalsely : Prop := fnCriticalPairsRow.holds Try.pinned (OpenSpec.ofChange fnCriticalPairsWrong)

/-- 'laws.FnSteps': WHATEVER THE INPUT: true; the input reads as it did. -/
def fnStepsSpec : ChangeSpec := { name := "fnSteps", fn := fun _ => fun
  | [d] => { results := [.lit (.bool true)], args := [d] }
  | _ => none }
def fnStepsRow : OpenClaim := { program := "ytjefjhbnkcokhaa", sum := "b2f68a292d3bc14a5846829c9dac9949c068d734c1281c4665de1ace7534d35c", func := "loop.example/g01076/laws.FnSteps", spec := "fnSteps", recurses := true, apart := false }
def FnStepsSaid : Prop := fnStepsRow.holds Try.pinned (OpenSpec.ofChange fnStepsSpec)

/-- ITS FALSE NEIGHBOUR: 'it returns false'. Refute it at one input. -/
def fnStepsWrong : ChangeSpec := { name := "fnSteps", fn := fun _ => fun
  | [d] => { results := [.lit (.bool false)], args := [d] }
  | _ => none }
def FnStepsWrongFalsely : Prop := fnStepsRow.holds Try.pinned (OpenSpec.ofChange fnStepsWrong)

/- THE SECOND FORM. 'bulk': how many values and letters a reading holds, each counted each time it is reached (what is shared counts as often as it is met; a slice's spare places count too). A statement '..UptoSaid' is the law's where the arguments, and the package variables that the reading takes, are together of bulk at most 1048576: NARROWER than '..Said'. Prove '..Said' where nothing that the law and all that it calls make is longer than what came in: it says more and counts as full. Else prove '..UptoSaid'. A law counts once. -/
mutual
def uptoBulk {H : Type} : DataW H → Nat
  | .lit (.string bytes) => bytes.length + 1
  | .lit _ => 1
  | .nil => 1
  | .ptr d => uptoBulk d + 1
  | .slice elems spare => uptoBulkAll elems + uptoBulkAll spare + 1
  | .agg parts => uptoBulkAll parts + 1
  | .iface _ d => uptoBulk d + 1
  | .map entries => uptoBulkEntries entries + 1
  | .held _ => 1
def uptoBulkAll {H : Type} : List (DataW H) → Nat
  | [] => 0
  | d :: r => uptoBulk d + uptoBulkAll r
def uptoBulkEntries {H : Type} : List (Lit × DataW H) → Nat
  | [] => 0
  | x :: r => uptoBulkEntry x + uptoBulkEntries r
def uptoBulkEntry {H : Type} : Lit × DataW H → Nat
  | (.string bytes, d) => bytes.length + uptoBulk d + 1
  | (_, d) => uptoBulk d + 1
 end
def uptoSmall : (H : Type) → List (DataW H) → Bool := fun _ ds => decide (uptoBulkAll ds ≤ 1048576)
def OpenSpec.upto (s : _root_.Go.ChangeSpec) : _root_.Go.OpenSpec := { _root_.Go.OpenSpec.ofChange s with cond := some uptoSmall }

/-- 'laws.FnExactSectionOf', WHERE WHAT IT READS IS OF BULK AT MOST 1048576: true; the input reads as it did. -/
def fnExactSectionOfUptoRow : OpenClaim := { program := "ytjefjhbnkcokhaa", sum := "b2f68a292d3bc14a5846829c9dac9949c068d734c1281c4665de1ace7534d35c", func := "loop.example/g01076/laws.FnExactSectionOf", spec := "fnExactSectionOf", recurses := true, apart := false, narrowed := true }
def FnExactSectionOfUptoSaid : Prop := fnExactSectionOfUptoRow.holds Try.pinned (OpenSpec.upto fnExactSectionOfSpec)

/-- 'laws.FnExactIsAbelianGroup', WHERE WHAT IT READS IS OF BULK AT MOST 1048576: true; the input reads as it did. -/
def fnExactIsAbelianGroupUptoRow : OpenClaim := { program := "ytjefjhbnkcokhaa", sum := "b2f68a292d3bc14a5846829c9dac9949c068d734c1281c4665de1ace7534d35c", func := "loop.example/g01076/laws.FnExactIsAbelianGroup", spec := "fnExactIsAbelianGroup", recurses := true, apart := false, narrowed := true }
def FnExactIsAbelianGroupUptoSaid : Prop := fnExactIsAbelianGroupUptoRow.holds Try.pinned (OpenSpec.upto fnExactIsAbelianGroupSpec)

/-- 'laws.FnExactCriticalPairs', WHERE WHAT IT READS IS OF BULK AT MOST 1048576: true; the input reads as it did. -/
def fnExactCriticalPairsUptoRow : OpenClaim := { program := "ytjefjhbnkcokhaa", sum := "b2f68a292d3bc14a5846829c9dac9949c068d734c1281c4665de1ace7534d35c", func := "loop.example/g01076/laws.FnExactCriticalPairs", spec := "fnExactCriticalPairs", unfollowed := true, recurses := true, apart := false, narrowed := true }
def FnExactCriticalPairsUptoSaid : Prop := fnExactCriticalPairsUptoRow.holds Try.pinned (OpenSpec.upto fnExactCriticalPairsSpec)

/-- 'laws.FnExactCriticalPairsJoin', WHERE WHAT IT READS IS OF BULK AT MOST 1048576: true; the input reads as it did. -/
def fnExactCriticalPairsJoinUptoRow : OpenClaim := { program := "ytjefjhbnkcokhaa", sum := "b2f68a292d3bc14a5846829c9dac9949c068d734c1281c4665de1ace7534d35c", func := "loop.example/g01076/laws.FnExactCriticalPairsJoin", spec := "fnExactCriticalPairsJoin", unfollowed := true, recurses := true, apart := false, narrowed := true }
def FnExactCriticalPairsJoinUptoSaid : Prop := fnExactCriticalPairsJoinUptoRow.holds Try.pinned (OpenSpec.upto fnExactCriticalPairsJoinSpec)

/-- 'laws.FnCriticalPairs', WHERE WHAT IT READS IS OF BULK AT MOST 1048576: true; the input reads as it did. -/
def fnCriticalPairsUptoRow : OpenClaim := { program := "ytjefjhbnkcokhaa", sum := "b2f68a292d3bc14a5846829c9dac9949c068d734c1281c4665de1ace7534d35c", func := "loop.example/g01076/laws.FnCriticalPairs", spec := "fnCriticalPairs", unfollowed := true, recurses := true, apart := false, narrowed := true }
def FnCriticalPairsUptoSaid : Prop := fnCriticalPairsUptoRow.holds Try.pinned (OpenSpec.upto fnCriticalPairsSpec)

/-- 'laws.FnSteps', WHERE WHAT IT READS IS OF BULK AT MOST 1048576: true; the input reads as it did. -/
def fnStepsUptoRow : OpenClaim := { program := "ytjefjhbnkcokhaa", sum := "b2f68a292d3bc14a5846829c9dac9949c068d734c1281c4665de1ace7534d35c", func := "loop.example/g01076/laws.FnSteps", spec := "fnSteps", recurses := true, apart := false, narrowed := true }
def FnStepsUptoSaid : Prop := fnStepsUptoRow.holds Try.pinned (OpenSpec.upto fnStepsSpec)

end Rows
end Go.Proofs.Ytjefjhbnkcokhaa
