/-
  No cell of these rows narrows 'for every input' (looked for: loops, veiled, ifaces, maps, wideKeys, modest, calm, conditions, laid).
  DERIVED. THE GIVEN ROWS OF THIS SEAT. 12 by the template 'for every input the law returns true; each argument reads behind the call as it read before'; 0 by the template 'total and deterministic' (their statements: YtodlagikdofjfaaTotals.lean).
  GIVEN WITH THE SEED: the statements are not yours to turn. If you find one false, say at which input.
  Laid BY PROGRAM, IN A SANDBOX (cutbox-rows.mjs): the forced cells as the released guide's own fill.sh prints them over the translation 754d002d26ed4033… (all of the seat's roots in one cut). By AI agents, Wed Nov 11 2026. No macro, syntax, notation, axiom, sorry.
-/
import Derived.Test.YtodlagikdofjfaaChecked
import GoSem.Claim
import GoSem.ClaimJoined
import GoSem.ClaimMapViews
import Derived.JoinedTies
import Derived.KernelRfl
namespace Go.Proofs.Ytodlagikdofjfaa
/- THE CELL 'sum', in the pinned program and in every row, IS THE sha256 OF THE DUMP (.gsa) THAT YtodlagikdofjfaaProg.lean LOADS. Nothing in Lean hashes anything: it is a label: what it is worth is what the hold of that sum in a sandbox is worth. -/
noncomputable def Try.pinned : Pinned := { name := "ytodlagikdofjfaa", sum := "754d002d26ed403392830d4b55d3721f22afacffb85b5a675b70929485777f85", checked := Try.checked }
namespace Rows
def none {H : Type} : Left H := { results := [], args := [] }

/-- 'laws.FnExactAbelianPresentation': WHATEVER THE INPUT: true; the input reads as it did. -/
def fnExactAbelianPresentationSpec : ChangeSpec := { name := "fnExactAbelianPresentation", fn := fun _ => fun
  | [d] => { results := [.lit (.bool true)], args := [d] }
  | _ => none }
def fnExactAbelianPresentationRow : OpenClaim := { program := "ytodlagikdofjfaa", sum := "754d002d26ed403392830d4b55d3721f22afacffb85b5a675b70929485777f85", func := "loop.example/g01076/laws.FnExactAbelianPresentation", spec := "fnExactAbelianPresentation", apart := false }
def FnExactAbelianPresentationSaid : Prop := fnExactAbelianPresentationRow.holds Try.pinned (OpenSpec.ofChange fnExactAbelianPresentationSpec)

/-- ITS FALSE NEIGHBOUR: 'it returns false'. Refute it at one input. -/
def fnExactAbelianPresentationWrong : ChangeSpec := { name := "fnExactAbelianPresentation", fn := fun _ => fun
  | [d] => { results := [.lit (.bool false)], args := [d] }
  | _ => none }
def FnExactAbelianPresentationWrongFalsely : Prop := fnExactAbelianPresentationRow.holds Try.pinned (OpenSpec.ofChange fnExactAbelianPresentationWrong)

/-- 'laws.FnExactSubstituteWord': WHATEVER THE INPUT: true; the input reads as it did. -/
def fnExactSubstituteWordSpec : ChangeSpec := { name := "fnExactSubstituteWord", fn := fun _ => fun
  | [d1, d2, d3, d4] => { results := [.lit (.bool true)], args := [d1, d2, d3, d4] }
  | _ => none }
def fnExactSubstituteWordRow : OpenClaim := { program := "ytodlagikdofjfaa", sum := "754d002d26ed403392830d4b55d3721f22afacffb85b5a675b70929485777f85", func := "loop.example/g01076/laws.FnExactSubstituteWord", spec := "fnExactSubstituteWord", apart := false }
def FnExactSubstituteWordSaid : Prop := fnExactSubstituteWordRow.holds Try.pinned (OpenSpec.ofChange fnExactSubstituteWordSpec)

/-- ITS FALSE NEIGHBOUR: 'it returns false'. Refute it at one input. -/
def fnExactSubstituteWordWrong : ChangeSpec := { name := "fnExactSubstituteWord", fn := fun _ => fun
  | [d1, d2, d3, d4] => { results := [.lit (.bool false)], args := [d1, d2, d3, d4] }
  | _ => none }
def FnExactSubstituteWordWrongFalsely : Prop := fnExactSubstituteWordRow.holds Try.pinned (OpenSpec.ofChange fnExactSubstituteWordWrong)

/-- 'laws.FnExactEvaluateBijections': WHATEVER THE INPUT: true; the input reads as it did. -/
def fnExactEvaluateBijectionsSpec : ChangeSpec := { name := "fnExactEvaluateBijections", fn := fun _ => fun
  | [d1, d2] => { results := [.lit (.bool true)], args := [d1, d2] }
  | _ => none }
def fnExactEvaluateBijectionsRow : OpenClaim := { program := "ytodlagikdofjfaa", sum := "754d002d26ed403392830d4b55d3721f22afacffb85b5a675b70929485777f85", func := "loop.example/g01076/laws.FnExactEvaluateBijections", spec := "fnExactEvaluateBijections", apart := false }
def FnExactEvaluateBijectionsSaid : Prop := fnExactEvaluateBijectionsRow.holds Try.pinned (OpenSpec.ofChange fnExactEvaluateBijectionsSpec)

/-- ITS FALSE NEIGHBOUR: 'it returns false'. Refute it at one input. -/
def fnExactEvaluateBijectionsWrong : ChangeSpec := { name := "fnExactEvaluateBijections", fn := fun _ => fun
  | [d1, d2] => { results := [.lit (.bool false)], args := [d1, d2] }
  | _ => none }
def FnExactEvaluateBijectionsWrongFalsely : Prop := fnExactEvaluateBijectionsRow.holds Try.pinned (OpenSpec.ofChange fnExactEvaluateBijectionsWrong)

/-- 'laws.FnExactIsPresentation': WHATEVER THE INPUT: true; the input reads as it did. -/
def fnExactIsPresentationSpec : ChangeSpec := { name := "fnExactIsPresentation", fn := fun _ => fun
  | [d] => { results := [.lit (.bool true)], args := [d] }
  | _ => none }
def fnExactIsPresentationRow : OpenClaim := { program := "ytodlagikdofjfaa", sum := "754d002d26ed403392830d4b55d3721f22afacffb85b5a675b70929485777f85", func := "loop.example/g01076/laws.FnExactIsPresentation", spec := "fnExactIsPresentation", apart := false }
def FnExactIsPresentationSaid : Prop := fnExactIsPresentationRow.holds Try.pinned (OpenSpec.ofChange fnExactIsPresentationSpec)

/-- ITS FALSE NEIGHBOUR: 'it returns false'. Refute it at one input. -/
def fnExactIsPresentationWrong : ChangeSpec := { name := "fnExactIsPresentation", fn := fun _ => fun
  | [d] => { results := [.lit (.bool false)], args := [d] }
  | _ => none }
def FnExactIsPresentationWrongFalsely : Prop := fnExactIsPresentationRow.holds Try.pinned (OpenSpec.ofChange fnExactIsPresentationWrong)

/-- 'laws.FnExactIsExponentVector': WHATEVER THE INPUT: true; the input reads as it did. -/
def fnExactIsExponentVectorSpec : ChangeSpec := { name := "fnExactIsExponentVector", fn := fun _ => fun
  | [d1, d2] => { results := [.lit (.bool true)], args := [d1, d2] }
  | _ => none }
def fnExactIsExponentVectorRow : OpenClaim := { program := "ytodlagikdofjfaa", sum := "754d002d26ed403392830d4b55d3721f22afacffb85b5a675b70929485777f85", func := "loop.example/g01076/laws.FnExactIsExponentVector", spec := "fnExactIsExponentVector", apart := false }
def FnExactIsExponentVectorSaid : Prop := fnExactIsExponentVectorRow.holds Try.pinned (OpenSpec.ofChange fnExactIsExponentVectorSpec)

/-- ITS FALSE NEIGHBOUR: 'it returns false'. Refute it at one input. -/
def fnExactIsExponentVectorWrong : ChangeSpec := { name := "fnExactIsExponentVector", fn := fun _ => fun
  | [d1, d2] => { results := [.lit (.bool false)], args := [d1, d2] }
  | _ => none }
def FnExactIsExponentVectorWrongFalsely : Prop := fnExactIsExponentVectorRow.holds Try.pinned (OpenSpec.ofChange fnExactIsExponentVectorWrong)

/-- 'laws.FnExactPresentationOrder': WHATEVER THE INPUT: true; the input reads as it did. -/
def fnExactPresentationOrderSpec : ChangeSpec := { name := "fnExactPresentationOrder", fn := fun _ => fun
  | [d] => { results := [.lit (.bool true)], args := [d] }
  | _ => none }
def fnExactPresentationOrderRow : OpenClaim := { program := "ytodlagikdofjfaa", sum := "754d002d26ed403392830d4b55d3721f22afacffb85b5a675b70929485777f85", func := "loop.example/g01076/laws.FnExactPresentationOrder", spec := "fnExactPresentationOrder", apart := false }
def FnExactPresentationOrderSaid : Prop := fnExactPresentationOrderRow.holds Try.pinned (OpenSpec.ofChange fnExactPresentationOrderSpec)

/-- ITS FALSE NEIGHBOUR: 'it returns false'. Refute it at one input. -/
def fnExactPresentationOrderWrong : ChangeSpec := { name := "fnExactPresentationOrder", fn := fun _ => fun
  | [d] => { results := [.lit (.bool false)], args := [d] }
  | _ => none }
def FnExactPresentationOrderWrongFalsely : Prop := fnExactPresentationOrderRow.holds Try.pinned (OpenSpec.ofChange fnExactPresentationOrderWrong)

/-- 'laws.FnExactCyclicPresentation': WHATEVER THE INPUT: true; the input reads as it did. -/
def fnExactCyclicPresentationSpec : ChangeSpec := { name := "fnExactCyclicPresentation", fn := fun _ => fun
  | [d] => { results := [.lit (.bool true)], args := [d] }
  | _ => none }
def fnExactCyclicPresentationRow : OpenClaim := { program := "ytodlagikdofjfaa", sum := "754d002d26ed403392830d4b55d3721f22afacffb85b5a675b70929485777f85", func := "loop.example/g01076/laws.FnExactCyclicPresentation", spec := "fnExactCyclicPresentation", apart := false }
def FnExactCyclicPresentationSaid : Prop := fnExactCyclicPresentationRow.holds Try.pinned (OpenSpec.ofChange fnExactCyclicPresentationSpec)

/-- ITS FALSE NEIGHBOUR: 'it returns false'. Refute it at one input. -/
def fnExactCyclicPresentationWrong : ChangeSpec := { name := "fnExactCyclicPresentation", fn := fun _ => fun
  | [d] => { results := [.lit (.bool false)], args := [d] }
  | _ => none }
def FnExactCyclicPresentationWrongFalsely : Prop := fnExactCyclicPresentationRow.holds Try.pinned (OpenSpec.ofChange fnExactCyclicPresentationWrong)

/-- 'laws.FnExactIsNormalWord': WHATEVER THE INPUT: true; the input reads as it did. -/
def fnExactIsNormalWordSpec : ChangeSpec := { name := "fnExactIsNormalWord", fn := fun _ => fun
  | [d1, d2] => { results := [.lit (.bool true)], args := [d1, d2] }
  | _ => none }
def fnExactIsNormalWordRow : OpenClaim := { program := "ytodlagikdofjfaa", sum := "754d002d26ed403392830d4b55d3721f22afacffb85b5a675b70929485777f85", func := "loop.example/g01076/laws.FnExactIsNormalWord", spec := "fnExactIsNormalWord", apart := false }
def FnExactIsNormalWordSaid : Prop := fnExactIsNormalWordRow.holds Try.pinned (OpenSpec.ofChange fnExactIsNormalWordSpec)

/-- ITS FALSE NEIGHBOUR: 'it returns false'. Refute it at one input. -/
def fnExactIsNormalWordWrong : ChangeSpec := { name := "fnExactIsNormalWord", fn := fun _ => fun
  | [d1, d2] => { results := [.lit (.bool false)], args := [d1, d2] }
  | _ => none }
def FnExactIsNormalWordWrongFalsely : Prop := fnExactIsNormalWordRow.holds Try.pinned (OpenSpec.ofChange fnExactIsNormalWordWrong)

/-- 'laws.FnExactNormalWord': WHATEVER THE INPUT: true; the input reads as it did. -/
def fnExactNormalWordSpec : ChangeSpec := { name := "fnExactNormalWord", fn := fun _ => fun
  | [d1, d2] => { results := [.lit (.bool true)], args := [d1, d2] }
  | _ => none }
def fnExactNormalWordRow : OpenClaim := { program := "ytodlagikdofjfaa", sum := "754d002d26ed403392830d4b55d3721f22afacffb85b5a675b70929485777f85", func := "loop.example/g01076/laws.FnExactNormalWord", spec := "fnExactNormalWord", apart := false }
def FnExactNormalWordSaid : Prop := fnExactNormalWordRow.holds Try.pinned (OpenSpec.ofChange fnExactNormalWordSpec)

/-- ITS FALSE NEIGHBOUR: 'it returns false'. Refute it at one input. -/
def fnExactNormalWordWrong : ChangeSpec := { name := "fnExactNormalWord", fn := fun _ => fun
  | [d1, d2] => { results := [.lit (.bool false)], args := [d1, d2] }
  | _ => none }
def FnExactNormalWordWrongFalsely : Prop := fnExactNormalWordRow.holds Try.pinned (OpenSpec.ofChange fnExactNormalWordWrong)

/-- 'laws.FnExactTailPresentation': WHATEVER THE INPUT: true; the input reads as it did. -/
def fnExactTailPresentationSpec : ChangeSpec := { name := "fnExactTailPresentation", fn := fun _ => fun
  | [d1, d2] => { results := [.lit (.bool true)], args := [d1, d2] }
  | _ => none }
def fnExactTailPresentationRow : OpenClaim := { program := "ytodlagikdofjfaa", sum := "754d002d26ed403392830d4b55d3721f22afacffb85b5a675b70929485777f85", func := "loop.example/g01076/laws.FnExactTailPresentation", spec := "fnExactTailPresentation", apart := false }
def FnExactTailPresentationSaid : Prop := fnExactTailPresentationRow.holds Try.pinned (OpenSpec.ofChange fnExactTailPresentationSpec)

/-- ITS FALSE NEIGHBOUR: 'it returns false'. Refute it at one input. -/
def fnExactTailPresentationWrong : ChangeSpec := { name := "fnExactTailPresentation", fn := fun _ => fun
  | [d1, d2] => { results := [.lit (.bool false)], args := [d1, d2] }
  | _ => none }
def FnExactTailPresentationWrongFalsely : Prop := fnExactTailPresentationRow.holds Try.pinned (OpenSpec.ofChange fnExactTailPresentationWrong)

/-- 'laws.FnExactPresentationRelators': WHATEVER THE INPUT: true; the input reads as it did. -/
def fnExactPresentationRelatorsSpec : ChangeSpec := { name := "fnExactPresentationRelators", fn := fun _ => fun
  | [d] => { results := [.lit (.bool true)], args := [d] }
  | _ => none }
def fnExactPresentationRelatorsRow : OpenClaim := { program := "ytodlagikdofjfaa", sum := "754d002d26ed403392830d4b55d3721f22afacffb85b5a675b70929485777f85", func := "loop.example/g01076/laws.FnExactPresentationRelators", spec := "fnExactPresentationRelators", apart := false }
def FnExactPresentationRelatorsSaid : Prop := fnExactPresentationRelatorsRow.holds Try.pinned (OpenSpec.ofChange fnExactPresentationRelatorsSpec)

/-- ITS FALSE NEIGHBOUR: 'it returns false'. Refute it at one input. -/
def fnExactPresentationRelatorsWrong : ChangeSpec := { name := "fnExactPresentationRelators", fn := fun _ => fun
  | [d] => { results := [.lit (.bool false)], args := [d] }
  | _ => none }
def FnExactPresentationRelatorsWrongFalsely : Prop := fnExactPresentationRelatorsRow.holds Try.pinned (OpenSpec.ofChange fnExactPresentationRelatorsWrong)

/-- 'laws.FnExactDirectProduct': WHATEVER THE INPUT: true; the input reads as it did. -/
def fnExactDirectProductSpec : ChangeSpec := { name := "fnExactDirectProduct", fn := fun _ => fun
  | [d1, d2] => { results := [.lit (.bool true)], args := [d1, d2] }
  | _ => none }
def fnExactDirectProductRow : OpenClaim := { program := "ytodlagikdofjfaa", sum := "754d002d26ed403392830d4b55d3721f22afacffb85b5a675b70929485777f85", func := "loop.example/g01076/laws.FnExactDirectProduct", spec := "fnExactDirectProduct", apart := false }
def FnExactDirectProductSaid : Prop := fnExactDirectProductRow.holds Try.pinned (OpenSpec.ofChange fnExactDirectProductSpec)

/-- ITS FALSE NEIGHBOUR: 'it returns false'. Refute it at one input. -/
def fnExactDirectProductWrong : ChangeSpec := { name := "fnExactDirectProduct", fn := fun _ => fun
  | [d1, d2] => { results := [.lit (.bool false)], args := [d1, d2] }
  | _ => none }
def FnExactDirectProductWrongFalsely : Prop := fnExactDirectProductRow.holds Try.pinned (OpenSpec.ofChange fnExactDirectProductWrong)

/- THE SECOND FORM. 'bulk': how many values and letters a reading holds, each counted each time it is reached (what is shared counts as often as it is met; a slice's spare places count too). A statement '..UptoSaid' is the law's where the arguments, and the package variables that the reading takes, are together of bulk at most 1048576: NARROWER than '..Said'. Prove '..Said' where nothing that the law and all that it calls make is longer than what came in: it says more and counts as full. Else prove '..UptoSaid'. A law counts once. -/
mutual
def uptoBulk {H : Type} : DataW H → Nat
  | .lit (.string bytes) => bytes.length + 1
  | .lit _ => 1
  | .nil => 1
  | .ptr d => uptoBulk d + 1
  | .slice elems spare => uptoBulkAll elems + uptoBulkAll spare + 1
  | .agg parts => uptoBulkAll parts + 1
  | .iface _ d => uptoBulk d + 1
  | .map entries => uptoBulkEntries entries + 1
  | .held _ => 1
def uptoBulkAll {H : Type} : List (DataW H) → Nat
  | [] => 0
  | d :: r => uptoBulk d + uptoBulkAll r
def uptoBulkEntries {H : Type} : List (Lit × DataW H) → Nat
  | [] => 0
  | x :: r => uptoBulkEntry x + uptoBulkEntries r
def uptoBulkEntry {H : Type} : Lit × DataW H → Nat
  | (.string bytes, d) => bytes.length + uptoBulk d + 1
  | (_, d) => uptoBulk d + 1
 end
def uptoSmall : (H : Type) → List (DataW H) → Bool := fun _ ds => decide (uptoBulkAll ds ≤ 1048576)
def OpenSpec.upto (s : _root_.Go.ChangeSpec) : _root_.Go.OpenSpec := { _root_.Go.OpenSpec.ofChange s with cond := some uptoSmall }

/-- 'laws.FnExactAbelianPresentation', WHERE WHAT IT READS IS OF BULK AT MOST 1048576: true; the input reads as it did. -/
def fnExactAbelianPresentationUptoRow : OpenClaim := { program := "ytodlagikdofjfaa", sum := "754d002d26ed403392830d4b55d3721f22afacffb85b5a675b70929485777f85", func := "loop.example/g01076/laws.FnExactAbelianPresentation", spec := "fnExactAbelianPresentation", apart := false, narrowed := true }
def FnExactAbelianPresentationUptoSaid : Prop := fnExactAbelianPresentationUptoRow.holds Try.pinned (OpenSpec.upto fnExactAbelianPresentationSpec)

/-- 'laws.FnExactSubstituteWord', WHERE WHAT IT READS IS OF BULK AT MOST 1048576: true; the input reads as it did. -/
def fnExactSubstituteWordUptoRow : OpenClaim := { program := "ytodlagikdofjfaa", sum := "754d002d26ed403392830d4b55d3721f22afacffb85b5a675b70929485777f85", func := "loop.example/g01076/laws.FnExactSubstituteWord", spec := "fnExactSubstituteWord", apart := false, narrowed := true }
def FnExactSubstituteWordUptoSaid : Prop := fnExactSubstituteWordUptoRow.holds Try.pinned (OpenSpec.upto fnExactSubstituteWordSpec)

/-- 'laws.FnExactEvaluateBijections', WHERE WHAT IT READS IS OF BULK AT MOST 1048576: true; the input reads as it did. -/
def fnExactEvaluateBijectionsUptoRow : OpenClaim := { program := "ytodlagikdofjfaa", sum := "754d002d26ed403392830d4b55d3721f22afacffb85b5a675b70929485777f85", func := "loop.example/g01076/laws.FnExactEvaluateBijections", spec := "fnExactEvaluateBijections", apart := false, narrowed := true }
def FnExactEvaluateBijectionsUptoSaid : Prop := fnExactEvaluateBijectionsUptoRow.holds Try.pinned (OpenSpec.upto fnExactEvaluateBijectionsSpec)

/-- 'laws.FnExactIsPresentation', WHERE WHAT IT READS IS OF BULK AT MOST 1048576: true; the input reads as it did. -/
def fnExactIsPresentationUptoRow : OpenClaim := { program := "ytodlagikdofjfaa", sum := "754d002d26ed403392830d4b55d3721f22afacffb85b5a675b70929485777f85", func := "loop.example/g01076/laws.FnExactIsPresentation", spec := "fnExactIsPresentation", apart := false, narrowed := true }
def FnExactIsPresentationUptoSaid : Prop := fnExactIsPresentationUptoRow.holds Try.pinned (OpenSpec.upto fnExactIsPresentationSpec)

/-- 'laws.FnExactIsExponentVector', WHERE WHAT IT READS IS OF BULK AT MOST 1048576: true; the input reads as it did. -/
def fnExactIsExponentVectorUptoRow : OpenClaim := { program := "ytodlagikdofjfaa", sum := "754d002d26ed403392830d4b55d3721f22afacffb85b5a675b70929485777f85", func := "loop.example/g01076/laws.FnExactIsExponentVector", spec := "fnExactIsExponentVector", apart := false, narrowed := true }
def FnExactIsExponentVectorUptoSaid : Prop := fnExactIsExponentVectorUptoRow.holds Try.pinned (OpenSpec.upto fnExactIsExponentVectorSpec)

/-- 'laws.FnExactPresentationOrder', WHERE WHAT IT READS IS OF BULK AT MOST 1048576: true; the input reads as it did. -/
def fnExactPresentationOrderUptoRow : OpenClaim := { program := "ytodlagikdofjfaa", sum := "754d002d26ed403392830d4b55d3721f22afacffb85b5a675b70929485777f85", func := "loop.example/g01076/laws.FnExactPresentationOrder", spec := "fnExactPresentationOrder", apart := false, narrowed := true }
def FnExactPresentationOrderUptoSaid : Prop := fnExactPresentationOrderUptoRow.holds Try.pinned (OpenSpec.upto fnExactPresentationOrderSpec)

/-- 'laws.FnExactCyclicPresentation', WHERE WHAT IT READS IS OF BULK AT MOST 1048576: true; the input reads as it did. -/
def fnExactCyclicPresentationUptoRow : OpenClaim := { program := "ytodlagikdofjfaa", sum := "754d002d26ed403392830d4b55d3721f22afacffb85b5a675b70929485777f85", func := "loop.example/g01076/laws.FnExactCyclicPresentation", spec := "fnExactCyclicPresentation", apart := false, narrowed := true }
def FnExactCyclicPresentationUptoSaid : Prop := fnExactCyclicPresentationUptoRow.holds Try.pinned (OpenSpec.upto fnExactCyclicPresentationSpec)

/-- 'laws.FnExactIsNormalWord', WHERE WHAT IT READS IS OF BULK AT MOST 1048576: true; the input reads as it did. -/
def fnExactIsNormalWordUptoRow : OpenClaim := { program := "ytodlagikdofjfaa", sum := "754d002d26ed403392830d4b55d3721f22afacffb85b5a675b70929485777f85", func := "loop.example/g01076/laws.FnExactIsNormalWord", spec := "fnExactIsNormalWord", apart := false, narrowed := true }
def FnExactIsNormalWordUptoSaid : Prop := fnExactIsNormalWordUptoRow.holds Try.pinned (OpenSpec.upto fnExactIsNormalWordSpec)

/-- 'laws.FnExactNormalWord', WHERE WHAT IT READS IS OF BULK AT MOST 1048576: true; the input reads as it did. -/
def fnExactNormalWordUptoRow : OpenClaim := { program := "ytodlagikdofjfaa", sum := "754d002d26ed403392830d4b55d3721f22afacffb85b5a675b70929485777f85", func := "loop.example/g01076/laws.FnExactNormalWord", spec := "fnExactNormalWord", apart := false, narrowed := true }
def FnExactNormalWordUptoSaid : Prop := fnExactNormalWordUptoRow.holds Try.pinned (OpenSpec.upto fnExactNormalWordSpec)

/-- 'laws.FnExactTailPresentation', WHERE WHAT IT READS IS OF BULK AT MOST 1048576: true; the input reads as it did. -/
def fnExactTailPresentationUptoRow : OpenClaim := { program := "ytodlagikdofjfaa", sum := "754d002d26ed403392830d4b55d3721f22afacffb85b5a675b70929485777f85", func := "loop.example/g01076/laws.FnExactTailPresentation", spec := "fnExactTailPresentation", apart := false, narrowed := true }
def FnExactTailPresentationUptoSaid : Prop := fnExactTailPresentationUptoRow.holds Try.pinned (OpenSpec.upto fnExactTailPresentationSpec)

/-- 'laws.FnExactPresentationRelators', WHERE WHAT IT READS IS OF BULK AT MOST 1048576: true; the input reads as it did. -/
def fnExactPresentationRelatorsUptoRow : OpenClaim := { program := "ytodlagikdofjfaa", sum := "754d002d26ed403392830d4b55d3721f22afacffb85b5a675b70929485777f85", func := "loop.example/g01076/laws.FnExactPresentationRelators", spec := "fnExactPresentationRelators", apart := false, narrowed := true }
def FnExactPresentationRelatorsUptoSaid : Prop := fnExactPresentationRelatorsUptoRow.holds Try.pinned (OpenSpec.upto fnExactPresentationRelatorsSpec)

/-- 'laws.FnExactDirectProduct', WHERE WHAT IT READS IS OF BULK AT MOST 1048576: true; the input reads as it did. -/
def fnExactDirectProductUptoRow : OpenClaim := { program := "ytodlagikdofjfaa", sum := "754d002d26ed403392830d4b55d3721f22afacffb85b5a675b70929485777f85", func := "loop.example/g01076/laws.FnExactDirectProduct", spec := "fnExactDirectProduct", apart := false, narrowed := true }
def FnExactDirectProductUptoSaid : Prop := fnExactDirectProductUptoRow.holds Try.pinned (OpenSpec.upto fnExactDirectProductSpec)

end Rows
end Go.Proofs.Ytodlagikdofjfaa
