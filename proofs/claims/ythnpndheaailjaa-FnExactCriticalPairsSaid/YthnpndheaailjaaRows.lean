/-
  No cell of these rows narrows 'for every input' (looked for: loops, veiled, ifaces, maps, wideKeys, modest, calm, conditions, laid).
  DERIVED. THE GIVEN ROWS OF THIS SEAT. 11 by the template 'for every input the law returns true; each argument reads behind the call as it read before'; 0 by the template 'total and deterministic' (their statements: YthnpndheaailjaaTotals.lean).
  GIVEN WITH THE SEED: the statements are not yours to turn. If you find one false, say at which input.
  Laid BY PROGRAM, IN A SANDBOX (cutbox-rows.mjs): the forced cells as the released guide's own fill.sh prints them over the translation 5084c7f7cac34680… (all of the seat's roots in one cut). By AI agents, Wed Nov 11 2026. No macro, syntax, notation, axiom, sorry.
-/
import Derived.Test.YthnpndheaailjaaChecked
import GoSem.Claim
import GoSem.ClaimJoined
import GoSem.ClaimMapViews
import Derived.JoinedTies
import Derived.KernelRfl
namespace Go.Proofs.Ythnpndheaailjaa
/- THE CELL 'sum', in the pinned program and in every row, IS THE sha256 OF THE DUMP (.gsa) THAT YthnpndheaailjaaProg.lean LOADS. Nothing in Lean hashes anything: it is a label: what it is worth is what the hold of that sum in a sandbox is worth. -/
noncomputable def Try.pinned : Pinned := { name := "ythnpndheaailjaa", sum := "5084c7f7cac34680f3a1a8f8e1bd01f5caf056ab7907a6a82cb1d32274849db0", checked := Try.checked }
namespace Rows
def none {H : Type} : Left H := { results := [], args := [] }

/-- 'laws.FnExactWordPower': WHATEVER THE INPUT: true; the input reads as it did. -/
def fnExactWordPowerSpec : ChangeSpec := { name := "fnExactWordPower", fn := fun _ => fun
  | [d1, d2, d3] => { results := [.lit (.bool true)], args := [d1, d2, d3] }
  | _ => none }
def fnExactWordPowerRow : OpenClaim := { program := "ythnpndheaailjaa", sum := "5084c7f7cac34680f3a1a8f8e1bd01f5caf056ab7907a6a82cb1d32274849db0", func := "loop.example/g01076/laws.FnExactWordPower", spec := "fnExactWordPower", apart := false }
def FnExactWordPowerSaid : Prop := fnExactWordPowerRow.holds Try.pinned (OpenSpec.ofChange fnExactWordPowerSpec)

/-- ITS FALSE NEIGHBOUR: 'it returns false'. Refute it at one input. -/
def fnExactWordPowerWrong : ChangeSpec := { name := "fnExactWordPower", fn := fun _ => fun
  | [d1, d2, d3] => { results := [.lit (.bool false)], args := [d1, d2, d3] }
  | _ => none }
def FnExactWordPowerWrongFalsely : Prop := fnExactWordPowerRow.holds Try.pinned (OpenSpec.ofChange fnExactWordPowerWrong)

/-- 'laws.FnExactCyclicPresentation': WHATEVER THE INPUT: true; the input reads as it did. -/
def fnExactCyclicPresentationSpec : ChangeSpec := { name := "fnExactCyclicPresentation", fn := fun _ => fun
  | [d] => { results := [.lit (.bool true)], args := [d] }
  | _ => none }
def fnExactCyclicPresentationRow : OpenClaim := { program := "ythnpndheaailjaa", sum := "5084c7f7cac34680f3a1a8f8e1bd01f5caf056ab7907a6a82cb1d32274849db0", func := "loop.example/g01076/laws.FnExactCyclicPresentation", spec := "fnExactCyclicPresentation", apart := false }
def FnExactCyclicPresentationSaid : Prop := fnExactCyclicPresentationRow.holds Try.pinned (OpenSpec.ofChange fnExactCyclicPresentationSpec)

/-- ITS FALSE NEIGHBOUR: 'it returns false'. Refute it at one input. -/
def fnExactCyclicPresentationWrong : ChangeSpec := { name := "fnExactCyclicPresentation", fn := fun _ => fun
  | [d] => { results := [.lit (.bool false)], args := [d] }
  | _ => none }
def FnExactCyclicPresentationWrongFalsely : Prop := fnExactCyclicPresentationRow.holds Try.pinned (OpenSpec.ofChange fnExactCyclicPresentationWrong)

/-- 'laws.FnExactPresentationRelators': WHATEVER THE INPUT: true; the input reads as it did. -/
def fnExactPresentationRelatorsSpec : ChangeSpec := { name := "fnExactPresentationRelators", fn := fun _ => fun
  | [d] => { results := [.lit (.bool true)], args := [d] }
  | _ => none }
def fnExactPresentationRelatorsRow : OpenClaim := { program := "ythnpndheaailjaa", sum := "5084c7f7cac34680f3a1a8f8e1bd01f5caf056ab7907a6a82cb1d32274849db0", func := "loop.example/g01076/laws.FnExactPresentationRelators", spec := "fnExactPresentationRelators", apart := false }
def FnExactPresentationRelatorsSaid : Prop := fnExactPresentationRelatorsRow.holds Try.pinned (OpenSpec.ofChange fnExactPresentationRelatorsSpec)

/-- ITS FALSE NEIGHBOUR: 'it returns false'. Refute it at one input. -/
def fnExactPresentationRelatorsWrong : ChangeSpec := { name := "fnExactPresentationRelators", fn := fun _ => fun
  | [d] => { results := [.lit (.bool false)], args := [d] }
  | _ => none }
def FnExactPresentationRelatorsWrongFalsely : Prop := fnExactPresentationRelatorsRow.holds Try.pinned (OpenSpec.ofChange fnExactPresentationRelatorsWrong)

/-- 'laws.FnExactDirectProduct': WHATEVER THE INPUT: true; the input reads as it did. -/
def fnExactDirectProductSpec : ChangeSpec := { name := "fnExactDirectProduct", fn := fun _ => fun
  | [d1, d2] => { results := [.lit (.bool true)], args := [d1, d2] }
  | _ => none }
def fnExactDirectProductRow : OpenClaim := { program := "ythnpndheaailjaa", sum := "5084c7f7cac34680f3a1a8f8e1bd01f5caf056ab7907a6a82cb1d32274849db0", func := "loop.example/g01076/laws.FnExactDirectProduct", spec := "fnExactDirectProduct", apart := false }
def FnExactDirectProductSaid : Prop := fnExactDirectProductRow.holds Try.pinned (OpenSpec.ofChange fnExactDirectProductSpec)

/-- ITS FALSE NEIGHBOUR: 'it returns false'. Refute it at one input. -/
def fnExactDirectProductWrong : ChangeSpec := { name := "fnExactDirectProduct", fn := fun _ => fun
  | [d1, d2] => { results := [.lit (.bool false)], args := [d1, d2] }
  | _ => none }
def FnExactDirectProductWrongFalsely : Prop := fnExactDirectProductRow.holds Try.pinned (OpenSpec.ofChange fnExactDirectProductWrong)

/-- 'laws.FnExactIsRealisation': WHATEVER THE INPUT: true; the input reads as it did. -/
def fnExactIsRealisationSpec : ChangeSpec := { name := "fnExactIsRealisation", fn := fun _ => fun
  | [d1, d2] => { results := [.lit (.bool true)], args := [d1, d2] }
  | _ => none }
def fnExactIsRealisationRow : OpenClaim := { program := "ythnpndheaailjaa", sum := "5084c7f7cac34680f3a1a8f8e1bd01f5caf056ab7907a6a82cb1d32274849db0", func := "loop.example/g01076/laws.FnExactIsRealisation", spec := "fnExactIsRealisation", apart := false }
def FnExactIsRealisationSaid : Prop := fnExactIsRealisationRow.holds Try.pinned (OpenSpec.ofChange fnExactIsRealisationSpec)

/-- ITS FALSE NEIGHBOUR: 'it returns false'. Refute it at one input. -/
def fnExactIsRealisationWrong : ChangeSpec := { name := "fnExactIsRealisation", fn := fun _ => fun
  | [d1, d2] => { results := [.lit (.bool false)], args := [d1, d2] }
  | _ => none }
def FnExactIsRealisationWrongFalsely : Prop := fnExactIsRealisationRow.holds Try.pinned (OpenSpec.ofChange fnExactIsRealisationWrong)

/-- 'laws.FnExactIsHom': WHATEVER THE INPUT: true; the input reads as it did. -/
def fnExactIsHomSpec : ChangeSpec := { name := "fnExactIsHom", fn := fun _ => fun
  | [d] => { results := [.lit (.bool true)], args := [d] }
  | _ => none }
def fnExactIsHomRow : OpenClaim := { program := "ythnpndheaailjaa", sum := "5084c7f7cac34680f3a1a8f8e1bd01f5caf056ab7907a6a82cb1d32274849db0", func := "loop.example/g01076/laws.FnExactIsHom", spec := "fnExactIsHom", recurses := true, apart := false }
def FnExactIsHomSaid : Prop := fnExactIsHomRow.holds Try.pinned (OpenSpec.ofChange fnExactIsHomSpec)

/-- ITS FALSE NEIGHBOUR: 'it returns false'. Refute it at one input. -/
def fnExactIsHomWrong : ChangeSpec := { name := "fnExactIsHom", fn := fun _ => fun
  | [d] => { results := [.lit (.bool false)], args := [d] }
  | _ => none }
def FnExactIsHomWrongFalsely : Prop := fnExactIsHomRow.holds Try.pinned (OpenSpec.ofChange fnExactIsHomWrong)

/-- 'laws.FnWordTexts': WHATEVER THE INPUT: true; the input reads as it did. -/
def fnWordTextsSpec : ChangeSpec := { name := "fnWordTexts", fn := fun _ => fun
  | [d] => { results := [.lit (.bool true)], args := [d] }
  | _ => none }
def fnWordTextsRow : OpenClaim := { program := "ythnpndheaailjaa", sum := "5084c7f7cac34680f3a1a8f8e1bd01f5caf056ab7907a6a82cb1d32274849db0", func := "loop.example/g01076/laws.FnWordTexts", spec := "fnWordTexts", apart := false }
def FnWordTextsSaid : Prop := fnWordTextsRow.holds Try.pinned (OpenSpec.ofChange fnWordTextsSpec)

/-- ITS FALSE NEIGHBOUR: 'it returns false'. Refute it at one input. -/
def fnWordTextsWrong : ChangeSpec := { name := "fnWordTexts", fn := fun _ => fun
  | [d] => { results := [.lit (.bool false)], args := [d] }
  | _ => none }
def FnWordTextsWrongFalsely : Prop := fnWordTextsRow.holds Try.pinned (OpenSpec.ofChange fnWordTextsWrong)

/-- 'laws.FnWordGroup': WHATEVER THE INPUT: true; the input reads as it did. -/
def fnWordGroupSpec : ChangeSpec := { name := "fnWordGroup", fn := fun _ => fun
  | [d] => { results := [.lit (.bool true)], args := [d] }
  | _ => none }
def fnWordGroupRow : OpenClaim := { program := "ythnpndheaailjaa", sum := "5084c7f7cac34680f3a1a8f8e1bd01f5caf056ab7907a6a82cb1d32274849db0", func := "loop.example/g01076/laws.FnWordGroup", spec := "fnWordGroup", apart := false }
def FnWordGroupSaid : Prop := fnWordGroupRow.holds Try.pinned (OpenSpec.ofChange fnWordGroupSpec)

/-- ITS FALSE NEIGHBOUR: 'it returns false'. Refute it at one input. -/
def fnWordGroupWrong : ChangeSpec := { name := "fnWordGroup", fn := fun _ => fun
  | [d] => { results := [.lit (.bool false)], args := [d] }
  | _ => none }
def FnWordGroupWrongFalsely : Prop := fnWordGroupRow.holds Try.pinned (OpenSpec.ofChange fnWordGroupWrong)

/-- 'laws.FnSubstitutions': WHATEVER THE INPUT: true; the input reads as it did. -/
def fnSubstitutionsSpec : ChangeSpec := { name := "fnSubstitutions", fn := fun _ => fun
  | [d] => { results := [.lit (.bool true)], args := [d] }
  | _ => none }
def fnSubstitutionsRow : OpenClaim := { program := "ythnpndheaailjaa", sum := "5084c7f7cac34680f3a1a8f8e1bd01f5caf056ab7907a6a82cb1d32274849db0", func := "loop.example/g01076/laws.FnSubstitutions", spec := "fnSubstitutions", apart := false }
def FnSubstitutionsSaid : Prop := fnSubstitutionsRow.holds Try.pinned (OpenSpec.ofChange fnSubstitutionsSpec)

/-- ITS FALSE NEIGHBOUR: 'it returns false'. Refute it at one input. -/
def fnSubstitutionsWrong : ChangeSpec := { name := "fnSubstitutions", fn := fun _ => fun
  | [d] => { results := [.lit (.bool false)], args := [d] }
  | _ => none }
def FnSubstitutionsWrongFalsely : Prop := fnSubstitutionsRow.holds Try.pinned (OpenSpec.ofChange fnSubstitutionsWrong)

/-- 'laws.FnExactCriticalPairs': WHATEVER THE INPUT: true; the input reads as it did. -/
def fnExactCriticalPairsSpec : ChangeSpec := { name := "fnExactCriticalPairs", fn := fun _ => fun
  | [d] => { results := [.lit (.bool true)], args := [d] }
  | _ => none }
def fnExactCriticalPairsRow : OpenClaim := { program := "ythnpndheaailjaa", sum := "5084c7f7cac34680f3a1a8f8e1bd01f5caf056ab7907a6a82cb1d32274849db0", func := "loop.example/g01076/laws.FnExactCriticalPairs", spec := "fnExactCriticalPairs", unfollowed := true, recurses := true, apart := false }
def FnExactCriticalPairsSaid : Prop := fnExactCriticalPairsRow.holds Try.pinned (OpenSpec.ofChange fnExactCriticalPairsSpec)

/-- ITS FALSE NEIGHBOUR: 'it returns false'. Refute it at one input. -/
def fnExactCriticalPairsWrong : ChangeSpec := { name := "fnExactCriticalPairs", fn := fun _ => fun
  | [d] => { results := [.lit (.bool false)], args := [d] }
  | _ => none }
def FnExactCriticalPairsWrongFalsely : Prop := fnExactCriticalPairsRow.holds Try.pinned (OpenSpec.ofChange fnExactCriticalPairsWrong)

/-- 'laws.FnExactCriticalPairsJoin': WHATEVER THE INPUT: true; the input reads as it did. -/
def fnExactCriticalPairsJoinSpec : ChangeSpec := { name := "fnExactCriticalPairsJoin", fn := fun _ => fun
  | [d1, d2] => { results := [.lit (.bool true)], args := [d1, d2] }
  | _ => none }
def fnExactCriticalPairsJoinRow : OpenClaim := { program := "ythnpndheaailjaa", sum := "5084c7f7cac34680f3a1a8f8e1bd01f5caf056ab7907a6a82cb1d32274849db0", func := "loop.example/g01076/laws.FnExactCriticalPairsJoin", spec := "fnExactCriticalPairsJoin", unfollowed := true, recurses := true, apart := false }
def FnExactCriticalPairsJoinSaid : Prop := fnExactCriticalPairsJoinRow.holds Try.pinned (OpenSpec.ofChange fnExactCriticalPairsJoinSpec)

/-- ITS FALSE NEIGHBOUR: 'it returns false'. Refute it at one input. -/
def fnExactCriticalPairsJoinWrong : ChangeSpec := { name := "fnExactCriticalPairsJoin", fn := fun _ => fun
  | [d1, d2] => { results := [.lit (.bool false)], args := [d1, d2] }
  | _ => none }
def FnExactCriticalPairsJoinWrongFalsely : Prop := fnExactCriticalPairsJoinRow.holds Try.pinned (OpenSpec.ofChange fnExactCriticalPairsJoinWrong)

/- THE SECOND FORM. 'bulk': how many values and letters a reading holds, each counted each time it is reached (what is shared counts as often as it is met; a slice's spare places count too). A statement '..UptoSaid' is the law's where the arguments, and the package variables that the reading takes, are together of bulk at most 1048576: NARROWER than '..Said'. Prove '..Said' where nothing that the law and all that it calls make is longer than what came in: it says more and counts as full. Else prove '..UptoSaid'. A law counts once. -/
mutual
def uptoBulk {H : Type} : DataW H → Nat
  | .lit (.string bytes) => bytes.length + 1
  | .lit _ => 1
  | .nil => 1
  | .ptr d => uptoBulk d + 1
  | .slice elems spare => uptoBulkAll elems + uptoBulkAll spare + 1
  | .agg parts => uptoBulkAll parts + 1
  | .iface _ d => uptoBulk d + 1
  | .map entries => uptoBulkEntries entries + 1
  | .held _ => 1
def uptoBulkAll {H : Type} : List (DataW H) → Nat
  | [] => 0
  | d :: r => uptoBulk d + uptoBulkAll r
def uptoBulkEntries {H : Type} : List (Lit × DataW H) → Nat
  | [] => 0
  | x :: r => uptoBulkEntry x + uptoBulkEntries r
def uptoBulkEntry {H : Type} : Lit × DataW H → Nat
  | (.string bytes, d) => bytes.length + uptoBulk d + 1
  | (_, d) => uptoBulk d + 1
 end
def uptoSmall : (H : Type) → List (DataW H) → Bool := fun _ ds => decide (uptoBulkAll ds ≤ 1048576)
def OpenSpec.upto (s : _root_.Go.ChangeSpec) : _root_.Go.OpenSpec := { _root_.Go.OpenSpec.ofChange s with cond := some uptoSmall }

/-- 'laws.FnExactWordPower', WHERE WHAT IT READS IS OF BULK AT MOST 1048576: true; the input reads as it did. -/
def fnExactWordPowerUptoRow : OpenClaim := { program := "ythnpndheaailjaa", sum := "5084c7f7cac34680f3a1a8f8e1bd01f5caf056ab7907a6a82cb1d32274849db0", func := "loop.example/g01076/laws.FnExactWordPower", spec := "fnExactWordPower", apart := false, narrowed := true }
def FnExactWordPowerUptoSaid : Prop := fnExactWordPowerUptoRow.holds Try.pinned (OpenSpec.upto fnExactWordPowerSpec)

/-- 'laws.FnExactCyclicPresentation', WHERE WHAT IT READS IS OF BULK AT MOST 1048576: true; the input reads as it did. -/
def fnExactCyclicPresentationUptoRow : OpenClaim := { program := "ythnpndheaailjaa", sum := "5084c7f7cac34680f3a1a8f8e1bd01f5caf056ab7907a6a82cb1d32274849db0", func := "loop.example/g01076/laws.FnExactCyclicPresentation", spec := "fnExactCyclicPresentation", apart := false, narrowed := true }
def FnExactCyclicPresentationUptoSaid : Prop := fnExactCyclicPresentationUptoRow.holds Try.pinned (OpenSpec.upto fnExactCyclicPresentationSpec)

/-- 'laws.FnExactPresentationRelators', WHERE WHAT IT READS IS OF BULK AT MOST 1048576: true; the input reads as it did. -/
def fnExactPresentationRelatorsUptoRow : OpenClaim := { program := "ythnpndheaailjaa", sum := "5084c7f7cac34680f3a1a8f8e1bd01f5caf056ab7907a6a82cb1d32274849db0", func := "loop.example/g01076/laws.FnExactPresentationRelators", spec := "fnExactPresentationRelators", apart := false, narrowed := true }
def FnExactPresentationRelatorsUptoSaid : Prop := fnExactPresentationRelatorsUptoRow.holds Try.pinned (OpenSpec.upto fnExactPresentationRelatorsSpec)

/-- 'laws.FnExactDirectProduct', WHERE WHAT IT READS IS OF BULK AT MOST 1048576: true; the input reads as it did. -/
def fnExactDirectProductUptoRow : OpenClaim := { program := "ythnpndheaailjaa", sum := "5084c7f7cac34680f3a1a8f8e1bd01f5caf056ab7907a6a82cb1d32274849db0", func := "loop.example/g01076/laws.FnExactDirectProduct", spec := "fnExactDirectProduct", apart := false, narrowed := true }
def FnExactDirectProductUptoSaid : Prop := fnExactDirectProductUptoRow.holds Try.pinned (OpenSpec.upto fnExactDirectProductSpec)

/-- 'laws.FnExactIsRealisation', WHERE WHAT IT READS IS OF BULK AT MOST 1048576: true; the input reads as it did. -/
def fnExactIsRealisationUptoRow : OpenClaim := { program := "ythnpndheaailjaa", sum := "5084c7f7cac34680f3a1a8f8e1bd01f5caf056ab7907a6a82cb1d32274849db0", func := "loop.example/g01076/laws.FnExactIsRealisation", spec := "fnExactIsRealisation", apart := false, narrowed := true }
def FnExactIsRealisationUptoSaid : Prop := fnExactIsRealisationUptoRow.holds Try.pinned (OpenSpec.upto fnExactIsRealisationSpec)

/-- 'laws.FnExactIsHom', WHERE WHAT IT READS IS OF BULK AT MOST 1048576: true; the input reads as it did. -/
def fnExactIsHomUptoRow : OpenClaim := { program := "ythnpndheaailjaa", sum := "5084c7f7cac34680f3a1a8f8e1bd01f5caf056ab7907a6a82cb1d32274849db0", func := "loop.example/g01076/laws.FnExactIsHom", spec := "fnExactIsHom", recurses := true, apart := false, narrowed := true }
def FnExactIsHomUptoSaid : Prop := fnExactIsHomUptoRow.holds Try.pinned (OpenSpec.upto fnExactIsHomSpec)

/-- 'laws.FnWordTexts', WHERE WHAT IT READS IS OF BULK AT MOST 1048576: true; the input reads as it did. -/
def fnWordTextsUptoRow : OpenClaim := { program := "ythnpndheaailjaa", sum := "5084c7f7cac34680f3a1a8f8e1bd01f5caf056ab7907a6a82cb1d32274849db0", func := "loop.example/g01076/laws.FnWordTexts", spec := "fnWordTexts", apart := false, narrowed := true }
def FnWordTextsUptoSaid : Prop := fnWordTextsUptoRow.holds Try.pinned (OpenSpec.upto fnWordTextsSpec)

/-- 'laws.FnWordGroup', WHERE WHAT IT READS IS OF BULK AT MOST 1048576: true; the input reads as it did. -/
def fnWordGroupUptoRow : OpenClaim := { program := "ythnpndheaailjaa", sum := "5084c7f7cac34680f3a1a8f8e1bd01f5caf056ab7907a6a82cb1d32274849db0", func := "loop.example/g01076/laws.FnWordGroup", spec := "fnWordGroup", apart := false, narrowed := true }
def FnWordGroupUptoSaid : Prop := fnWordGroupUptoRow.holds Try.pinned (OpenSpec.upto fnWordGroupSpec)

/-- 'laws.FnSubstitutions', WHERE WHAT IT READS IS OF BULK AT MOST 1048576: true; the input reads as it did. -/
def fnSubstitutionsUptoRow : OpenClaim := { program := "ythnpndheaailjaa", sum := "5084c7f7cac34680f3a1a8f8e1bd01f5caf056ab7907a6a82cb1d32274849db0", func := "loop.example/g01076/laws.FnSubstitutions", spec := "fnSubstitutions", apart := false, narrowed := true }
def FnSubstitutionsUptoSaid : Prop := fnSubstitutionsUptoRow.holds Try.pinned (OpenSpec.upto fnSubstitutionsSpec)

/-- 'laws.FnExactCriticalPairs', WHERE WHAT IT READS IS OF BULK AT MOST 1048576: true; the input reads as it did. -/
def fnExactCriticalPairsUptoRow : OpenClaim := { program := "ythnpndheaailjaa", sum := "5084c7f7cac34680f3a1a8f8e1bd01f5caf056ab7907a6a82cb1d32274849db0", func := "loop.example/g01076/laws.FnExactCriticalPairs", spec := "fnExactCriticalPairs", unfollowed := true, recurses := true, apart := false, narrowed := true }
def FnExactCriticalPairsUptoSaid : Prop := fnExactCriticalPairsUptoRow.holds Try.pinned (OpenSpec.upto fnExactCriticalPairsSpec)

/-- 'laws.FnExactCriticalPairsJoin', WHERE WHAT IT READS IS OF BULK AT MOST 1048576: true; the input reads as it did. -/
def fnExactCriticalPairsJoinUptoRow : OpenClaim := { program := "ythnpndheaailjaa", sum := "5084c7f7cac34680f3a1a8f8e1bd01f5caf056ab7907a6a82cb1d32274849db0", func := "loop.example/g01076/laws.FnExactCriticalPairsJoin", spec := "fnExactCriticalPairsJoin", unfollowed := true, recurses := true, apart := false, narrowed := true }
def FnExactCriticalPairsJoinUptoSaid : Prop := fnExactCriticalPairsJoinUptoRow.holds Try.pinned (OpenSpec.upto fnExactCriticalPairsJoinSpec)

end Rows
end Go.Proofs.Ythnpndheaailjaa
