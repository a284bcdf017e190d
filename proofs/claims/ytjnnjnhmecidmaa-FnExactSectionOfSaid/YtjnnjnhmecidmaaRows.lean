/-
  No cell of these rows narrows 'for every input' (looked for: loops, veiled, ifaces, maps, wideKeys, modest, calm, conditions, laid).
  DERIVED. THE GIVEN ROWS OF THIS SEAT. 11 by the template 'for every input the law returns true; each argument reads behind the call as it read before'; 0 by the template 'total and deterministic' (their statements: YtjnnjnhmecidmaaTotals.lean).
  GIVEN WITH THE SEED: the statements are not yours to turn. If you find one false, say at which input.
  Laid BY PROGRAM, IN A SANDBOX (cutbox-rows.mjs): the forced cells as the released guide's own fill.sh prints them over the translation bd78f0ca7e488e97… (all of the seat's roots in one cut). By AI agents, Wed Nov 11 2026. No macro, syntax, notation, axiom, sorry.
-/
import Derived.Test.YtjnnjnhmecidmaaChecked
import GoSem.Claim
import GoSem.ClaimJoined
import GoSem.ClaimMapViews
import Derived.JoinedTies
import Derived.KernelRfl
namespace Go.Proofs.Ytjnnjnhmecidmaa
/- THE CELL 'sum', in the pinned program and in every row, IS THE sha256 OF THE DUMP (.gsa) THAT YtjnnjnhmecidmaaProg.lean LOADS. Nothing in Lean hashes anything: it is a label: what it is worth is what the hold of that sum in a sandbox is worth. -/
noncomputable def Try.pinned : Pinned := { name := "ytjnnjnhmecidmaa", sum := "bd78f0ca7e488e97a637a808d60a98a7f394ab4240e1113a2c4af59c325c4a8d", checked := Try.checked }
namespace Rows
def none {H : Type} : Left H := { results := [], args := [] }

/-- 'laws.FnExactDirectProduct': WHATEVER THE INPUT: true; the input reads as it did. -/
def fnExactDirectProductSpec : ChangeSpec := { name := "fnExactDirectProduct", fn := fun _ => fun
  | [d1, d2] => { results := [.lit (.bool true)], args := [d1, d2] }
  | _ => none }
def fnExactDirectProductRow : OpenClaim := { program := "ytjnnjnhmecidmaa", sum := "bd78f0ca7e488e97a637a808d60a98a7f394ab4240e1113a2c4af59c325c4a8d", func := "loop.example/g01076/laws.FnExactDirectProduct", spec := "fnExactDirectProduct", apart := false }
def FnExactDirectProductSaid : Prop := fnExactDirectProductRow.holds Try.pinned (OpenSpec.ofChange fnExactDirectProductSpec)

/-- ITS FALSE NEIGHBOUR: 'it returns false'. Refute it at one input. -/
def fnExactDirectProductWrong : ChangeSpec := { name := "fnExactDirectProduct", fn := fun _ => fun
  | [d1, d2] => { results := [.lit (.bool false)], args := [d1, d2] }
  | _ => none }
def FnExactDirectProductWrongFalsely : Prop := fnExactDirectProductRow.holds Try.pinned (OpenSpec.ofChange fnExactDirectProductWrong)

/-- 'laws.FnExactIsRealisation': WHATEVER THE INPUT: true; the input reads as it did. -/
def fnExactIsRealisationSpec : ChangeSpec := { name := "fnExactIsRealisation", fn := fun _ => fun
  | [d1, d2] => { results := [.lit (.bool true)], args := [d1, d2] }
  | _ => none }
def fnExactIsRealisationRow : OpenClaim := { program := "ytjnnjnhmecidmaa", sum := "bd78f0ca7e488e97a637a808d60a98a7f394ab4240e1113a2c4af59c325c4a8d", func := "loop.example/g01076/laws.FnExactIsRealisation", spec := "fnExactIsRealisation", apart := false }
def FnExactIsRealisationSaid : Prop := fnExactIsRealisationRow.holds Try.pinned (OpenSpec.ofChange fnExactIsRealisationSpec)

/-- ITS FALSE NEIGHBOUR: 'it returns false'. Refute it at one input. -/
def fnExactIsRealisationWrong : ChangeSpec := { name := "fnExactIsRealisation", fn := fun _ => fun
  | [d1, d2] => { results := [.lit (.bool false)], args := [d1, d2] }
  | _ => none }
def FnExactIsRealisationWrongFalsely : Prop := fnExactIsRealisationRow.holds Try.pinned (OpenSpec.ofChange fnExactIsRealisationWrong)

/-- 'laws.FnExactTrivialModule': WHATEVER THE INPUT: true; the input reads as it did. -/
def fnExactTrivialModuleSpec : ChangeSpec := { name := "fnExactTrivialModule", fn := fun _ => fun
  | [d1, d2, d3] => { results := [.lit (.bool true)], args := [d1, d2, d3] }
  | _ => none }
def fnExactTrivialModuleRow : OpenClaim := { program := "ytjnnjnhmecidmaa", sum := "bd78f0ca7e488e97a637a808d60a98a7f394ab4240e1113a2c4af59c325c4a8d", func := "loop.example/g01076/laws.FnExactTrivialModule", spec := "fnExactTrivialModule", recurses := true, apart := false }
def FnExactTrivialModuleSaid : Prop := fnExactTrivialModuleRow.holds Try.pinned (OpenSpec.ofChange fnExactTrivialModuleSpec)

/-- ITS FALSE NEIGHBOUR: 'it returns false'. Refute it at one input. -/
def fnExactTrivialModuleWrong : ChangeSpec := { name := "fnExactTrivialModule", fn := fun _ => fun
  | [d1, d2, d3] => { results := [.lit (.bool false)], args := [d1, d2, d3] }
  | _ => none }
def FnExactTrivialModuleWrongFalsely : Prop := fnExactTrivialModuleRow.holds Try.pinned (OpenSpec.ofChange fnExactTrivialModuleWrong)

/-- 'laws.FnExactIsAbelianGroup': WHATEVER THE INPUT: true; the input reads as it did. -/
def fnExactIsAbelianGroupSpec : ChangeSpec := { name := "fnExactIsAbelianGroup", fn := fun _ => fun
  | [d] => { results := [.lit (.bool true)], args := [d] }
  | _ => none }
def fnExactIsAbelianGroupRow : OpenClaim := { program := "ytjnnjnhmecidmaa", sum := "bd78f0ca7e488e97a637a808d60a98a7f394ab4240e1113a2c4af59c325c4a8d", func := "loop.example/g01076/laws.FnExactIsAbelianGroup", spec := "fnExactIsAbelianGroup", recurses := true, apart := false }
def FnExactIsAbelianGroupSaid : Prop := fnExactIsAbelianGroupRow.holds Try.pinned (OpenSpec.ofChange fnExactIsAbelianGroupSpec)

/-- ITS FALSE NEIGHBOUR: 'it returns false'. Refute it at one input. -/
def fnExactIsAbelianGroupWrong : ChangeSpec := { name := "fnExactIsAbelianGroup", fn := fun _ => fun
  | [d] => { results := [.lit (.bool false)], args := [d] }
  | _ => none }
def FnExactIsAbelianGroupWrongFalsely : Prop := fnExactIsAbelianGroupRow.holds Try.pinned (OpenSpec.ofChange fnExactIsAbelianGroupWrong)

/-- 'laws.FnExactSectionOf': WHATEVER THE INPUT: true; the input reads as it did. -/
def fnExactSectionOfSpec : ChangeSpec := { name := "fnExactSectionOf", fn := fun _ => fun
  | [d1, d2] => { results := [.lit (.bool true)], args := [d1, d2] }
  | _ => none }
def fnExactSectionOfRow : OpenClaim := { program := "ytjnnjnhmecidmaa", sum := "bd78f0ca7e488e97a637a808d60a98a7f394ab4240e1113a2c4af59c325c4a8d", func := "loop.example/g01076/laws.FnExactSectionOf", spec := "fnExactSectionOf", recurses := true, apart := false }
def FnExactSectionOfSaid : Prop := fnExactSectionOfRow.holds Try.pinned (OpenSpec.ofChange fnExactSectionOfSpec)

/-- ITS FALSE NEIGHBOUR: 'it returns false'. Refute it at one input. -/
def fnExactSectionOfWrong : ChangeSpec := { name := "fnExactSectionOf", fn := fun _ => fun
  | [d1, d2] => { results := [.lit (.bool false)], args := [d1, d2] }
  | _ => none }
def FnExactSectionOfWrongFalsely : Prop := fnExactSectionOfRow.holds Try.pinned (OpenSpec.ofChange fnExactSectionOfWrong)

/-- 'laws.FnExactIsHom': WHATEVER THE INPUT: true; the input reads as it did. -/
def fnExactIsHomSpec : ChangeSpec := { name := "fnExactIsHom", fn := fun _ => fun
  | [d] => { results := [.lit (.bool true)], args := [d] }
  | _ => none }
def fnExactIsHomRow : OpenClaim := { program := "ytjnnjnhmecidmaa", sum := "bd78f0ca7e488e97a637a808d60a98a7f394ab4240e1113a2c4af59c325c4a8d", func := "loop.example/g01076/laws.FnExactIsHom", spec := "fnExactIsHom", recurses := true, apart := false }
def FnExactIsHomSaid : Prop := fnExactIsHomRow.holds Try.pinned (OpenSpec.ofChange fnExactIsHomSpec)

/-- ITS FALSE NEIGHBOUR: 'it returns false'. Refute it at one input. -/
def fnExactIsHomWrong : ChangeSpec := { name := "fnExactIsHom", fn := fun _ => fun
  | [d] => { results := [.lit (.bool false)], args := [d] }
  | _ => none }
def FnExactIsHomWrongFalsely : Prop := fnExactIsHomRow.holds Try.pinned (OpenSpec.ofChange fnExactIsHomWrong)

/-- 'laws.FnExactCriticalPairs': WHATEVER THE INPUT: true; the input reads as it did. -/
def fnExactCriticalPairsSpec : ChangeSpec := { name := "fnExactCriticalPairs", fn := fun _ => fun
  | [d] => { results := [.lit (.bool true)], args := [d] }
  | _ => none }
def fnExactCriticalPairsRow : OpenClaim := { program := "ytjnnjnhmecidmaa", sum := "bd78f0ca7e488e97a637a808d60a98a7f394ab4240e1113a2c4af59c325c4a8d", func := "loop.example/g01076/laws.FnExactCriticalPairs", spec := "fnExactCriticalPairs", unfollowed := true, recurses := true, apart := false }
def FnExactCriticalPairsSaid : Prop := fnExactCriticalPairsRow.holds Try.pinned (OpenSpec.ofChange fnExactCriticalPairsSpec)

/-- ITS FALSE NEIGHBOUR: 'it returns false'. Refute it at one input. -/
def fnExactCriticalPairsWrong : ChangeSpec := { name := "fnExactCriticalPairs", fn := fun _ => fun
  | [d] => { results := [.lit (.bool false)], args := [d] }
  | _ => none }
def FnExactCriticalPairsWrongFalsely : Prop := fnExactCriticalPairsRow.holds Try.pinned (OpenSpec.ofChange fnExactCriticalPairsWrong)

/-- 'laws.FnExactCriticalPairsJoin': WHATEVER THE INPUT: true; the input reads as it did. -/
def fnExactCriticalPairsJoinSpec : ChangeSpec := { name := "fnExactCriticalPairsJoin", fn := fun _ => fun
  | [d1, d2] => { results := [.lit (.bool true)], args := [d1, d2] }
  | _ => none }
def fnExactCriticalPairsJoinRow : OpenClaim := { program := "ytjnnjnhmecidmaa", sum := "bd78f0ca7e488e97a637a808d60a98a7f394ab4240e1113a2c4af59c325c4a8d", func := "loop.example/g01076/laws.FnExactCriticalPairsJoin", spec := "fnExactCriticalPairsJoin", unfollowed := true, recurses := true, apart := false }
def FnExactCriticalPairsJoinSaid : Prop := fnExactCriticalPairsJoinRow.holds Try.pinned (OpenSpec.ofChange fnExactCriticalPairsJoinSpec)

/-- ITS FALSE NEIGHBOUR: 'it returns false'. Refute it at one input. -/
def fnExactCriticalPairsJoinWrong : ChangeSpec := { name := "fnExactCriticalPairsJoin", fn := fun _ => fun
  | [d1, d2] => { results := [.lit (.bool false)], args := [d1, d2] }
  | _ => none }
def FnExactCriticalPairsJoinWrongFalsely : Prop := fnExactCriticalPairsJoinRow.holds Try.pinned (OpenSpec.ofChange fnExactCriticalPairsJoinWrong)

/-- 'laws.FnWordTexts': WHATEVER THE INPUT: true; the input reads as it did. -/
def fnWordTextsSpec : ChangeSpec := { name := "fnWordTexts", fn := fun _ => fun
  | [d] => { results := [.lit (.bool true)], args := [d] }
  | _ => none }
def fnWordTextsRow : OpenClaim := { program := "ytjnnjnhmecidmaa", sum := "bd78f0ca7e488e97a637a808d60a98a7f394ab4240e1113a2c4af59c325c4a8d", func := "loop.example/g01076/laws.FnWordTexts", spec := "fnWordTexts", apart := false }
def FnWordTextsSaid : Prop := fnWordTextsRow.holds Try.pinned (OpenSpec.ofChange fnWordTextsSpec)

/-- ITS FALSE NEIGHBOUR: 'it returns false'. Refute it at one input. -/
def fnWordTextsWrong : ChangeSpec := { name := "fnWordTexts", fn := fun _ => fun
  | [d] => { results := [.lit (.bool false)], args := [d] }
  | _ => none }
def FnWordTextsWrongFalsely : Prop := fnWordTextsRow.holds Try.pinned (OpenSpec.ofChange fnWordTextsWrong)

/-- 'laws.FnWordGroup': WHATEVER THE INPUT: true; the input reads as it did. -/
def fnWordGroupSpec : ChangeSpec := { name := "fnWordGroup", fn := fun _ => fun
  | [d] => { results := [.lit (.bool true)], args := [d] }
  | _ => none }
def fnWordGroupRow : OpenClaim := { program := "ytjnnjnhmecidmaa", sum := "bd78f0ca7e488e97a637a808d60a98a7f394ab4240e1113a2c4af59c325c4a8d", func := "loop.example/g01076/laws.FnWordGroup", spec := "fnWordGroup", apart := false }
def FnWordGroupSaid : Prop := fnWordGroupRow.holds Try.pinned (OpenSpec.ofChange fnWordGroupSpec)

/-- ITS FALSE NEIGHBOUR: 'it returns false'. Refute it at one input. -/
def fnWordGroupWrong : ChangeSpec := { name := "fnWordGroup", fn := fun _ => fun
  | [d] => { results := [.lit (.bool false)], args := [d] }
  | _ => none }
def FnWordGroupWrongFalsely : Prop := fnWordGroupRow.holds Try.pinned (OpenSpec.ofChange fnWordGroupWrong)

/-- 'laws.FnSubstitutions': WHATEVER THE INPUT: true; the input reads as it did. -/
def fnSubstitutionsSpec : ChangeSpec := { name := "fnSubstitutions", fn := fun _ => fun
  | [d] => { results := [.lit (.bool true)], args := [d] }
  | _ => none }
def fnSubstitutionsRow : OpenClaim := { program := "ytjnnjnhmecidmaa", sum := "bd78f0ca7e488e97a637a808d60a98a7f394ab4240e1113a2c4af59c325c4a8d", func := "loop.example/g01076/laws.FnSubstitutions", spec := "fnSubstitutions", apart := false }
def FnSubstitutionsSaid : Prop := fnSubstitutionsRow.holds Try.pinned (OpenSpec.ofChange fnSubstitutionsSpec)

/-- ITS FALSE NEIGHBOUR: 'it returns false'. Refute it at one input. -/
def fnSubstitutionsWrong : ChangeSpec := { name := "fnSubstitutions", fn := fun _ => fun
  | [d] => { results := [.lit (.bool false)], args := [d] }
  | _ => none }
def FnSubstitutionsWrongFalsely : Prop := fnSubstitutionsRow.holds Try.pinned (OpenSpec.ofChange fnSubstitutionsWrong)

/- THE SECOND FORM. 'bulk': how many values and letters a reading holds, each counted each time it is reached (what is shared counts as often as it is met; a slice's spare places count too). A statement '..UptoSaid' is the law's where the arguments, and the package variables that the reading takes, are together of bulk at most 1048576: NARROWER than '..Said'. Prove '..Said' where nothing that the law and all that it calls make is longer than what came in: it says more and counts as full. Else prove '..UptoSaid'. A law counts once. -/
mutual
def uptoBulk {H : Type} : DataW H → Nat
  | .lit (.string bytes) => bytes.length + 1
  | .lit _ => 1
  | .nil => 1
  | .ptr d => uptoBulk d + 1
  | .slice elems spare => uptoBulkAll elems + uptoBulkAll spare + 1
  | .agg parts => uptoBulkAll parts + 1
  | .iface _ d => uptoBulk d + 1
  | .map entries => uptoBulkEntries entries + 1
  | .held _ => 1
def uptoBulkAll {H : Type} : List (DataW H) → Nat
  | [] => 0
  | d :: r => uptoBulk d + uptoBulkAll r
def uptoBulkEntries {H : Type} : List (Lit × DataW H) → Nat
  | [] => 0
  | x :: r => uptoBulkEntry x + uptoBulkEntries r
def uptoBulkEntry {H : Type} : Lit × DataW H → Nat
  | (.string bytes, d) => bytes.length + uptoBulk d + 1
  | (_, d) => uptoBulk d + 1
 end
def uptoSmall : (H : Type) → List (DataW H) → Bool := fun _ ds => decide (uptoBulkAll ds ≤ 1048576)
def OpenSpec.upto (s : _root_.Go.ChangeSpec) : _root_.Go.OpenSpec := { _root_.Go.OpenSpec.ofChange s with cond := some uptoSmall }

/-- 'laws.FnExactDirectProduct', WHERE WHAT IT READS IS OF BULK AT MOST 1048576: true; the input reads as it did. -/
def fnExactDirectProductUptoRow : OpenClaim := { program := "ytjnnjnhmecidmaa", sum := "bd78f0ca7e488e97a637a808d60a98a7f394ab4240e1113a2c4af59c325c4a8d", func := "loop.example/g01076/laws.FnExactDirectProduct", spec := "fnExactDirectProduct", apart := false, narrowed := true }
def FnExactDirectProductUptoSaid : Prop := fnExactDirectProductUptoRow.holds Try.pinned (OpenSpec.upto fnExactDirectProductSpec)

/-- 'laws.FnExactIsRealisation', WHERE WHAT IT READS IS OF BULK AT MOST 1048576: true; the input reads as it did. -/
def fnExactIsRealisationUptoRow : OpenClaim := { program := "ytjnnjnhmecidmaa", sum := "bd78f0ca7e488e97a637a808d60a98a7f394ab4240e1113a2c4af59c325c4a8d", func := "loop.example/g01076/laws.FnExactIsRealisation", spec := "fnExactIsRealisation", apart := false, narrowed := true }
def FnExactIsRealisationUptoSaid : Prop := fnExactIsRealisationUptoRow.holds Try.pinned (OpenSpec.upto fnExactIsRealisationSpec)

/-- 'laws.FnExactTrivialModule', WHERE WHAT IT READS IS OF BULK AT MOST 1048576: true; the input reads as it did. -/
def fnExactTrivialModuleUptoRow : OpenClaim := { program := "ytjnnjnhmecidmaa", sum := "bd78f0ca7e488e97a637a808d60a98a7f394ab4240e1113a2c4af59c325c4a8d", func := "loop.example/g01076/laws.FnExactTrivialModule", spec := "fnExactTrivialModule", recurses := true, apart := false, narrowed := true }
def FnExactTrivialModuleUptoSaid : Prop := fnExactTrivialModuleUptoRow.holds Try.pinned (OpenSpec.upto fnExactTrivialModuleSpec)

/-- 'laws.FnExactIsAbelianGroup', WHERE WHAT IT READS IS OF BULK AT MOST 1048576: true; the input reads as it did. -/
def fnExactIsAbelianGroupUptoRow : OpenClaim := { program := "ytjnnjnhmecidmaa", sum := "bd78f0ca7e488e97a637a808d60a98a7f394ab4240e1113a2c4af59c325c4a8d", func := "loop.example/g01076/laws.FnExactIsAbelianGroup", spec := "fnExactIsAbelianGroup", recurses := true, apart := false, narrowed := true }
def FnExactIsAbelianGroupUptoSaid : Prop := fnExactIsAbelianGroupUptoRow.holds Try.pinned (OpenSpec.upto fnExactIsAbelianGroupSpec)

/-- 'laws.FnExactSectionOf', WHERE WHAT IT READS IS OF BULK AT MOST 1048576: true; the input reads as it did. -/
def fnExactSectionOfUptoRow : OpenClaim := { program := "ytjnnjnhmecidmaa", sum := "bd78f0ca7e488e97a637a808d60a98a7f394ab4240e1113a2c4af59c325c4a8d", func := "loop.example/g01076/laws.FnExactSectionOf", spec := "fnExactSectionOf", recurses := true, apart := false, narrowed := true }
def FnExactSectionOfUptoSaid : Prop := fnExactSectionOfUptoRow.holds Try.pinned (OpenSpec.upto fnExactSectionOfSpec)

/-- 'laws.FnExactIsHom', WHERE WHAT IT READS IS OF BULK AT MOST 1048576: true; the input reads as it did. -/
def fnExactIsHomUptoRow : OpenClaim := { program := "ytjnnjnhmecidmaa", sum := "bd78f0ca7e488e97a637a808d60a98a7f394ab4240e1113a2c4af59c325c4a8d", func := "loop.example/g01076/laws.FnExactIsHom", spec := "fnExactIsHom", recurses := true, apart := false, narrowed := true }
def FnExactIsHomUptoSaid : Prop := fnExactIsHomUptoRow.holds Try.pinned (OpenSpec.upto fnExactIsHomSpec)

/-- 'laws.FnExactCriticalPairs', WHERE WHAT IT READS IS OF BULK AT MOST 1048576: true; the input reads as it did. -/
def fnExactCriticalPairsUptoRow : OpenClaim := { program := "ytjnnjnhmecidmaa", sum := "bd78f0ca7e488e97a637a808d60a98a7f394ab4240e1113a2c4af59c325c4a8d", func := "loop.example/g01076/laws.FnExactCriticalPairs", spec := "fnExactCriticalPairs", unfollowed := true, recurses := true, apart := false, narrowed := true }
def FnExactCriticalPairsUptoSaid : Prop := fnExactCriticalPairsUptoRow.holds Try.pinned (OpenSpec.upto fnExactCriticalPairsSpec)

/-- 'laws.FnExactCriticalPairsJoin', WHERE WHAT IT READS IS OF BULK AT MOST 1048576: true; the input reads as it did. -/
def fnExactCriticalPairsJoinUptoRow : OpenClaim := { program := "ytjnnjnhmecidmaa", sum := "bd78f0ca7e488e97a637a808d60a98a7f394ab4240e1113a2c4af59c325c4a8d", func := "loop.example/g01076/laws.FnExactCriticalPairsJoin", spec := "fnExactCriticalPairsJoin", unfollowed := true, recurses := true, apart := false, narrowed := true }
def FnExactCriticalPairsJoinUptoSaid : Prop := fnExactCriticalPairsJoinUptoRow.holds Try.pinned (OpenSpec.upto fnExactCriticalPairsJoinSpec)

/-- 'laws.FnWordTexts', WHERE WHAT IT READS IS OF BULK AT MOST 1048576: true; the input reads as it did. -/
def fnWordTextsUptoRow : OpenClaim := { program := "ytjnnjnhmecidmaa", sum := "bd78f0ca7e488e97a637a808d60a98a7f394ab4240e1113a2c4af59c325c4a8d", func := "loop.example/g01076/laws.FnWordTexts", spec := "fnWordTexts", apart := false, narrowed := true }
def FnWordTextsUptoSaid : Prop := fnWordTextsUptoRow.holds Try.pinned (OpenSpec.upto fnWordTextsSpec)

/-- 'laws.FnWordGroup', WHERE WHAT IT READS IS OF BULK AT MOST 1048576: true; the input reads as it did. -/
def fnWordGroupUptoRow : OpenClaim := { program := "ytjnnjnhmecidmaa", sum := "bd78f0ca7e488e97a637a808d60a98a7f394ab4240e1113a2c4af59c325c4a8d", func := "loop.example/g01076/laws.FnWordGroup", spec := "fnWordGroup", apart := false, narrowed := true }
def FnWordGroupUptoSaid : Prop := fnWordGroupUptoRow.holds Try.pinned (OpenSpec.upto fnWordGroupSpec)

/-- 'laws.FnSubstitutions', WHERE WHAT IT READS IS OF BULK AT MOST 1048576: true; the input reads as it did. -/
def fnSubstitutionsUptoRow : OpenClaim := { program := "ytjnnjnhmecidmaa", sum := "bd78f0ca7e488e97a637a808d60a98a7f394ab4240e1113a2c4af59c325c4a8d", func := "loop.example/g01076/laws.FnSubstitutions", spec := "fnSubstitutions", apart := false, narrowed := true }
def FnSubstitutionsUptoSaid : Prop := fnSubstitutionsUptoRow.holds Try.pinned (OpenSpec.upto fnSubstitutionsSpec)

end Rows
end Go.Proofs.Ytjnnjnhmecidmaa
