/-
  No cell of these rows narrows 'for every input' (looked for: loops, veiled, ifaces, maps, wideKeys, modest, calm, conditions, laid).
  DERIVED. THE GIVEN ROWS OF THIS SEAT. 12 by the template 'for every input the law returns true; each argument reads behind the call as it read before'; 0 by the template 'total and deterministic' (their statements: YtbhjbfgkohgiiaaTotals.lean).
  GIVEN WITH THE SEED: the statements are not yours to turn. If you find one false, say at which input.
  Laid BY PROGRAM, IN A SANDBOX (cutbox-rows.mjs): the forced cells as the released guide's own fill.sh prints them over the translation d53e30008fd69bf9… (all of the seat's roots in one cut). By AI agents, Wed Nov 11 2026. No macro, syntax, notation, axiom, sorry.
-/
import Derived.Test.YtbhjbfgkohgiiaaChecked
import GoSem.Claim
import GoSem.ClaimJoined
import GoSem.ClaimMapViews
import Derived.JoinedTies
import Derived.KernelRfl
namespace Go.Proofs.Ytbhjbfgkohgiiaa
/- THE CELL 'sum', in the pinned program and in every row, IS THE sha256 OF THE DUMP (.gsa) THAT YtbhjbfgkohgiiaaProg.lean LOADS. Nothing in Lean hashes anything: it is a label: what it is worth is what the hold of that sum in a sandbox is worth. -/
noncomputable def Try.pinned : Pinned := { name := "ytbhjbfgkohgiiaa", sum := "d53e30008fd69bf9548229505a889d59bcd0d16836c183e8f04812cf72436e5a", checked := Try.checked }
namespace Rows
def none {H : Type} : Left H := { results := [], args := [] }

/-- 'laws.FnExactTailPresentation': WHATEVER THE INPUT: true; the input reads as it did. -/
def fnExactTailPresentationSpec : ChangeSpec := { name := "fnExactTailPresentation", fn := fun _ => fun
  | [d1, d2] => { results := [.lit (.bool true)], args := [d1, d2] }
  | _ => none }
def fnExactTailPresentationRow : OpenClaim := { program := "ytbhjbfgkohgiiaa", sum := "d53e30008fd69bf9548229505a889d59bcd0d16836c183e8f04812cf72436e5a", func := "loop.example/g01076/laws.FnExactTailPresentation", spec := "fnExactTailPresentation", apart := false }
def FnExactTailPresentationSaid : Prop := fnExactTailPresentationRow.holds Try.pinned (OpenSpec.ofChange fnExactTailPresentationSpec)

/-- ITS FALSE NEIGHBOUR: 'it returns false'. Refute it at one input. -/
def fnExactTailPresentationWrong : ChangeSpec := { name := "fnExactTailPresentation", fn := fun _ => fun
  | [d1, d2] => { results := [.lit (.bool false)], args := [d1, d2] }
  | _ => none }
def FnExactTailPresentationWrongFalsely : Prop := fnExactTailPresentationRow.holds Try.pinned (OpenSpec.ofChange fnExactTailPresentationWrong)

/-- 'laws.FnExactHeadPresentation': WHATEVER THE INPUT: true; the input reads as it did. -/
def fnExactHeadPresentationSpec : ChangeSpec := { name := "fnExactHeadPresentation", fn := fun _ => fun
  | [d1, d2] => { results := [.lit (.bool true)], args := [d1, d2] }
  | _ => none }
def fnExactHeadPresentationRow : OpenClaim := { program := "ytbhjbfgkohgiiaa", sum := "d53e30008fd69bf9548229505a889d59bcd0d16836c183e8f04812cf72436e5a", func := "loop.example/g01076/laws.FnExactHeadPresentation", spec := "fnExactHeadPresentation", recurses := true, apart := false }
def FnExactHeadPresentationSaid : Prop := fnExactHeadPresentationRow.holds Try.pinned (OpenSpec.ofChange fnExactHeadPresentationSpec)

/-- ITS FALSE NEIGHBOUR: 'it returns false'. Refute it at one input. -/
def fnExactHeadPresentationWrong : ChangeSpec := { name := "fnExactHeadPresentation", fn := fun _ => fun
  | [d1, d2] => { results := [.lit (.bool false)], args := [d1, d2] }
  | _ => none }
def FnExactHeadPresentationWrongFalsely : Prop := fnExactHeadPresentationRow.holds Try.pinned (OpenSpec.ofChange fnExactHeadPresentationWrong)

/-- 'laws.FnExactDirectProduct': WHATEVER THE INPUT: true; the input reads as it did. -/
def fnExactDirectProductSpec : ChangeSpec := { name := "fnExactDirectProduct", fn := fun _ => fun
  | [d1, d2] => { results := [.lit (.bool true)], args := [d1, d2] }
  | _ => none }
def fnExactDirectProductRow : OpenClaim := { program := "ytbhjbfgkohgiiaa", sum := "d53e30008fd69bf9548229505a889d59bcd0d16836c183e8f04812cf72436e5a", func := "loop.example/g01076/laws.FnExactDirectProduct", spec := "fnExactDirectProduct", apart := false }
def FnExactDirectProductSaid : Prop := fnExactDirectProductRow.holds Try.pinned (OpenSpec.ofChange fnExactDirectProductSpec)

/-- ITS FALSE NEIGHBOUR: 'it returns false'. Refute it at one input. -/
def fnExactDirectProductWrong : ChangeSpec := { name := "fnExactDirectProduct", fn := fun _ => fun
  | [d1, d2] => { results := [.lit (.bool false)], args := [d1, d2] }
  | _ => none }
def FnExactDirectProductWrongFalsely : Prop := fnExactDirectProductRow.holds Try.pinned (OpenSpec.ofChange fnExactDirectProductWrong)

/-- 'laws.FnExactCollectStep': WHATEVER THE INPUT: true; the input reads as it did. -/
def fnExactCollectStepSpec : ChangeSpec := { name := "fnExactCollectStep", fn := fun _ => fun
  | [d1, d2] => { results := [.lit (.bool true)], args := [d1, d2] }
  | _ => none }
def fnExactCollectStepRow : OpenClaim := { program := "ytbhjbfgkohgiiaa", sum := "d53e30008fd69bf9548229505a889d59bcd0d16836c183e8f04812cf72436e5a", func := "loop.example/g01076/laws.FnExactCollectStep", spec := "fnExactCollectStep", apart := false }
def FnExactCollectStepSaid : Prop := fnExactCollectStepRow.holds Try.pinned (OpenSpec.ofChange fnExactCollectStepSpec)

/-- ITS FALSE NEIGHBOUR: 'it returns false'. Refute it at one input. -/
def fnExactCollectStepWrong : ChangeSpec := { name := "fnExactCollectStep", fn := fun _ => fun
  | [d1, d2] => { results := [.lit (.bool false)], args := [d1, d2] }
  | _ => none }
def FnExactCollectStepWrongFalsely : Prop := fnExactCollectStepRow.holds Try.pinned (OpenSpec.ofChange fnExactCollectStepWrong)

/-- 'laws.FnExactCollectProduct': WHATEVER THE INPUT: true; the input reads as it did. -/
def fnExactCollectProductSpec : ChangeSpec := { name := "fnExactCollectProduct", fn := fun _ => fun
  | [d1, d2, d3, d4] => { results := [.lit (.bool true)], args := [d1, d2, d3, d4] }
  | _ => none }
def fnExactCollectProductRow : OpenClaim := { program := "ytbhjbfgkohgiiaa", sum := "d53e30008fd69bf9548229505a889d59bcd0d16836c183e8f04812cf72436e5a", func := "loop.example/g01076/laws.FnExactCollectProduct", spec := "fnExactCollectProduct", apart := false }
def FnExactCollectProductSaid : Prop := fnExactCollectProductRow.holds Try.pinned (OpenSpec.ofChange fnExactCollectProductSpec)

/-- ITS FALSE NEIGHBOUR: 'it returns false'. Refute it at one input. -/
def fnExactCollectProductWrong : ChangeSpec := { name := "fnExactCollectProduct", fn := fun _ => fun
  | [d1, d2, d3, d4] => { results := [.lit (.bool false)], args := [d1, d2, d3, d4] }
  | _ => none }
def FnExactCollectProductWrongFalsely : Prop := fnExactCollectProductRow.holds Try.pinned (OpenSpec.ofChange fnExactCollectProductWrong)

/-- 'laws.FnExactCollectWord': WHATEVER THE INPUT: true; the input reads as it did. -/
def fnExactCollectWordSpec : ChangeSpec := { name := "fnExactCollectWord", fn := fun _ => fun
  | [d1, d2, d3] => { results := [.lit (.bool true)], args := [d1, d2, d3] }
  | _ => none }
def fnExactCollectWordRow : OpenClaim := { program := "ytbhjbfgkohgiiaa", sum := "d53e30008fd69bf9548229505a889d59bcd0d16836c183e8f04812cf72436e5a", func := "loop.example/g01076/laws.FnExactCollectWord", spec := "fnExactCollectWord", apart := false }
def FnExactCollectWordSaid : Prop := fnExactCollectWordRow.holds Try.pinned (OpenSpec.ofChange fnExactCollectWordSpec)

/-- ITS FALSE NEIGHBOUR: 'it returns false'. Refute it at one input. -/
def fnExactCollectWordWrong : ChangeSpec := { name := "fnExactCollectWord", fn := fun _ => fun
  | [d1, d2, d3] => { results := [.lit (.bool false)], args := [d1, d2, d3] }
  | _ => none }
def FnExactCollectWordWrongFalsely : Prop := fnExactCollectWordRow.holds Try.pinned (OpenSpec.ofChange fnExactCollectWordWrong)

/-- 'laws.FnExactConsistencyFault': WHATEVER THE INPUT: true; the input reads as it did. -/
def fnExactConsistencyFaultSpec : ChangeSpec := { name := "fnExactConsistencyFault", fn := fun _ => fun
  | [d] => { results := [.lit (.bool true)], args := [d] }
  | _ => none }
def fnExactConsistencyFaultRow : OpenClaim := { program := "ytbhjbfgkohgiiaa", sum := "d53e30008fd69bf9548229505a889d59bcd0d16836c183e8f04812cf72436e5a", func := "loop.example/g01076/laws.FnExactConsistencyFault", spec := "fnExactConsistencyFault", recurses := true, apart := false }
def FnExactConsistencyFaultSaid : Prop := fnExactConsistencyFaultRow.holds Try.pinned (OpenSpec.ofChange fnExactConsistencyFaultSpec)

/-- ITS FALSE NEIGHBOUR: 'it returns false'. Refute it at one input. -/
def fnExactConsistencyFaultWrong : ChangeSpec := { name := "fnExactConsistencyFault", fn := fun _ => fun
  | [d] => { results := [.lit (.bool false)], args := [d] }
  | _ => none }
def FnExactConsistencyFaultWrongFalsely : Prop := fnExactConsistencyFaultRow.holds Try.pinned (OpenSpec.ofChange fnExactConsistencyFaultWrong)

/-- 'laws.FnExactCriticalPairs': WHATEVER THE INPUT: true; the input reads as it did. -/
def fnExactCriticalPairsSpec : ChangeSpec := { name := "fnExactCriticalPairs", fn := fun _ => fun
  | [d] => { results := [.lit (.bool true)], args := [d] }
  | _ => none }
def fnExactCriticalPairsRow : OpenClaim := { program := "ytbhjbfgkohgiiaa", sum := "d53e30008fd69bf9548229505a889d59bcd0d16836c183e8f04812cf72436e5a", func := "loop.example/g01076/laws.FnExactCriticalPairs", spec := "fnExactCriticalPairs", unfollowed := true, recurses := true, apart := false }
def FnExactCriticalPairsSaid : Prop := fnExactCriticalPairsRow.holds Try.pinned (OpenSpec.ofChange fnExactCriticalPairsSpec)

/-- ITS FALSE NEIGHBOUR: 'it returns false'. Refute it at one input. -/
def fnExactCriticalPairsWrong : ChangeSpec := { name := "fnExactCriticalPairs", fn := fun _ => fun
  | [d] => { results := [.lit (.bool false)], args := [d] }
  | _ => none }
def FnExactCriticalPairsWrongFalsely : Prop := fnExactCriticalPairsRow.holds Try.pinned (OpenSpec.ofChange fnExactCriticalPairsWrong)

/-- 'laws.FnExactCriticalPairsJoin': WHATEVER THE INPUT: true; the input reads as it did. -/
def fnExactCriticalPairsJoinSpec : ChangeSpec := { name := "fnExactCriticalPairsJoin", fn := fun _ => fun
  | [d1, d2] => { results := [.lit (.bool true)], args := [d1, d2] }
  | _ => none }
def fnExactCriticalPairsJoinRow : OpenClaim := { program := "ytbhjbfgkohgiiaa", sum := "d53e30008fd69bf9548229505a889d59bcd0d16836c183e8f04812cf72436e5a", func := "loop.example/g01076/laws.FnExactCriticalPairsJoin", spec := "fnExactCriticalPairsJoin", unfollowed := true, recurses := true, apart := false }
def FnExactCriticalPairsJoinSaid : Prop := fnExactCriticalPairsJoinRow.holds Try.pinned (OpenSpec.ofChange fnExactCriticalPairsJoinSpec)

/-- ITS FALSE NEIGHBOUR: 'it returns false'. Refute it at one input. -/
def fnExactCriticalPairsJoinWrong : ChangeSpec := { name := "fnExactCriticalPairsJoin", fn := fun _ => fun
  | [d1, d2] => { results := [.lit (.bool false)], args := [d1, d2] }
  | _ => none }
def FnExactCriticalPairsJoinWrongFalsely : Prop := fnExactCriticalPairsJoinRow.holds Try.pinned (OpenSpec.ofChange fnExactCriticalPairsJoinWrong)

/-- 'laws.FnExactIsRealisation': WHATEVER THE INPUT: true; the input reads as it did. -/
def fnExactIsRealisationSpec : ChangeSpec := { name := "fnExactIsRealisation", fn := fun _ => fun
  | [d1, d2] => { results := [.lit (.bool true)], args := [d1, d2] }
  | _ => none }
def fnExactIsRealisationRow : OpenClaim := { program := "ytbhjbfgkohgiiaa", sum := "d53e30008fd69bf9548229505a889d59bcd0d16836c183e8f04812cf72436e5a", func := "loop.example/g01076/laws.FnExactIsRealisation", spec := "fnExactIsRealisation", apart := false }
def FnExactIsRealisationSaid : Prop := fnExactIsRealisationRow.holds Try.pinned (OpenSpec.ofChange fnExactIsRealisationSpec)

/-- ITS FALSE NEIGHBOUR: 'it returns false'. Refute it at one input. -/
def fnExactIsRealisationWrong : ChangeSpec := { name := "fnExactIsRealisation", fn := fun _ => fun
  | [d1, d2] => { results := [.lit (.bool false)], args := [d1, d2] }
  | _ => none }
def FnExactIsRealisationWrongFalsely : Prop := fnExactIsRealisationRow.holds Try.pinned (OpenSpec.ofChange fnExactIsRealisationWrong)

/-- 'laws.FnExactTrivialModule': WHATEVER THE INPUT: true; the input reads as it did. -/
def fnExactTrivialModuleSpec : ChangeSpec := { name := "fnExactTrivialModule", fn := fun _ => fun
  | [d1, d2, d3] => { results := [.lit (.bool true)], args := [d1, d2, d3] }
  | _ => none }
def fnExactTrivialModuleRow : OpenClaim := { program := "ytbhjbfgkohgiiaa", sum := "d53e30008fd69bf9548229505a889d59bcd0d16836c183e8f04812cf72436e5a", func := "loop.example/g01076/laws.FnExactTrivialModule", spec := "fnExactTrivialModule", recurses := true, apart := false }
def FnExactTrivialModuleSaid : Prop := fnExactTrivialModuleRow.holds Try.pinned (OpenSpec.ofChange fnExactTrivialModuleSpec)

/-- ITS FALSE NEIGHBOUR: 'it returns false'. Refute it at one input. -/
def fnExactTrivialModuleWrong : ChangeSpec := { name := "fnExactTrivialModule", fn := fun _ => fun
  | [d1, d2, d3] => { results := [.lit (.bool false)], args := [d1, d2, d3] }
  | _ => none }
def FnExactTrivialModuleWrongFalsely : Prop := fnExactTrivialModuleRow.holds Try.pinned (OpenSpec.ofChange fnExactTrivialModuleWrong)

/-- 'laws.FnExactIsAbelianGroup': WHATEVER THE INPUT: true; the input reads as it did. -/
def fnExactIsAbelianGroupSpec : ChangeSpec := { name := "fnExactIsAbelianGroup", fn := fun _ => fun
  | [d] => { results := [.lit (.bool true)], args := [d] }
  | _ => none }
def fnExactIsAbelianGroupRow : OpenClaim := { program := "ytbhjbfgkohgiiaa", sum := "d53e30008fd69bf9548229505a889d59bcd0d16836c183e8f04812cf72436e5a", func := "loop.example/g01076/laws.FnExactIsAbelianGroup", spec := "fnExactIsAbelianGroup", recurses := true, apart := false }
def FnExactIsAbelianGroupSaid : Prop := fnExactIsAbelianGroupRow.holds Try.pinned (OpenSpec.ofChange fnExactIsAbelianGroupSpec)

/-- ITS FALSE NEIGHBOUR: 'it returns false'. Refute it at one input. -/
def fnExactIsAbelianGroupWrong : ChangeSpec := { name := "fnExactIsAbelianGroup", fn := fun _ => fun
  | [d] => { results := [.lit (.bool false)], args := [d] }
  | _ => none }
def FnExactIsAbelianGroupWrongFalsely : Prop := fnExactIsAbelianGroupRow.holds Try.pinned (OpenSpec.ofChange fnExactIsAbelianGroupWrong)

/- THE SECOND FORM. 'bulk': how many values and letters a reading holds, each counted each time it is reached (what is shared counts as often as it is met; a slice's spare places count too). A statement '..UptoSaid' is the law's where the arguments, and the package variables that the reading takes, are together of bulk at most 1048576: NARROWER than '..Said'. Prove '..Said' where nothing that the law and all that it calls make is longer than what came in: it says more and counts as full. Else prove '..UptoSaid'. A law counts once. -/
mutual
def uptoBulk {H : Type} : DataW H → Nat
  | .lit (.string bytes) => bytes.length + 1
  | .lit _ => 1
  | .nil => 1
  | .ptr d => uptoBulk d + 1
  | .slice elems spare => uptoBulkAll elems + uptoBulkAll spare + 1
  | .agg parts => uptoBulkAll parts + 1
  | .iface _ d => uptoBulk d + 1
  | .map entries => uptoBulkEntries entries + 1
  | .held _ => 1
def uptoBulkAll {H : Type} : List (DataW H) → Nat
  | [] => 0
  | d :: r => uptoBulk d + uptoBulkAll r
def uptoBulkEntries {H : Type} : List (Lit × DataW H) → Nat
  | [] => 0
  | x :: r => uptoBulkEntry x + uptoBulkEntries r
def uptoBulkEntry {H : Type} : Lit × DataW H → Nat
  | (.string bytes, d) => bytes.length + uptoBulk d + 1
  | (_, d) => uptoBulk d + 1
 end
def uptoSmall : (H : Type) → List (DataW H) → Bool := fun _ ds => decide (uptoBulkAll ds ≤ 1048576)
def OpenSpec.upto (s : _root_.Go.ChangeSpec) : _root_.Go.OpenSpec := { _root_.Go.OpenSpec.ofChange s with cond := some uptoSmall }

/-- 'laws.FnExactTailPresentation', WHERE WHAT IT READS IS OF BULK AT MOST 1048576: true; the input reads as it did. -/
def fnExactTailPresentationUptoRow : OpenClaim := { program := "ytbhjbfgkohgiiaa", sum := "d53e30008fd69bf9548229505a889d59bcd0d16836c183e8f04812cf72436e5a", func := "loop.example/g01076/laws.FnExactTailPresentation", spec := "fnExactTailPresentation", apart := false, narrowed := true }
def FnExactTailPresentationUptoSaid : Prop := fnExactTailPresentationUptoRow.holds Try.pinned (OpenSpec.upto fnExactTailPresentationSpec)

/-- 'laws.FnExactHeadPresentation', WHERE WHAT IT READS IS OF BULK AT MOST 1048576: true; the input reads as it did. -/
def fnExactHeadPresentationUptoRow : OpenClaim := { program := "ytbhjbfgkohgiiaa", sum := "d53e30008fd69bf9548229505a889d59bcd0d16836c183e8f04812cf72436e5a", func := "loop.example/g01076/laws.FnExactHeadPresentation", spec := "fnExactHeadPresentation", recurses := true, apart := false, narrowed := true }
def FnExactHeadPresentationUptoSaid : Prop := fnExactHeadPresentationUptoRow.holds Try.pinned (OpenSpec.upto fnExactHeadPresentationSpec)

/-- 'laws.FnExactDirectProduct', WHERE WHAT IT READS IS OF BULK AT MOST 1048576: true; the input reads as it did. -/
def fnExactDirectProductUptoRow : OpenClaim := { program := "ytbhjbfgkohgiiaa", sum := "d53e30008fd69bf9548229505a889d59bcd0d16836c183e8f04812cf72436e5a", func := "loop.example/g01076/laws.FnExactDirectProduct", spec := "fnExactDirectProduct", apart := false, narrowed := true }
def FnExactDirectProductUptoSaid : Prop := fnExactDirectProductUptoRow.holds Try.pinned (OpenSpec.upto fnExactDirectProductSpec)

/-- 'laws.FnExactCollectStep', WHERE WHAT IT READS IS OF BULK AT MOST 1048576: true; the input reads as it did. -/
def fnExactCollectStepUptoRow : OpenClaim := { program := "ytbhjbfgkohgiiaa", sum := "d53e30008fd69bf9548229505a889d59bcd0d16836c183e8f04812cf72436e5a", func := "loop.example/g01076/laws.FnExactCollectStep", spec := "fnExactCollectStep", apart := false, narrowed := true }
def FnExactCollectStepUptoSaid : Prop := fnExactCollectStepUptoRow.holds Try.pinned (OpenSpec.upto fnExactCollectStepSpec)

/-- 'laws.FnExactCollectProduct', WHERE WHAT IT READS IS OF BULK AT MOST 1048576: true; the input reads as it did. -/
def fnExactCollectProductUptoRow : OpenClaim := { program := "ytbhjbfgkohgiiaa", sum := "d53e30008fd69bf9548229505a889d59bcd0d16836c183e8f04812cf72436e5a", func := "loop.example/g01076/laws.FnExactCollectProduct", spec := "fnExactCollectProduct", apart := false, narrowed := true }
def FnExactCollectProductUptoSaid : Prop := fnExactCollectProductUptoRow.holds Try.pinned (OpenSpec.upto fnExactCollectProductSpec)

/-- 'laws.FnExactCollectWord', WHERE WHAT IT READS IS OF BULK AT MOST 1048576: true; the input reads as it did. -/
def fnExactCollectWordUptoRow : OpenClaim := { program := "ytbhjbfgkohgiiaa", sum := "d53e30008fd69bf9548229505a889d59bcd0d16836c183e8f04812cf72436e5a", func := "loop.example/g01076/laws.FnExactCollectWord", spec := "fnExactCollectWord", apart := false, narrowed := true }
def FnExactCollectWordUptoSaid : Prop := fnExactCollectWordUptoRow.holds Try.pinned (OpenSpec.upto fnExactCollectWordSpec)

/-- 'laws.FnExactConsistencyFault', WHERE WHAT IT READS IS OF BULK AT MOST 1048576: true; the input reads as it did. -/
def fnExactConsistencyFaultUptoRow : OpenClaim := { program := "ytbhjbfgkohgiiaa", sum := "d53e30008fd69bf9548229505a889d59bcd0d16836c183e8f04812cf72436e5a", func := "loop.example/g01076/laws.FnExactConsistencyFault", spec := "fnExactConsistencyFault", recurses := true, apart := false, narrowed := true }
def FnExactConsistencyFaultUptoSaid : Prop := fnExactConsistencyFaultUptoRow.holds Try.pinned (OpenSpec.upto fnExactConsistencyFaultSpec)

/-- 'laws.FnExactCriticalPairs', WHERE WHAT IT READS IS OF BULK AT MOST 1048576: true; the input reads as it did. -/
def fnExactCriticalPairsUptoRow : OpenClaim := { program := "ytbhjbfgkohgiiaa", sum := "d53e30008fd69bf9548229505a889d59bcd0d16836c183e8f04812cf72436e5a", func := "loop.example/g01076/laws.FnExactCriticalPairs", spec := "fnExactCriticalPairs", unfollowed := true, recurses := true, apart := false, narrowed := true }
def FnExactCriticalPairsUptoSaid : Prop := fnExactCriticalPairsUptoRow.holds Try.pinned (OpenSpec.upto fnExactCriticalPairsSpec)

/-- 'laws.FnExactCriticalPairsJoin', WHERE WHAT IT READS IS OF BULK AT MOST 1048576: true; the input reads as it did. -/
def fnExactCriticalPairsJoinUptoRow : OpenClaim := { program := "ytbhjbfgkohgiiaa", sum := "d53e30008fd69bf9548229505a889d59bcd0d16836c183e8f04812cf72436e5a", func := "loop.example/g01076/laws.FnExactCriticalPairsJoin", spec := "fnExactCriticalPairsJoin", unfollowed := true, recurses := true, apart := false, narrowed := true }
def FnExactCriticalPairsJoinUptoSaid : Prop := fnExactCriticalPairsJoinUptoRow.holds Try.pinned (OpenSpec.upto fnExactCriticalPairsJoinSpec)

/-- 'laws.FnExactIsRealisation', WHERE WHAT IT READS IS OF BULK AT MOST 1048576: true; the input reads as it did. -/
def fnExactIsRealisationUptoRow : OpenClaim := { program := "ytbhjbfgkohgiiaa", sum := "d53e30008fd69bf9548229505a889d59bcd0d16836c183e8f04812cf72436e5a", func := "loop.example/g01076/laws.FnExactIsRealisation", spec := "fnExactIsRealisation", apart := false, narrowed := true }
def FnExactIsRealisationUptoSaid : Prop := fnExactIsRealisationUptoRow.holds Try.pinned (OpenSpec.upto fnExactIsRealisationSpec)

/-- 'laws.FnExactTrivialModule', WHERE WHAT IT READS IS OF BULK AT MOST 1048576: true; the input reads as it did. -/
def fnExactTrivialModuleUptoRow : OpenClaim := { program := "ytbhjbfgkohgiiaa", sum := "d53e30008fd69bf9548229505a889d59bcd0d16836c183e8f04812cf72436e5a", func := "loop.example/g01076/laws.FnExactTrivialModule", spec := "fnExactTrivialModule", recurses := true, apart := false, narrowed := true }
def FnExactTrivialModuleUptoSaid : Prop := fnExactTrivialModuleUptoRow.holds Try.pinned (OpenSpec.upto fnExactTrivialModuleSpec)

/-- 'laws.FnExactIsAbelianGroup', WHERE WHAT IT READS IS OF BULK AT MOST 1048576: true; the input reads as it did. -/
def fnExactIsAbelianGroupUptoRow : OpenClaim := { program := "ytbhjbfgkohgiiaa", sum := "d53e30008fd69bf9548229505a889d59bcd0d16836c183e8f04812cf72436e5a", func := "loop.example/g01076/laws.FnExactIsAbelianGroup", spec := "fnExactIsAbelianGroup", recurses := true, apart := false, narrowed := true }
def FnExactIsAbelianGroupUptoSaid : Prop := fnExactIsAbelianGroupUptoRow.holds Try.pinned (OpenSpec.upto fnExactIsAbelianGroupSpec)

end Rows
end Go.Proofs.Ytbhjbfgkohgiiaa
