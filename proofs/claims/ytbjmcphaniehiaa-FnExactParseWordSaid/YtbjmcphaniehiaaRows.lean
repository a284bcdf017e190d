/-
  No cell of these rows narrows 'for every input' (looked for: loops, veiled, ifaces, maps, wideKeys, modest, calm, conditions, laid).
  DERIVED. THE GIVEN ROWS OF THIS SEAT. 12 by the template 'for every input the law returns true; each argument reads behind the call as it read before'; 0 by the template 'total and deterministic' (their statements: YtbjmcphaniehiaaTotals.lean).
  GIVEN WITH THE SEED: the statements are not yours to turn. If you find one false, say at which input.
  Laid BY PROGRAM, IN A SANDBOX (cutbox-rows.mjs): the forced cells as the released guide's own fill.sh prints them over the translation f2dbf877477e840a… (all of the seat's roots in one cut). By AI agents, Wed Nov 11 2026. No macro, syntax, notation, axiom, sorry.
-/
import Derived.Test.YtbjmcphaniehiaaChecked
import GoSem.Claim
import GoSem.ClaimJoined
import GoSem.ClaimMapViews
import Derived.JoinedTies
import Derived.KernelRfl
namespace Go.Proofs.Ytbjmcphaniehiaa
/- THE CELL 'sum', in the pinned program and in every row, IS THE sha256 OF THE DUMP (.gsa) THAT YtbjmcphaniehiaaProg.lean LOADS. Nothing in Lean hashes anything: it is a label: what it is worth is what the hold of that sum in a sandbox is worth. -/
noncomputable def Try.pinned : Pinned := { name := "ytbjmcphaniehiaa", sum := "f2dbf877477e840a9a28abbda82c9ad51a071b5020942b1198ede5e3d87876d9", checked := Try.checked }
namespace Rows
def none {H : Type} : Left H := { results := [], args := [] }

/-- 'laws.FnExactIsWord': WHATEVER THE INPUT: true; the input reads as it did. -/
def fnExactIsWordSpec : ChangeSpec := { name := "fnExactIsWord", fn := fun _ => fun
  | [d1, d2] => { results := [.lit (.bool true)], args := [d1, d2] }
  | _ => none }
def fnExactIsWordRow : OpenClaim := { program := "ytbjmcphaniehiaa", sum := "f2dbf877477e840a9a28abbda82c9ad51a071b5020942b1198ede5e3d87876d9", func := "loop.example/g01076/laws.FnExactIsWord", spec := "fnExactIsWord", apart := false }
def FnExactIsWordSaid : Prop := fnExactIsWordRow.holds Try.pinned (OpenSpec.ofChange fnExactIsWordSpec)

/-- ITS FALSE NEIGHBOUR: 'it returns false'. Refute it at one input. -/
def fnExactIsWordWrong : ChangeSpec := { name := "fnExactIsWord", fn := fun _ => fun
  | [d1, d2] => { results := [.lit (.bool false)], args := [d1, d2] }
  | _ => none }
def FnExactIsWordWrongFalsely : Prop := fnExactIsWordRow.holds Try.pinned (OpenSpec.ofChange fnExactIsWordWrong)

/-- 'laws.FnExactIsBijection': WHATEVER THE INPUT: true; the input reads as it did. -/
def fnExactIsBijectionSpec : ChangeSpec := { name := "fnExactIsBijection", fn := fun _ => fun
  | [d] => { results := [.lit (.bool true)], args := [d] }
  | _ => none }
def fnExactIsBijectionRow : OpenClaim := { program := "ytbjmcphaniehiaa", sum := "f2dbf877477e840a9a28abbda82c9ad51a071b5020942b1198ede5e3d87876d9", func := "loop.example/g01076/laws.FnExactIsBijection", spec := "fnExactIsBijection", apart := false }
def FnExactIsBijectionSaid : Prop := fnExactIsBijectionRow.holds Try.pinned (OpenSpec.ofChange fnExactIsBijectionSpec)

/-- ITS FALSE NEIGHBOUR: 'it returns false'. Refute it at one input. -/
def fnExactIsBijectionWrong : ChangeSpec := { name := "fnExactIsBijection", fn := fun _ => fun
  | [d] => { results := [.lit (.bool false)], args := [d] }
  | _ => none }
def FnExactIsBijectionWrongFalsely : Prop := fnExactIsBijectionRow.holds Try.pinned (OpenSpec.ofChange fnExactIsBijectionWrong)

/-- 'laws.FnExactIsReducedWord': WHATEVER THE INPUT: true; the input reads as it did. -/
def fnExactIsReducedWordSpec : ChangeSpec := { name := "fnExactIsReducedWord", fn := fun _ => fun
  | [d1, d2] => { results := [.lit (.bool true)], args := [d1, d2] }
  | _ => none }
def fnExactIsReducedWordRow : OpenClaim := { program := "ytbjmcphaniehiaa", sum := "f2dbf877477e840a9a28abbda82c9ad51a071b5020942b1198ede5e3d87876d9", func := "loop.example/g01076/laws.FnExactIsReducedWord", spec := "fnExactIsReducedWord", apart := false }
def FnExactIsReducedWordSaid : Prop := fnExactIsReducedWordRow.holds Try.pinned (OpenSpec.ofChange fnExactIsReducedWordSpec)

/-- ITS FALSE NEIGHBOUR: 'it returns false'. Refute it at one input. -/
def fnExactIsReducedWordWrong : ChangeSpec := { name := "fnExactIsReducedWord", fn := fun _ => fun
  | [d1, d2] => { results := [.lit (.bool false)], args := [d1, d2] }
  | _ => none }
def FnExactIsReducedWordWrongFalsely : Prop := fnExactIsReducedWordRow.holds Try.pinned (OpenSpec.ofChange fnExactIsReducedWordWrong)

/-- 'laws.FnExactInvertBijection': WHATEVER THE INPUT: true; the input reads as it did. -/
def fnExactInvertBijectionSpec : ChangeSpec := { name := "fnExactInvertBijection", fn := fun _ => fun
  | [d] => { results := [.lit (.bool true)], args := [d] }
  | _ => none }
def fnExactInvertBijectionRow : OpenClaim := { program := "ytbjmcphaniehiaa", sum := "f2dbf877477e840a9a28abbda82c9ad51a071b5020942b1198ede5e3d87876d9", func := "loop.example/g01076/laws.FnExactInvertBijection", spec := "fnExactInvertBijection", apart := false }
def FnExactInvertBijectionSaid : Prop := fnExactInvertBijectionRow.holds Try.pinned (OpenSpec.ofChange fnExactInvertBijectionSpec)

/-- ITS FALSE NEIGHBOUR: 'it returns false'. Refute it at one input. -/
def fnExactInvertBijectionWrong : ChangeSpec := { name := "fnExactInvertBijection", fn := fun _ => fun
  | [d] => { results := [.lit (.bool false)], args := [d] }
  | _ => none }
def FnExactInvertBijectionWrongFalsely : Prop := fnExactInvertBijectionRow.holds Try.pinned (OpenSpec.ofChange fnExactInvertBijectionWrong)

/-- 'laws.FnExactParseWord': WHATEVER THE INPUT: true; the input reads as it did. -/
def fnExactParseWordSpec : ChangeSpec := { name := "fnExactParseWord", fn := fun _ => fun
  | [d1, d2] => { results := [.lit (.bool true)], args := [d1, d2] }
  | _ => none }
def fnExactParseWordRow : OpenClaim := { program := "ytbjmcphaniehiaa", sum := "f2dbf877477e840a9a28abbda82c9ad51a071b5020942b1198ede5e3d87876d9", func := "loop.example/g01076/laws.FnExactParseWord", spec := "fnExactParseWord", apart := false }
def FnExactParseWordSaid : Prop := fnExactParseWordRow.holds Try.pinned (OpenSpec.ofChange fnExactParseWordSpec)

/-- ITS FALSE NEIGHBOUR: 'it returns false'. Refute it at one input. -/
def fnExactParseWordWrong : ChangeSpec := { name := "fnExactParseWord", fn := fun _ => fun
  | [d1, d2] => { results := [.lit (.bool false)], args := [d1, d2] }
  | _ => none }
def FnExactParseWordWrongFalsely : Prop := fnExactParseWordRow.holds Try.pinned (OpenSpec.ofChange fnExactParseWordWrong)

/-- 'laws.FnExactComposeBijections': WHATEVER THE INPUT: true; the input reads as it did. -/
def fnExactComposeBijectionsSpec : ChangeSpec := { name := "fnExactComposeBijections", fn := fun _ => fun
  | [d1, d2] => { results := [.lit (.bool true)], args := [d1, d2] }
  | _ => none }
def fnExactComposeBijectionsRow : OpenClaim := { program := "ytbjmcphaniehiaa", sum := "f2dbf877477e840a9a28abbda82c9ad51a071b5020942b1198ede5e3d87876d9", func := "loop.example/g01076/laws.FnExactComposeBijections", spec := "fnExactComposeBijections", apart := false }
def FnExactComposeBijectionsSaid : Prop := fnExactComposeBijectionsRow.holds Try.pinned (OpenSpec.ofChange fnExactComposeBijectionsSpec)

/-- ITS FALSE NEIGHBOUR: 'it returns false'. Refute it at one input. -/
def fnExactComposeBijectionsWrong : ChangeSpec := { name := "fnExactComposeBijections", fn := fun _ => fun
  | [d1, d2] => { results := [.lit (.bool false)], args := [d1, d2] }
  | _ => none }
def FnExactComposeBijectionsWrongFalsely : Prop := fnExactComposeBijectionsRow.holds Try.pinned (OpenSpec.ofChange fnExactComposeBijectionsWrong)

/-- 'laws.FnExactWordText': WHATEVER THE INPUT: true; the input reads as it did. -/
def fnExactWordTextSpec : ChangeSpec := { name := "fnExactWordText", fn := fun _ => fun
  | [d1, d2] => { results := [.lit (.bool true)], args := [d1, d2] }
  | _ => none }
def fnExactWordTextRow : OpenClaim := { program := "ytbjmcphaniehiaa", sum := "f2dbf877477e840a9a28abbda82c9ad51a071b5020942b1198ede5e3d87876d9", func := "loop.example/g01076/laws.FnExactWordText", spec := "fnExactWordText", apart := false }
def FnExactWordTextSaid : Prop := fnExactWordTextRow.holds Try.pinned (OpenSpec.ofChange fnExactWordTextSpec)

/-- ITS FALSE NEIGHBOUR: 'it returns false'. Refute it at one input. -/
def fnExactWordTextWrong : ChangeSpec := { name := "fnExactWordText", fn := fun _ => fun
  | [d1, d2] => { results := [.lit (.bool false)], args := [d1, d2] }
  | _ => none }
def FnExactWordTextWrongFalsely : Prop := fnExactWordTextRow.holds Try.pinned (OpenSpec.ofChange fnExactWordTextWrong)

/-- 'laws.FnExactInvertWord': WHATEVER THE INPUT: true; the input reads as it did. -/
def fnExactInvertWordSpec : ChangeSpec := { name := "fnExactInvertWord", fn := fun _ => fun
  | [d1, d2] => { results := [.lit (.bool true)], args := [d1, d2] }
  | _ => none }
def fnExactInvertWordRow : OpenClaim := { program := "ytbjmcphaniehiaa", sum := "f2dbf877477e840a9a28abbda82c9ad51a071b5020942b1198ede5e3d87876d9", func := "loop.example/g01076/laws.FnExactInvertWord", spec := "fnExactInvertWord", apart := false }
def FnExactInvertWordSaid : Prop := fnExactInvertWordRow.holds Try.pinned (OpenSpec.ofChange fnExactInvertWordSpec)

/-- ITS FALSE NEIGHBOUR: 'it returns false'. Refute it at one input. -/
def fnExactInvertWordWrong : ChangeSpec := { name := "fnExactInvertWord", fn := fun _ => fun
  | [d1, d2] => { results := [.lit (.bool false)], args := [d1, d2] }
  | _ => none }
def FnExactInvertWordWrongFalsely : Prop := fnExactInvertWordRow.holds Try.pinned (OpenSpec.ofChange fnExactInvertWordWrong)

/-- 'laws.FnExactReduceWord': WHATEVER THE INPUT: true; the input reads as it did. -/
def fnExactReduceWordSpec : ChangeSpec := { name := "fnExactReduceWord", fn := fun _ => fun
  | [d1, d2] => { results := [.lit (.bool true)], args := [d1, d2] }
  | _ => none }
def fnExactReduceWordRow : OpenClaim := { program := "ytbjmcphaniehiaa", sum := "f2dbf877477e840a9a28abbda82c9ad51a071b5020942b1198ede5e3d87876d9", func := "loop.example/g01076/laws.FnExactReduceWord", spec := "fnExactReduceWord", apart := false }
def FnExactReduceWordSaid : Prop := fnExactReduceWordRow.holds Try.pinned (OpenSpec.ofChange fnExactReduceWordSpec)

/-- ITS FALSE NEIGHBOUR: 'it returns false'. Refute it at one input. -/
def fnExactReduceWordWrong : ChangeSpec := { name := "fnExactReduceWord", fn := fun _ => fun
  | [d1, d2] => { results := [.lit (.bool false)], args := [d1, d2] }
  | _ => none }
def FnExactReduceWordWrongFalsely : Prop := fnExactReduceWordRow.holds Try.pinned (OpenSpec.ofChange fnExactReduceWordWrong)

/-- 'laws.FnExactExponentSums': WHATEVER THE INPUT: true; the input reads as it did. -/
def fnExactExponentSumsSpec : ChangeSpec := { name := "fnExactExponentSums", fn := fun _ => fun
  | [d1, d2] => { results := [.lit (.bool true)], args := [d1, d2] }
  | _ => none }
def fnExactExponentSumsRow : OpenClaim := { program := "ytbjmcphaniehiaa", sum := "f2dbf877477e840a9a28abbda82c9ad51a071b5020942b1198ede5e3d87876d9", func := "loop.example/g01076/laws.FnExactExponentSums", spec := "fnExactExponentSums", apart := false }
def FnExactExponentSumsSaid : Prop := fnExactExponentSumsRow.holds Try.pinned (OpenSpec.ofChange fnExactExponentSumsSpec)

/-- ITS FALSE NEIGHBOUR: 'it returns false'. Refute it at one input. -/
def fnExactExponentSumsWrong : ChangeSpec := { name := "fnExactExponentSums", fn := fun _ => fun
  | [d1, d2] => { results := [.lit (.bool false)], args := [d1, d2] }
  | _ => none }
def FnExactExponentSumsWrongFalsely : Prop := fnExactExponentSumsRow.holds Try.pinned (OpenSpec.ofChange fnExactExponentSumsWrong)

/-- 'laws.FnExactMultiplyWords': WHATEVER THE INPUT: true; the input reads as it did. -/
def fnExactMultiplyWordsSpec : ChangeSpec := { name := "fnExactMultiplyWords", fn := fun _ => fun
  | [d1, d2, d3] => { results := [.lit (.bool true)], args := [d1, d2, d3] }
  | _ => none }
def fnExactMultiplyWordsRow : OpenClaim := { program := "ytbjmcphaniehiaa", sum := "f2dbf877477e840a9a28abbda82c9ad51a071b5020942b1198ede5e3d87876d9", func := "loop.example/g01076/laws.FnExactMultiplyWords", spec := "fnExactMultiplyWords", apart := false }
def FnExactMultiplyWordsSaid : Prop := fnExactMultiplyWordsRow.holds Try.pinned (OpenSpec.ofChange fnExactMultiplyWordsSpec)

/-- ITS FALSE NEIGHBOUR: 'it returns false'. Refute it at one input. -/
def fnExactMultiplyWordsWrong : ChangeSpec := { name := "fnExactMultiplyWords", fn := fun _ => fun
  | [d1, d2, d3] => { results := [.lit (.bool false)], args := [d1, d2, d3] }
  | _ => none }
def FnExactMultiplyWordsWrongFalsely : Prop := fnExactMultiplyWordsRow.holds Try.pinned (OpenSpec.ofChange fnExactMultiplyWordsWrong)

/-- 'laws.FnExactWordCommutator': WHATEVER THE INPUT: true; the input reads as it did. -/
def fnExactWordCommutatorSpec : ChangeSpec := { name := "fnExactWordCommutator", fn := fun _ => fun
  | [d1, d2, d3] => { results := [.lit (.bool true)], args := [d1, d2, d3] }
  | _ => none }
def fnExactWordCommutatorRow : OpenClaim := { program := "ytbjmcphaniehiaa", sum := "f2dbf877477e840a9a28abbda82c9ad51a071b5020942b1198ede5e3d87876d9", func := "loop.example/g01076/laws.FnExactWordCommutator", spec := "fnExactWordCommutator", apart := false }
def FnExactWordCommutatorSaid : Prop := fnExactWordCommutatorRow.holds Try.pinned (OpenSpec.ofChange fnExactWordCommutatorSpec)

/-- ITS FALSE NEIGHBOUR: 'it returns false'. Refute it at one input. -/
def fnExactWordCommutatorWrong : ChangeSpec := { name := "fnExactWordCommutator", fn := fun _ => fun
  | [d1, d2, d3] => { results := [.lit (.bool false)], args := [d1, d2, d3] }
  | _ => none }
def FnExactWordCommutatorWrongFalsely : Prop := fnExactWordCommutatorRow.holds Try.pinned (OpenSpec.ofChange fnExactWordCommutatorWrong)

/- THE SECOND FORM. 'bulk': how many values and letters a reading holds, each counted each time it is reached (what is shared counts as often as it is met; a slice's spare places count too). A statement '..UptoSaid' is the law's where the arguments, and the package variables that the reading takes, are together of bulk at most 1048576: NARROWER than '..Said'. Prove '..Said' where nothing that the law and all that it calls make is longer than what came in: it says more and counts as full. Else prove '..UptoSaid'. A law counts once. -/
mutual
def uptoBulk {H : Type} : DataW H → Nat
  | .lit (.string bytes) => bytes.length + 1
  | .lit _ => 1
  | .nil => 1
  | .ptr d => uptoBulk d + 1
  | .slice elems spare => uptoBulkAll elems + uptoBulkAll spare + 1
  | .agg parts => uptoBulkAll parts + 1
  | .iface _ d => uptoBulk d + 1
  | .map entries => uptoBulkEntries entries + 1
  | .held _ => 1
def uptoBulkAll {H : Type} : List (DataW H) → Nat
  | [] => 0
  | d :: r => uptoBulk d + uptoBulkAll r
def uptoBulkEntries {H : Type} : List (Lit × DataW H) → Nat
  | [] => 0
  | x :: r => uptoBulkEntry x + uptoBulkEntries r
def uptoBulkEntry {H : Type} : Lit × DataW H → Nat
  | (.string bytes, d) => bytes.length + uptoBulk d + 1
  | (_, d) => uptoBulk d + 1
 end
def uptoSmall : (H : Type) → List (DataW H) → Bool := fun _ ds => decide (uptoBulkAll ds ≤ 1048576)
def OpenSpec.upto (s : _root_.Go.ChangeSpec) : _root_.Go.OpenSpec := { _root_.Go.OpenSpec.ofChange s with cond := some uptoSmall }

/-- 'laws.FnExactIsWord', WHERE WHAT IT READS IS OF BULK AT MOST 1048576: true; the input reads as it did. -/
def fnExactIsWordUptoRow : OpenClaim := { program := "ytbjmcphaniehiaa", sum := "f2dbf877477e840a9a28abbda82c9ad51a071b5020942b1198ede5e3d87876d9", func := "loop.example/g01076/laws.FnExactIsWord", spec := "fnExactIsWord", apart := false, narrowed := true }
def FnExactIsWordUptoSaid : Prop := fnExactIsWordUptoRow.holds Try.pinned (OpenSpec.upto fnExactIsWordSpec)

/-- 'laws.FnExactIsBijection', WHERE WHAT IT READS IS OF BULK AT MOST 1048576: true; the input reads as it did. -/
def fnExactIsBijectionUptoRow : OpenClaim := { program := "ytbjmcphaniehiaa", sum := "f2dbf877477e840a9a28abbda82c9ad51a071b5020942b1198ede5e3d87876d9", func := "loop.example/g01076/laws.FnExactIsBijection", spec := "fnExactIsBijection", apart := false, narrowed := true }
def FnExactIsBijectionUptoSaid : Prop := fnExactIsBijectionUptoRow.holds Try.pinned (OpenSpec.upto fnExactIsBijectionSpec)

/-- 'laws.FnExactIsReducedWord', WHERE WHAT IT READS IS OF BULK AT MOST 1048576: true; the input reads as it did. -/
def fnExactIsReducedWordUptoRow : OpenClaim := { program := "ytbjmcphaniehiaa", sum := "f2dbf877477e840a9a28abbda82c9ad51a071b5020942b1198ede5e3d87876d9", func := "loop.example/g01076/laws.FnExactIsReducedWord", spec := "fnExactIsReducedWord", apart := false, narrowed := true }
def FnExactIsReducedWordUptoSaid : Prop := fnExactIsReducedWordUptoRow.holds Try.pinned (OpenSpec.upto fnExactIsReducedWordSpec)

/-- 'laws.FnExactInvertBijection', WHERE WHAT IT READS IS OF BULK AT MOST 1048576: true; the input reads as it did. -/
def fnExactInvertBijectionUptoRow : OpenClaim := { program := "ytbjmcphaniehiaa", sum := "f2dbf877477e840a9a28abbda82c9ad51a071b5020942b1198ede5e3d87876d9", func := "loop.example/g01076/laws.FnExactInvertBijection", spec := "fnExactInvertBijection", apart := false, narrowed := true }
def FnExactInvertBijectionUptoSaid : Prop := fnExactInvertBijectionUptoRow.holds Try.pinned (OpenSpec.upto fnExactInvertBijectionSpec)

/-- 'laws.FnExactParseWord', WHERE WHAT IT READS IS OF BULK AT MOST 1048576: true; the input reads as it did. -/
def fnExactParseWordUptoRow : OpenClaim := { program := "ytbjmcphaniehiaa", sum := "f2dbf877477e840a9a28abbda82c9ad51a071b5020942b1198ede5e3d87876d9", func := "loop.example/g01076/laws.FnExactParseWord", spec := "fnExactParseWord", apart := false, narrowed := true }
def FnExactParseWordUptoSaid : Prop := fnExactParseWordUptoRow.holds Try.pinned (OpenSpec.upto fnExactParseWordSpec)

/-- 'laws.FnExactComposeBijections', WHERE WHAT IT READS IS OF BULK AT MOST 1048576: true; the input reads as it did. -/
def fnExactComposeBijectionsUptoRow : OpenClaim := { program := "ytbjmcphaniehiaa", sum := "f2dbf877477e840a9a28abbda82c9ad51a071b5020942b1198ede5e3d87876d9", func := "loop.example/g01076/laws.FnExactComposeBijections", spec := "fnExactComposeBijections", apart := false, narrowed := true }
def FnExactComposeBijectionsUptoSaid : Prop := fnExactComposeBijectionsUptoRow.holds Try.pinned (OpenSpec.upto fnExactComposeBijectionsSpec)

/-- 'laws.FnExactWordText', WHERE WHAT IT READS IS OF BULK AT MOST 1048576: true; the input reads as it did. -/
def fnExactWordTextUptoRow : OpenClaim := { program := "ytbjmcphaniehiaa", sum := "f2dbf877477e840a9a28abbda82c9ad51a071b5020942b1198ede5e3d87876d9", func := "loop.example/g01076/laws.FnExactWordText", spec := "fnExactWordText", apart := false, narrowed := true }
def FnExactWordTextUptoSaid : Prop := fnExactWordTextUptoRow.holds Try.pinned (OpenSpec.upto fnExactWordTextSpec)

/-- 'laws.FnExactInvertWord', WHERE WHAT IT READS IS OF BULK AT MOST 1048576: true; the input reads as it did. -/
def fnExactInvertWordUptoRow : OpenClaim := { program := "ytbjmcphaniehiaa", sum := "f2dbf877477e840a9a28abbda82c9ad51a071b5020942b1198ede5e3d87876d9", func := "loop.example/g01076/laws.FnExactInvertWord", spec := "fnExactInvertWord", apart := false, narrowed := true }
def FnExactInvertWordUptoSaid : Prop := fnExactInvertWordUptoRow.holds Try.pinned (OpenSpec.upto fnExactInvertWordSpec)

/-- 'laws.FnExactReduceWord', WHERE WHAT IT READS IS OF BULK AT MOST 1048576: true; the input reads as it did. -/
def fnExactReduceWordUptoRow : OpenClaim := { program := "ytbjmcphaniehiaa", sum := "f2dbf877477e840a9a28abbda82c9ad51a071b5020942b1198ede5e3d87876d9", func := "loop.example/g01076/laws.FnExactReduceWord", spec := "fnExactReduceWord", apart := false, narrowed := true }
def FnExactReduceWordUptoSaid : Prop := fnExactReduceWordUptoRow.holds Try.pinned (OpenSpec.upto fnExactReduceWordSpec)

/-- 'laws.FnExactExponentSums', WHERE WHAT IT READS IS OF BULK AT MOST 1048576: true; the input reads as it did. -/
def fnExactExponentSumsUptoRow : OpenClaim := { program := "ytbjmcphaniehiaa", sum := "f2dbf877477e840a9a28abbda82c9ad51a071b5020942b1198ede5e3d87876d9", func := "loop.example/g01076/laws.FnExactExponentSums", spec := "fnExactExponentSums", apart := false, narrowed := true }
def FnExactExponentSumsUptoSaid : Prop := fnExactExponentSumsUptoRow.holds Try.pinned (OpenSpec.upto fnExactExponentSumsSpec)

/-- 'laws.FnExactMultiplyWords', WHERE WHAT IT READS IS OF BULK AT MOST 1048576: true; the input reads as it did. -/
def fnExactMultiplyWordsUptoRow : OpenClaim := { program := "ytbjmcphaniehiaa", sum := "f2dbf877477e840a9a28abbda82c9ad51a071b5020942b1198ede5e3d87876d9", func := "loop.example/g01076/laws.FnExactMultiplyWords", spec := "fnExactMultiplyWords", apart := false, narrowed := true }
def FnExactMultiplyWordsUptoSaid : Prop := fnExactMultiplyWordsUptoRow.holds Try.pinned (OpenSpec.upto fnExactMultiplyWordsSpec)

/-- 'laws.FnExactWordCommutator', WHERE WHAT IT READS IS OF BULK AT MOST 1048576: true; the input reads as it did. -/
def fnExactWordCommutatorUptoRow : OpenClaim := { program := "ytbjmcphaniehiaa", sum := "f2dbf877477e840a9a28abbda82c9ad51a071b5020942b1198ede5e3d87876d9", func := "loop.example/g01076/laws.FnExactWordCommutator", spec := "fnExactWordCommutator", apart := false, narrowed := true }
def FnExactWordCommutatorUptoSaid : Prop := fnExactWordCommutatorUptoRow.holds Try.pinned (OpenSpec.upto fnExactWordCommutatorSpec)

end Rows
end Go.Proofs.Ytbjmcphaniehiaa
