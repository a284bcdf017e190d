/-
  No cell of these rows narrows 'for every input' (looked for: loops, veiled, ifaces, maps, wideKeys, modest, calm, conditions, laid).
  DERIVED. THE GIVEN ROWS OF THIS SEAT. 12 by the template 'for every input the law returns true; each argument reads behind the call as it read before'; 0 by the template 'total and deterministic' (their statements: YtanjeebdondpaaaTotals.lean).
  GIVEN WITH THE SEED: the statements are not yours to turn. If you find one false, say at which input.
  Laid BY PROGRAM, IN A SANDBOX (cutbox-rows.mjs): the forced cells as the released guide's own fill.sh prints them over the translation 17bb109b721ffd62… (all of the seat's roots in one cut). By AI agents, Wed Nov 11 2026. No macro, syntax, notation, axiom, sorry.
-/
import Derived.Test.YtanjeebdondpaaaChecked
import GoSem.Claim
import GoSem.ClaimJoined
import GoSem.ClaimMapViews
import Derived.JoinedTies
import Derived.KernelRfl
namespace Go.Proofs.Ytanjeebdondpaaa
/- THE CELL 'sum', in the pinned program and in every row, IS THE sha256 OF THE DUMP (.gsa) THAT YtanjeebdondpaaaProg.lean LOADS. Nothing in Lean hashes anything: it is a label: what it is worth is what the hold of that sum in a sandbox is worth. -/
noncomputable def Try.pinned : Pinned := { name := "ytanjeebdondpaaa", sum := "17bb109b721ffd626fdd99685bcc1708b0b47cb6800bd7e33ccd4c2641c16cbf", checked := Try.checked }
namespace Rows
def none {H : Type} : Left H := { results := [], args := [] }

/-- 'laws.FnExactTailPresentation': WHATEVER THE INPUT: true; the input reads as it did. -/
def fnExactTailPresentationSpec : ChangeSpec := { name := "fnExactTailPresentation", fn := fun _ => fun
  | [d1, d2] => { results := [.lit (.bool true)], args := [d1, d2] }
  | _ => none }
def fnExactTailPresentationRow : OpenClaim := { program := "ytanjeebdondpaaa", sum := "17bb109b721ffd626fdd99685bcc1708b0b47cb6800bd7e33ccd4c2641c16cbf", func := "loop.example/g01076/laws.FnExactTailPresentation", spec := "fnExactTailPresentation", apart := false }
def FnExactTailPresentationSaid : Prop := fnExactTailPresentationRow.holds Try.pinned (OpenSpec.ofChange fnExactTailPresentationSpec)

/-- ITS FALSE NEIGHBOUR: 'it returns false'. Refute it at one input. -/
def fnExactTailPresentationWrong : ChangeSpec := { name := "fnExactTailPresentation", fn := fun _ => fun
  | [d1, d2] => { results := [.lit (.bool false)], args := [d1, d2] }
  | _ => none }
def FnExactTailPresentationWrongFalsely : Prop := fnExactTailPresentationRow.holds Try.pinned (OpenSpec.ofChange fnExactTailPresentationWrong)

/-- 'laws.FnExactElementOrder': WHATEVER THE INPUT: true; the input reads as it did. -/
def fnExactElementOrderSpec : ChangeSpec := { name := "fnExactElementOrder", fn := fun _ => fun
  | [d1, d2] => { results := [.lit (.bool true)], args := [d1, d2] }
  | _ => none }
def fnExactElementOrderRow : OpenClaim := { program := "ytanjeebdondpaaa", sum := "17bb109b721ffd626fdd99685bcc1708b0b47cb6800bd7e33ccd4c2641c16cbf", func := "loop.example/g01076/laws.FnExactElementOrder", spec := "fnExactElementOrder", recurses := true, apart := false }
def FnExactElementOrderSaid : Prop := fnExactElementOrderRow.holds Try.pinned (OpenSpec.ofChange fnExactElementOrderSpec)

/-- ITS FALSE NEIGHBOUR: 'it returns false'. Refute it at one input. -/
def fnExactElementOrderWrong : ChangeSpec := { name := "fnExactElementOrder", fn := fun _ => fun
  | [d1, d2] => { results := [.lit (.bool false)], args := [d1, d2] }
  | _ => none }
def FnExactElementOrderWrongFalsely : Prop := fnExactElementOrderRow.holds Try.pinned (OpenSpec.ofChange fnExactElementOrderWrong)

/-- 'laws.FnExactConjugate': WHATEVER THE INPUT: true; the input reads as it did. -/
def fnExactConjugateSpec : ChangeSpec := { name := "fnExactConjugate", fn := fun _ => fun
  | [d1, d2, d3] => { results := [.lit (.bool true)], args := [d1, d2, d3] }
  | _ => none }
def fnExactConjugateRow : OpenClaim := { program := "ytanjeebdondpaaa", sum := "17bb109b721ffd626fdd99685bcc1708b0b47cb6800bd7e33ccd4c2641c16cbf", func := "loop.example/g01076/laws.FnExactConjugate", spec := "fnExactConjugate", recurses := true, apart := false }
def FnExactConjugateSaid : Prop := fnExactConjugateRow.holds Try.pinned (OpenSpec.ofChange fnExactConjugateSpec)

/-- ITS FALSE NEIGHBOUR: 'it returns false'. Refute it at one input. -/
def fnExactConjugateWrong : ChangeSpec := { name := "fnExactConjugate", fn := fun _ => fun
  | [d1, d2, d3] => { results := [.lit (.bool false)], args := [d1, d2, d3] }
  | _ => none }
def FnExactConjugateWrongFalsely : Prop := fnExactConjugateRow.holds Try.pinned (OpenSpec.ofChange fnExactConjugateWrong)

/-- 'laws.FnExactCommutator': WHATEVER THE INPUT: true; the input reads as it did. -/
def fnExactCommutatorSpec : ChangeSpec := { name := "fnExactCommutator", fn := fun _ => fun
  | [d1, d2, d3] => { results := [.lit (.bool true)], args := [d1, d2, d3] }
  | _ => none }
def fnExactCommutatorRow : OpenClaim := { program := "ytanjeebdondpaaa", sum := "17bb109b721ffd626fdd99685bcc1708b0b47cb6800bd7e33ccd4c2641c16cbf", func := "loop.example/g01076/laws.FnExactCommutator", spec := "fnExactCommutator", recurses := true, apart := false }
def FnExactCommutatorSaid : Prop := fnExactCommutatorRow.holds Try.pinned (OpenSpec.ofChange fnExactCommutatorSpec)

/-- ITS FALSE NEIGHBOUR: 'it returns false'. Refute it at one input. -/
def fnExactCommutatorWrong : ChangeSpec := { name := "fnExactCommutator", fn := fun _ => fun
  | [d1, d2, d3] => { results := [.lit (.bool false)], args := [d1, d2, d3] }
  | _ => none }
def FnExactCommutatorWrongFalsely : Prop := fnExactCommutatorRow.holds Try.pinned (OpenSpec.ofChange fnExactCommutatorWrong)

/-- 'laws.FnExactElementAt': WHATEVER THE INPUT: true; the input reads as it did. -/
def fnExactElementAtSpec : ChangeSpec := { name := "fnExactElementAt", fn := fun _ => fun
  | [d1, d2] => { results := [.lit (.bool true)], args := [d1, d2] }
  | _ => none }
def fnExactElementAtRow : OpenClaim := { program := "ytanjeebdondpaaa", sum := "17bb109b721ffd626fdd99685bcc1708b0b47cb6800bd7e33ccd4c2641c16cbf", func := "loop.example/g01076/laws.FnExactElementAt", spec := "fnExactElementAt", recurses := true, apart := false }
def FnExactElementAtSaid : Prop := fnExactElementAtRow.holds Try.pinned (OpenSpec.ofChange fnExactElementAtSpec)

/-- ITS FALSE NEIGHBOUR: 'it returns false'. Refute it at one input. -/
def fnExactElementAtWrong : ChangeSpec := { name := "fnExactElementAt", fn := fun _ => fun
  | [d1, d2] => { results := [.lit (.bool false)], args := [d1, d2] }
  | _ => none }
def FnExactElementAtWrongFalsely : Prop := fnExactElementAtRow.holds Try.pinned (OpenSpec.ofChange fnExactElementAtWrong)

/-- 'laws.FnExactInnerAutomorphism': WHATEVER THE INPUT: true; the input reads as it did. -/
def fnExactInnerAutomorphismSpec : ChangeSpec := { name := "fnExactInnerAutomorphism", fn := fun _ => fun
  | [d1, d2] => { results := [.lit (.bool true)], args := [d1, d2] }
  | _ => none }
def fnExactInnerAutomorphismRow : OpenClaim := { program := "ytanjeebdondpaaa", sum := "17bb109b721ffd626fdd99685bcc1708b0b47cb6800bd7e33ccd4c2641c16cbf", func := "loop.example/g01076/laws.FnExactInnerAutomorphism", spec := "fnExactInnerAutomorphism", recurses := true, apart := false }
def FnExactInnerAutomorphismSaid : Prop := fnExactInnerAutomorphismRow.holds Try.pinned (OpenSpec.ofChange fnExactInnerAutomorphismSpec)

/-- ITS FALSE NEIGHBOUR: 'it returns false'. Refute it at one input. -/
def fnExactInnerAutomorphismWrong : ChangeSpec := { name := "fnExactInnerAutomorphism", fn := fun _ => fun
  | [d1, d2] => { results := [.lit (.bool false)], args := [d1, d2] }
  | _ => none }
def FnExactInnerAutomorphismWrongFalsely : Prop := fnExactInnerAutomorphismRow.holds Try.pinned (OpenSpec.ofChange fnExactInnerAutomorphismWrong)

/-- 'laws.FnExactGroupExponent': WHATEVER THE INPUT: true; the input reads as it did. -/
def fnExactGroupExponentSpec : ChangeSpec := { name := "fnExactGroupExponent", fn := fun _ => fun
  | [d] => { results := [.lit (.bool true)], args := [d] }
  | _ => none }
def fnExactGroupExponentRow : OpenClaim := { program := "ytanjeebdondpaaa", sum := "17bb109b721ffd626fdd99685bcc1708b0b47cb6800bd7e33ccd4c2641c16cbf", func := "loop.example/g01076/laws.FnExactGroupExponent", spec := "fnExactGroupExponent", recurses := true, apart := false }
def FnExactGroupExponentSaid : Prop := fnExactGroupExponentRow.holds Try.pinned (OpenSpec.ofChange fnExactGroupExponentSpec)

/-- ITS FALSE NEIGHBOUR: 'it returns false'. Refute it at one input. -/
def fnExactGroupExponentWrong : ChangeSpec := { name := "fnExactGroupExponent", fn := fun _ => fun
  | [d] => { results := [.lit (.bool false)], args := [d] }
  | _ => none }
def FnExactGroupExponentWrongFalsely : Prop := fnExactGroupExponentRow.holds Try.pinned (OpenSpec.ofChange fnExactGroupExponentWrong)

/-- 'laws.FnExactEvaluateWord': WHATEVER THE INPUT: true; the input reads as it did. -/
def fnExactEvaluateWordSpec : ChangeSpec := { name := "fnExactEvaluateWord", fn := fun _ => fun
  | [d1, d2, d3] => { results := [.lit (.bool true)], args := [d1, d2, d3] }
  | _ => none }
def fnExactEvaluateWordRow : OpenClaim := { program := "ytanjeebdondpaaa", sum := "17bb109b721ffd626fdd99685bcc1708b0b47cb6800bd7e33ccd4c2641c16cbf", func := "loop.example/g01076/laws.FnExactEvaluateWord", spec := "fnExactEvaluateWord", recurses := true, apart := false }
def FnExactEvaluateWordSaid : Prop := fnExactEvaluateWordRow.holds Try.pinned (OpenSpec.ofChange fnExactEvaluateWordSpec)

/-- ITS FALSE NEIGHBOUR: 'it returns false'. Refute it at one input. -/
def fnExactEvaluateWordWrong : ChangeSpec := { name := "fnExactEvaluateWord", fn := fun _ => fun
  | [d1, d2, d3] => { results := [.lit (.bool false)], args := [d1, d2, d3] }
  | _ => none }
def FnExactEvaluateWordWrongFalsely : Prop := fnExactEvaluateWordRow.holds Try.pinned (OpenSpec.ofChange fnExactEvaluateWordWrong)

/-- 'laws.FnExactConjugatingElement': WHATEVER THE INPUT: true; the input reads as it did. -/
def fnExactConjugatingElementSpec : ChangeSpec := { name := "fnExactConjugatingElement", fn := fun _ => fun
  | [d1, d2, d3] => { results := [.lit (.bool true)], args := [d1, d2, d3] }
  | _ => none }
def fnExactConjugatingElementRow : OpenClaim := { program := "ytanjeebdondpaaa", sum := "17bb109b721ffd626fdd99685bcc1708b0b47cb6800bd7e33ccd4c2641c16cbf", func := "loop.example/g01076/laws.FnExactConjugatingElement", spec := "fnExactConjugatingElement", recurses := true, apart := false }
def FnExactConjugatingElementSaid : Prop := fnExactConjugatingElementRow.holds Try.pinned (OpenSpec.ofChange fnExactConjugatingElementSpec)

/-- ITS FALSE NEIGHBOUR: 'it returns false'. Refute it at one input. -/
def fnExactConjugatingElementWrong : ChangeSpec := { name := "fnExactConjugatingElement", fn := fun _ => fun
  | [d1, d2, d3] => { results := [.lit (.bool false)], args := [d1, d2, d3] }
  | _ => none }
def FnExactConjugatingElementWrongFalsely : Prop := fnExactConjugatingElementRow.holds Try.pinned (OpenSpec.ofChange fnExactConjugatingElementWrong)

/-- 'laws.FnExactRegularRealisation': WHATEVER THE INPUT: true; the input reads as it did. -/
def fnExactRegularRealisationSpec : ChangeSpec := { name := "fnExactRegularRealisation", fn := fun _ => fun
  | [d] => { results := [.lit (.bool true)], args := [d] }
  | _ => none }
def fnExactRegularRealisationRow : OpenClaim := { program := "ytanjeebdondpaaa", sum := "17bb109b721ffd626fdd99685bcc1708b0b47cb6800bd7e33ccd4c2641c16cbf", func := "loop.example/g01076/laws.FnExactRegularRealisation", spec := "fnExactRegularRealisation", recurses := true, apart := false }
def FnExactRegularRealisationSaid : Prop := fnExactRegularRealisationRow.holds Try.pinned (OpenSpec.ofChange fnExactRegularRealisationSpec)

/-- ITS FALSE NEIGHBOUR: 'it returns false'. Refute it at one input. -/
def fnExactRegularRealisationWrong : ChangeSpec := { name := "fnExactRegularRealisation", fn := fun _ => fun
  | [d] => { results := [.lit (.bool false)], args := [d] }
  | _ => none }
def FnExactRegularRealisationWrongFalsely : Prop := fnExactRegularRealisationRow.holds Try.pinned (OpenSpec.ofChange fnExactRegularRealisationWrong)

/-- 'laws.FnExactHeadPresentation': WHATEVER THE INPUT: true; the input reads as it did. -/
def fnExactHeadPresentationSpec : ChangeSpec := { name := "fnExactHeadPresentation", fn := fun _ => fun
  | [d1, d2] => { results := [.lit (.bool true)], args := [d1, d2] }
  | _ => none }
def fnExactHeadPresentationRow : OpenClaim := { program := "ytanjeebdondpaaa", sum := "17bb109b721ffd626fdd99685bcc1708b0b47cb6800bd7e33ccd4c2641c16cbf", func := "loop.example/g01076/laws.FnExactHeadPresentation", spec := "fnExactHeadPresentation", recurses := true, apart := false }
def FnExactHeadPresentationSaid : Prop := fnExactHeadPresentationRow.holds Try.pinned (OpenSpec.ofChange fnExactHeadPresentationSpec)

/-- ITS FALSE NEIGHBOUR: 'it returns false'. Refute it at one input. -/
def fnExactHeadPresentationWrong : ChangeSpec := { name := "fnExactHeadPresentation", fn := fun _ => fun
  | [d1, d2] => { results := [.lit (.bool false)], args := [d1, d2] }
  | _ => none }
def FnExactHeadPresentationWrongFalsely : Prop := fnExactHeadPresentationRow.holds Try.pinned (OpenSpec.ofChange fnExactHeadPresentationWrong)

/-- 'laws.FnExactDirectProduct': WHATEVER THE INPUT: true; the input reads as it did. -/
def fnExactDirectProductSpec : ChangeSpec := { name := "fnExactDirectProduct", fn := fun _ => fun
  | [d1, d2] => { results := [.lit (.bool true)], args := [d1, d2] }
  | _ => none }
def fnExactDirectProductRow : OpenClaim := { program := "ytanjeebdondpaaa", sum := "17bb109b721ffd626fdd99685bcc1708b0b47cb6800bd7e33ccd4c2641c16cbf", func := "loop.example/g01076/laws.FnExactDirectProduct", spec := "fnExactDirectProduct", apart := false }
def FnExactDirectProductSaid : Prop := fnExactDirectProductRow.holds Try.pinned (OpenSpec.ofChange fnExactDirectProductSpec)

/-- ITS FALSE NEIGHBOUR: 'it returns false'. Refute it at one input. -/
def fnExactDirectProductWrong : ChangeSpec := { name := "fnExactDirectProduct", fn := fun _ => fun
  | [d1, d2] => { results := [.lit (.bool false)], args := [d1, d2] }
  | _ => none }
def FnExactDirectProductWrongFalsely : Prop := fnExactDirectProductRow.holds Try.pinned (OpenSpec.ofChange fnExactDirectProductWrong)

/- THE SECOND FORM. 'bulk': how many values and letters a reading holds, each counted each time it is reached (what is shared counts as often as it is met; a slice's spare places count too). A statement '..UptoSaid' is the law's where the arguments, and the package variables that the reading takes, are together of bulk at most 1048576: NARROWER than '..Said'. Prove '..Said' where nothing that the law and all that it calls make is longer than what came in: it says more and counts as full. Else prove '..UptoSaid'. A law counts once. -/
mutual
def uptoBulk {H : Type} : DataW H → Nat
  | .lit (.string bytes) => bytes.length + 1
  | .lit _ => 1
  | .nil => 1
  | .ptr d => uptoBulk d + 1
  | .slice elems spare => uptoBulkAll elems + uptoBulkAll spare + 1
  | .agg parts => uptoBulkAll parts + 1
  | .iface _ d => uptoBulk d + 1
  | .map entries => uptoBulkEntries entries + 1
  | .held _ => 1
def uptoBulkAll {H : Type} : List (DataW H) → Nat
  | [] => 0
  | d :: r => uptoBulk d + uptoBulkAll r
def uptoBulkEntries {H : Type} : List (Lit × DataW H) → Nat
  | [] => 0
  | x :: r => uptoBulkEntry x + uptoBulkEntries r
def uptoBulkEntry {H : Type} : Lit × DataW H → Nat
  | (.string bytes, d) => bytes.length + uptoBulk d + 1
  | (_, d) => uptoBulk d + 1
 end
def uptoSmall : (H : Type) → List (DataW H) → Bool := fun _ ds => decide (uptoBulkAll ds ≤ 1048576)
def OpenSpec.upto (s : _root_.Go.ChangeSpec) : _root_.Go.OpenSpec := { _root_.Go.OpenSpec.ofChange s with cond := some uptoSmall }

/-- 'laws.FnExactTailPresentation', WHERE WHAT IT READS IS OF BULK AT MOST 1048576: true; the input reads as it did. -/
def fnExactTailPresentationUptoRow : OpenClaim := { program := "ytanjeebdondpaaa", sum := "17bb109b721ffd626fdd99685bcc1708b0b47cb6800bd7e33ccd4c2641c16cbf", func := "loop.example/g01076/laws.FnExactTailPresentation", spec := "fnExactTailPresentation", apart := false, narrowed := true }
def FnExactTailPresentationUptoSaid : Prop := fnExactTailPresentationUptoRow.holds Try.pinned (OpenSpec.upto fnExactTailPresentationSpec)

/-- 'laws.FnExactElementOrder', WHERE WHAT IT READS IS OF BULK AT MOST 1048576: true; the input reads as it did. -/
def fnExactElementOrderUptoRow : OpenClaim := { program := "ytanjeebdondpaaa", sum := "17bb109b721ffd626fdd99685bcc1708b0b47cb6800bd7e33ccd4c2641c16cbf", func := "loop.example/g01076/laws.FnExactElementOrder", spec := "fnExactElementOrder", recurses := true, apart := false, narrowed := true }
def FnExactElementOrderUptoSaid : Prop := fnExactElementOrderUptoRow.holds Try.pinned (OpenSpec.upto fnExactElementOrderSpec)

/-- 'laws.FnExactConjugate', WHERE WHAT IT READS IS OF BULK AT MOST 1048576: true; the input reads as it did. -/
def fnExactConjugateUptoRow : OpenClaim := { program := "ytanjeebdondpaaa", sum := "17bb109b721ffd626fdd99685bcc1708b0b47cb6800bd7e33ccd4c2641c16cbf", func := "loop.example/g01076/laws.FnExactConjugate", spec := "fnExactConjugate", recurses := true, apart := false, narrowed := true }
def FnExactConjugateUptoSaid : Prop := fnExactConjugateUptoRow.holds Try.pinned (OpenSpec.upto fnExactConjugateSpec)

/-- 'laws.FnExactCommutator', WHERE WHAT IT READS IS OF BULK AT MOST 1048576: true; the input reads as it did. -/
def fnExactCommutatorUptoRow : OpenClaim := { program := "ytanjeebdondpaaa", sum := "17bb109b721ffd626fdd99685bcc1708b0b47cb6800bd7e33ccd4c2641c16cbf", func := "loop.example/g01076/laws.FnExactCommutator", spec := "fnExactCommutator", recurses := true, apart := false, narrowed := true }
def FnExactCommutatorUptoSaid : Prop := fnExactCommutatorUptoRow.holds Try.pinned (OpenSpec.upto fnExactCommutatorSpec)

/-- 'laws.FnExactElementAt', WHERE WHAT IT READS IS OF BULK AT MOST 1048576: true; the input reads as it did. -/
def fnExactElementAtUptoRow : OpenClaim := { program := "ytanjeebdondpaaa", sum := "17bb109b721ffd626fdd99685bcc1708b0b47cb6800bd7e33ccd4c2641c16cbf", func := "loop.example/g01076/laws.FnExactElementAt", spec := "fnExactElementAt", recurses := true, apart := false, narrowed := true }
def FnExactElementAtUptoSaid : Prop := fnExactElementAtUptoRow.holds Try.pinned (OpenSpec.upto fnExactElementAtSpec)

/-- 'laws.FnExactInnerAutomorphism', WHERE WHAT IT READS IS OF BULK AT MOST 1048576: true; the input reads as it did. -/
def fnExactInnerAutomorphismUptoRow : OpenClaim := { program := "ytanjeebdondpaaa", sum := "17bb109b721ffd626fdd99685bcc1708b0b47cb6800bd7e33ccd4c2641c16cbf", func := "loop.example/g01076/laws.FnExactInnerAutomorphism", spec := "fnExactInnerAutomorphism", recurses := true, apart := false, narrowed := true }
def FnExactInnerAutomorphismUptoSaid : Prop := fnExactInnerAutomorphismUptoRow.holds Try.pinned (OpenSpec.upto fnExactInnerAutomorphismSpec)

/-- 'laws.FnExactGroupExponent', WHERE WHAT IT READS IS OF BULK AT MOST 1048576: true; the input reads as it did. -/
def fnExactGroupExponentUptoRow : OpenClaim := { program := "ytanjeebdondpaaa", sum := "17bb109b721ffd626fdd99685bcc1708b0b47cb6800bd7e33ccd4c2641c16cbf", func := "loop.example/g01076/laws.FnExactGroupExponent", spec := "fnExactGroupExponent", recurses := true, apart := false, narrowed := true }
def FnExactGroupExponentUptoSaid : Prop := fnExactGroupExponentUptoRow.holds Try.pinned (OpenSpec.upto fnExactGroupExponentSpec)

/-- 'laws.FnExactEvaluateWord', WHERE WHAT IT READS IS OF BULK AT MOST 1048576: true; the input reads as it did. -/
def fnExactEvaluateWordUptoRow : OpenClaim := { program := "ytanjeebdondpaaa", sum := "17bb109b721ffd626fdd99685bcc1708b0b47cb6800bd7e33ccd4c2641c16cbf", func := "loop.example/g01076/laws.FnExactEvaluateWord", spec := "fnExactEvaluateWord", recurses := true, apart := false, narrowed := true }
def FnExactEvaluateWordUptoSaid : Prop := fnExactEvaluateWordUptoRow.holds Try.pinned (OpenSpec.upto fnExactEvaluateWordSpec)

/-- 'laws.FnExactConjugatingElement', WHERE WHAT IT READS IS OF BULK AT MOST 1048576: true; the input reads as it did. -/
def fnExactConjugatingElementUptoRow : OpenClaim := { program := "ytanjeebdondpaaa", sum := "17bb109b721ffd626fdd99685bcc1708b0b47cb6800bd7e33ccd4c2641c16cbf", func := "loop.example/g01076/laws.FnExactConjugatingElement", spec := "fnExactConjugatingElement", recurses := true, apart := false, narrowed := true }
def FnExactConjugatingElementUptoSaid : Prop := fnExactConjugatingElementUptoRow.holds Try.pinned (OpenSpec.upto fnExactConjugatingElementSpec)

/-- 'laws.FnExactRegularRealisation', WHERE WHAT IT READS IS OF BULK AT MOST 1048576: true; the input reads as it did. -/
def fnExactRegularRealisationUptoRow : OpenClaim := { program := "ytanjeebdondpaaa", sum := "17bb109b721ffd626fdd99685bcc1708b0b47cb6800bd7e33ccd4c2641c16cbf", func := "loop.example/g01076/laws.FnExactRegularRealisation", spec := "fnExactRegularRealisation", recurses := true, apart := false, narrowed := true }
def FnExactRegularRealisationUptoSaid : Prop := fnExactRegularRealisationUptoRow.holds Try.pinned (OpenSpec.upto fnExactRegularRealisationSpec)

/-- 'laws.FnExactHeadPresentation', WHERE WHAT IT READS IS OF BULK AT MOST 1048576: true; the input reads as it did. -/
def fnExactHeadPresentationUptoRow : OpenClaim := { program := "ytanjeebdondpaaa", sum := "17bb109b721ffd626fdd99685bcc1708b0b47cb6800bd7e33ccd4c2641c16cbf", func := "loop.example/g01076/laws.FnExactHeadPresentation", spec := "fnExactHeadPresentation", recurses := true, apart := false, narrowed := true }
def FnExactHeadPresentationUptoSaid : Prop := fnExactHeadPresentationUptoRow.holds Try.pinned (OpenSpec.upto fnExactHeadPresentationSpec)

/-- 'laws.FnExactDirectProduct', WHERE WHAT IT READS IS OF BULK AT MOST 1048576: true; the input reads as it did. -/
def fnExactDirectProductUptoRow : OpenClaim := { program := "ytanjeebdondpaaa", sum := "17bb109b721ffd626fdd99685bcc1708b0b47cb6800bd7e33ccd4c2641c16cbf", func := "loop.example/g01076/laws.FnExactDirectProduct", spec := "fnExactDirectProduct", apart := false, narrowed := true }
def FnExactDirectProductUptoSaid : Prop := fnExactDirectProductUptoRow.holds Try.pinned (OpenSpec.upto fnExactDirectProductSpec)

end Rows
end Go.Proofs.Ytanjeebdondpaaa
