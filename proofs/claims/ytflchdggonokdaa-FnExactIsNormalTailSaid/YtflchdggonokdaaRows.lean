/-
  No cell of these rows narrows 'for every input' (looked for: loops, veiled, ifaces, maps, wideKeys, modest, calm, conditions, laid).
  DERIVED. THE GIVEN ROWS OF THIS SEAT. 12 by the template 'for every input the law returns true; each argument reads behind the call as it read before'; 0 by the template 'total and deterministic' (their statements: YtflchdggonokdaaTotals.lean).
  GIVEN WITH THE SEED: the statements are not yours to turn. If you find one false, say at which input.
  Laid BY PROGRAM, IN A SANDBOX (cutbox-rows.mjs): the forced cells as the released guide's own fill.sh prints them over the translation 350b9d7db1ea729e… (all of the seat's roots in one cut). By AI agents, Wed Nov 11 2026. No macro, syntax, notation, axiom, sorry.
-/
import Derived.Test.YtflchdggonokdaaChecked
import GoSem.Claim
import GoSem.ClaimJoined
import GoSem.ClaimMapViews
import Derived.JoinedTies
import Derived.KernelRfl
namespace Go.Proofs.Ytflchdggonokdaa
/- THE CELL 'sum', in the pinned program and in every row, IS THE sha256 OF THE DUMP (.gsa) THAT YtflchdggonokdaaProg.lean LOADS. Nothing in Lean hashes anything: it is a label: what it is worth is what the hold of that sum in a sandbox is worth. -/
noncomputable def Try.pinned : Pinned := { name := "ytflchdggonokdaa", sum := "350b9d7db1ea729e4180dc00521ba22ca397216108e94b29e70df20ba9e6fca8", checked := Try.checked }
namespace Rows
def none {H : Type} : Left H := { results := [], args := [] }

/-- 'laws.FnExactCollectStep': WHATEVER THE INPUT: true; the input reads as it did. -/
def fnExactCollectStepSpec : ChangeSpec := { name := "fnExactCollectStep", fn := fun _ => fun
  | [d1, d2] => { results := [.lit (.bool true)], args := [d1, d2] }
  | _ => none }
def fnExactCollectStepRow : OpenClaim := { program := "ytflchdggonokdaa", sum := "350b9d7db1ea729e4180dc00521ba22ca397216108e94b29e70df20ba9e6fca8", func := "loop.example/g01076/laws.FnExactCollectStep", spec := "fnExactCollectStep", apart := false }
def FnExactCollectStepSaid : Prop := fnExactCollectStepRow.holds Try.pinned (OpenSpec.ofChange fnExactCollectStepSpec)

/-- ITS FALSE NEIGHBOUR: 'it returns false'. Refute it at one input. -/
def fnExactCollectStepWrong : ChangeSpec := { name := "fnExactCollectStep", fn := fun _ => fun
  | [d1, d2] => { results := [.lit (.bool false)], args := [d1, d2] }
  | _ => none }
def FnExactCollectStepWrongFalsely : Prop := fnExactCollectStepRow.holds Try.pinned (OpenSpec.ofChange fnExactCollectStepWrong)

/-- 'laws.FnExactCollectProduct': WHATEVER THE INPUT: true; the input reads as it did. -/
def fnExactCollectProductSpec : ChangeSpec := { name := "fnExactCollectProduct", fn := fun _ => fun
  | [d1, d2, d3, d4] => { results := [.lit (.bool true)], args := [d1, d2, d3, d4] }
  | _ => none }
def fnExactCollectProductRow : OpenClaim := { program := "ytflchdggonokdaa", sum := "350b9d7db1ea729e4180dc00521ba22ca397216108e94b29e70df20ba9e6fca8", func := "loop.example/g01076/laws.FnExactCollectProduct", spec := "fnExactCollectProduct", apart := false }
def FnExactCollectProductSaid : Prop := fnExactCollectProductRow.holds Try.pinned (OpenSpec.ofChange fnExactCollectProductSpec)

/-- ITS FALSE NEIGHBOUR: 'it returns false'. Refute it at one input. -/
def fnExactCollectProductWrong : ChangeSpec := { name := "fnExactCollectProduct", fn := fun _ => fun
  | [d1, d2, d3, d4] => { results := [.lit (.bool false)], args := [d1, d2, d3, d4] }
  | _ => none }
def FnExactCollectProductWrongFalsely : Prop := fnExactCollectProductRow.holds Try.pinned (OpenSpec.ofChange fnExactCollectProductWrong)

/-- 'laws.FnExactCollectWord': WHATEVER THE INPUT: true; the input reads as it did. -/
def fnExactCollectWordSpec : ChangeSpec := { name := "fnExactCollectWord", fn := fun _ => fun
  | [d1, d2, d3] => { results := [.lit (.bool true)], args := [d1, d2, d3] }
  | _ => none }
def fnExactCollectWordRow : OpenClaim := { program := "ytflchdggonokdaa", sum := "350b9d7db1ea729e4180dc00521ba22ca397216108e94b29e70df20ba9e6fca8", func := "loop.example/g01076/laws.FnExactCollectWord", spec := "fnExactCollectWord", apart := false }
def FnExactCollectWordSaid : Prop := fnExactCollectWordRow.holds Try.pinned (OpenSpec.ofChange fnExactCollectWordSpec)

/-- ITS FALSE NEIGHBOUR: 'it returns false'. Refute it at one input. -/
def fnExactCollectWordWrong : ChangeSpec := { name := "fnExactCollectWord", fn := fun _ => fun
  | [d1, d2, d3] => { results := [.lit (.bool false)], args := [d1, d2, d3] }
  | _ => none }
def FnExactCollectWordWrongFalsely : Prop := fnExactCollectWordRow.holds Try.pinned (OpenSpec.ofChange fnExactCollectWordWrong)

/-- 'laws.FnExactIsConsistent': WHATEVER THE INPUT: true; the input reads as it did. -/
def fnExactIsConsistentSpec : ChangeSpec := { name := "fnExactIsConsistent", fn := fun _ => fun
  | [d] => { results := [.lit (.bool true)], args := [d] }
  | _ => none }
def fnExactIsConsistentRow : OpenClaim := { program := "ytflchdggonokdaa", sum := "350b9d7db1ea729e4180dc00521ba22ca397216108e94b29e70df20ba9e6fca8", func := "loop.example/g01076/laws.FnExactIsConsistent", spec := "fnExactIsConsistent", recurses := true, apart := false }
def FnExactIsConsistentSaid : Prop := fnExactIsConsistentRow.holds Try.pinned (OpenSpec.ofChange fnExactIsConsistentSpec)

/-- ITS FALSE NEIGHBOUR: 'it returns false'. Refute it at one input. -/
def fnExactIsConsistentWrong : ChangeSpec := { name := "fnExactIsConsistent", fn := fun _ => fun
  | [d] => { results := [.lit (.bool false)], args := [d] }
  | _ => none }
def FnExactIsConsistentWrongFalsely : Prop := fnExactIsConsistentRow.holds Try.pinned (OpenSpec.ofChange fnExactIsConsistentWrong)

/-- 'laws.FnExactIsElement': WHATEVER THE INPUT: true; the input reads as it did. -/
def fnExactIsElementSpec : ChangeSpec := { name := "fnExactIsElement", fn := fun _ => fun
  | [d1, d2] => { results := [.lit (.bool true)], args := [d1, d2] }
  | _ => none }
def fnExactIsElementRow : OpenClaim := { program := "ytflchdggonokdaa", sum := "350b9d7db1ea729e4180dc00521ba22ca397216108e94b29e70df20ba9e6fca8", func := "loop.example/g01076/laws.FnExactIsElement", spec := "fnExactIsElement", recurses := true, apart := false }
def FnExactIsElementSaid : Prop := fnExactIsElementRow.holds Try.pinned (OpenSpec.ofChange fnExactIsElementSpec)

/-- ITS FALSE NEIGHBOUR: 'it returns false'. Refute it at one input. -/
def fnExactIsElementWrong : ChangeSpec := { name := "fnExactIsElement", fn := fun _ => fun
  | [d1, d2] => { results := [.lit (.bool false)], args := [d1, d2] }
  | _ => none }
def FnExactIsElementWrongFalsely : Prop := fnExactIsElementRow.holds Try.pinned (OpenSpec.ofChange fnExactIsElementWrong)

/-- 'laws.FnExactConsistentFrom': WHATEVER THE INPUT: true; the input reads as it did. -/
def fnExactConsistentFromSpec : ChangeSpec := { name := "fnExactConsistentFrom", fn := fun _ => fun
  | [d] => { results := [.lit (.bool true)], args := [d] }
  | _ => none }
def fnExactConsistentFromRow : OpenClaim := { program := "ytflchdggonokdaa", sum := "350b9d7db1ea729e4180dc00521ba22ca397216108e94b29e70df20ba9e6fca8", func := "loop.example/g01076/laws.FnExactConsistentFrom", spec := "fnExactConsistentFrom", recurses := true, apart := false }
def FnExactConsistentFromSaid : Prop := fnExactConsistentFromRow.holds Try.pinned (OpenSpec.ofChange fnExactConsistentFromSpec)

/-- ITS FALSE NEIGHBOUR: 'it returns false'. Refute it at one input. -/
def fnExactConsistentFromWrong : ChangeSpec := { name := "fnExactConsistentFrom", fn := fun _ => fun
  | [d] => { results := [.lit (.bool false)], args := [d] }
  | _ => none }
def FnExactConsistentFromWrongFalsely : Prop := fnExactConsistentFromRow.holds Try.pinned (OpenSpec.ofChange fnExactConsistentFromWrong)

/-- 'laws.FnExactConsistencyFault': WHATEVER THE INPUT: true; the input reads as it did. -/
def fnExactConsistencyFaultSpec : ChangeSpec := { name := "fnExactConsistencyFault", fn := fun _ => fun
  | [d] => { results := [.lit (.bool true)], args := [d] }
  | _ => none }
def fnExactConsistencyFaultRow : OpenClaim := { program := "ytflchdggonokdaa", sum := "350b9d7db1ea729e4180dc00521ba22ca397216108e94b29e70df20ba9e6fca8", func := "loop.example/g01076/laws.FnExactConsistencyFault", spec := "fnExactConsistencyFault", recurses := true, apart := false }
def FnExactConsistencyFaultSaid : Prop := fnExactConsistencyFaultRow.holds Try.pinned (OpenSpec.ofChange fnExactConsistencyFaultSpec)

/-- ITS FALSE NEIGHBOUR: 'it returns false'. Refute it at one input. -/
def fnExactConsistencyFaultWrong : ChangeSpec := { name := "fnExactConsistencyFault", fn := fun _ => fun
  | [d] => { results := [.lit (.bool false)], args := [d] }
  | _ => none }
def FnExactConsistencyFaultWrongFalsely : Prop := fnExactConsistencyFaultRow.holds Try.pinned (OpenSpec.ofChange fnExactConsistencyFaultWrong)

/-- 'laws.FnExactElementNumber': WHATEVER THE INPUT: true; the input reads as it did. -/
def fnExactElementNumberSpec : ChangeSpec := { name := "fnExactElementNumber", fn := fun _ => fun
  | [d1, d2] => { results := [.lit (.bool true)], args := [d1, d2] }
  | _ => none }
def fnExactElementNumberRow : OpenClaim := { program := "ytflchdggonokdaa", sum := "350b9d7db1ea729e4180dc00521ba22ca397216108e94b29e70df20ba9e6fca8", func := "loop.example/g01076/laws.FnExactElementNumber", spec := "fnExactElementNumber", recurses := true, apart := false }
def FnExactElementNumberSaid : Prop := fnExactElementNumberRow.holds Try.pinned (OpenSpec.ofChange fnExactElementNumberSpec)

/-- ITS FALSE NEIGHBOUR: 'it returns false'. Refute it at one input. -/
def fnExactElementNumberWrong : ChangeSpec := { name := "fnExactElementNumber", fn := fun _ => fun
  | [d1, d2] => { results := [.lit (.bool false)], args := [d1, d2] }
  | _ => none }
def FnExactElementNumberWrongFalsely : Prop := fnExactElementNumberRow.holds Try.pinned (OpenSpec.ofChange fnExactElementNumberWrong)

/-- 'laws.FnExactIsNormalTail': WHATEVER THE INPUT: true; the input reads as it did. -/
def fnExactIsNormalTailSpec : ChangeSpec := { name := "fnExactIsNormalTail", fn := fun _ => fun
  | [d1, d2] => { results := [.lit (.bool true)], args := [d1, d2] }
  | _ => none }
def fnExactIsNormalTailRow : OpenClaim := { program := "ytflchdggonokdaa", sum := "350b9d7db1ea729e4180dc00521ba22ca397216108e94b29e70df20ba9e6fca8", func := "loop.example/g01076/laws.FnExactIsNormalTail", spec := "fnExactIsNormalTail", recurses := true, apart := false }
def FnExactIsNormalTailSaid : Prop := fnExactIsNormalTailRow.holds Try.pinned (OpenSpec.ofChange fnExactIsNormalTailSpec)

/-- ITS FALSE NEIGHBOUR: 'it returns false'. Refute it at one input. -/
def fnExactIsNormalTailWrong : ChangeSpec := { name := "fnExactIsNormalTail", fn := fun _ => fun
  | [d1, d2] => { results := [.lit (.bool false)], args := [d1, d2] }
  | _ => none }
def FnExactIsNormalTailWrongFalsely : Prop := fnExactIsNormalTailRow.holds Try.pinned (OpenSpec.ofChange fnExactIsNormalTailWrong)

/-- 'laws.FnExactMultiply': WHATEVER THE INPUT: true; the input reads as it did. -/
def fnExactMultiplySpec : ChangeSpec := { name := "fnExactMultiply", fn := fun _ => fun
  | [d1, d2, d3] => { results := [.lit (.bool true)], args := [d1, d2, d3] }
  | _ => none }
def fnExactMultiplyRow : OpenClaim := { program := "ytflchdggonokdaa", sum := "350b9d7db1ea729e4180dc00521ba22ca397216108e94b29e70df20ba9e6fca8", func := "loop.example/g01076/laws.FnExactMultiply", spec := "fnExactMultiply", recurses := true, apart := false }
def FnExactMultiplySaid : Prop := fnExactMultiplyRow.holds Try.pinned (OpenSpec.ofChange fnExactMultiplySpec)

/-- ITS FALSE NEIGHBOUR: 'it returns false'. Refute it at one input. -/
def fnExactMultiplyWrong : ChangeSpec := { name := "fnExactMultiply", fn := fun _ => fun
  | [d1, d2, d3] => { results := [.lit (.bool false)], args := [d1, d2, d3] }
  | _ => none }
def FnExactMultiplyWrongFalsely : Prop := fnExactMultiplyRow.holds Try.pinned (OpenSpec.ofChange fnExactMultiplyWrong)

/-- 'laws.FnExactInverse': WHATEVER THE INPUT: true; the input reads as it did. -/
def fnExactInverseSpec : ChangeSpec := { name := "fnExactInverse", fn := fun _ => fun
  | [d1, d2] => { results := [.lit (.bool true)], args := [d1, d2] }
  | _ => none }
def fnExactInverseRow : OpenClaim := { program := "ytflchdggonokdaa", sum := "350b9d7db1ea729e4180dc00521ba22ca397216108e94b29e70df20ba9e6fca8", func := "loop.example/g01076/laws.FnExactInverse", spec := "fnExactInverse", recurses := true, apart := false }
def FnExactInverseSaid : Prop := fnExactInverseRow.holds Try.pinned (OpenSpec.ofChange fnExactInverseSpec)

/-- ITS FALSE NEIGHBOUR: 'it returns false'. Refute it at one input. -/
def fnExactInverseWrong : ChangeSpec := { name := "fnExactInverse", fn := fun _ => fun
  | [d1, d2] => { results := [.lit (.bool false)], args := [d1, d2] }
  | _ => none }
def FnExactInverseWrongFalsely : Prop := fnExactInverseRow.holds Try.pinned (OpenSpec.ofChange fnExactInverseWrong)

/-- 'laws.FnExactPower': WHATEVER THE INPUT: true; the input reads as it did. -/
def fnExactPowerSpec : ChangeSpec := { name := "fnExactPower", fn := fun _ => fun
  | [d1, d2, d3] => { results := [.lit (.bool true)], args := [d1, d2, d3] }
  | _ => none }
def fnExactPowerRow : OpenClaim := { program := "ytflchdggonokdaa", sum := "350b9d7db1ea729e4180dc00521ba22ca397216108e94b29e70df20ba9e6fca8", func := "loop.example/g01076/laws.FnExactPower", spec := "fnExactPower", recurses := true, apart := false }
def FnExactPowerSaid : Prop := fnExactPowerRow.holds Try.pinned (OpenSpec.ofChange fnExactPowerSpec)

/-- ITS FALSE NEIGHBOUR: 'it returns false'. Refute it at one input. -/
def fnExactPowerWrong : ChangeSpec := { name := "fnExactPower", fn := fun _ => fun
  | [d1, d2, d3] => { results := [.lit (.bool false)], args := [d1, d2, d3] }
  | _ => none }
def FnExactPowerWrongFalsely : Prop := fnExactPowerRow.holds Try.pinned (OpenSpec.ofChange fnExactPowerWrong)

/- THE SECOND FORM. 'bulk': how many values and letters a reading holds, each counted each time it is reached (what is shared counts as often as it is met; a slice's spare places count too). A statement '..UptoSaid' is the law's where the arguments, and the package variables that the reading takes, are together of bulk at most 1048576: NARROWER than '..Said'. Prove '..Said' where nothing that the law and all that it calls make is longer than what came in: it says more and counts as full. Else prove '..UptoSaid'. A law counts once. -/
mutual
def uptoBulk {H : Type} : DataW H → Nat
  | .lit (.string bytes) => bytes.length + 1
  | .lit _ => 1
  | .nil => 1
  | .ptr d => uptoBulk d + 1
  | .slice elems spare => uptoBulkAll elems + uptoBulkAll spare + 1
  | .agg parts => uptoBulkAll parts + 1
  | .iface _ d => uptoBulk d + 1
  | .map entries => uptoBulkEntries entries + 1
  | .held _ => 1
def uptoBulkAll {H : Type} : List (DataW H) → Nat
  | [] => 0
  | d :: r => uptoBulk d + uptoBulkAll r
def uptoBulkEntries {H : Type} : List (Lit × DataW H) → Nat
  | [] => 0
  | x :: r => uptoBulkEntry x + uptoBulkEntries r
def uptoBulkEntry {H : Type} : Lit × DataW H → Nat
  | (.string bytes, d) => bytes.length + uptoBulk d + 1
  | (_, d) => uptoBulk d + 1
 end
def uptoSmall : (H : Type) → List (DataW H) → Bool := fun _ ds => decide (uptoBulkAll ds ≤ 1048576)
def OpenSpec.upto (s : _root_.Go.ChangeSpec) : _root_.Go.OpenSpec := { _root_.Go.OpenSpec.ofChange s with cond := some uptoSmall }

/-- 'laws.FnExactCollectStep', WHERE WHAT IT READS IS OF BULK AT MOST 1048576: true; the input reads as it did. -/
def fnExactCollectStepUptoRow : OpenClaim := { program := "ytflchdggonokdaa", sum := "350b9d7db1ea729e4180dc00521ba22ca397216108e94b29e70df20ba9e6fca8", func := "loop.example/g01076/laws.FnExactCollectStep", spec := "fnExactCollectStep", apart := false, narrowed := true }
def FnExactCollectStepUptoSaid : Prop := fnExactCollectStepUptoRow.holds Try.pinned (OpenSpec.upto fnExactCollectStepSpec)

/-- 'laws.FnExactCollectProduct', WHERE WHAT IT READS IS OF BULK AT MOST 1048576: true; the input reads as it did. -/
def fnExactCollectProductUptoRow : OpenClaim := { program := "ytflchdggonokdaa", sum := "350b9d7db1ea729e4180dc00521ba22ca397216108e94b29e70df20ba9e6fca8", func := "loop.example/g01076/laws.FnExactCollectProduct", spec := "fnExactCollectProduct", apart := false, narrowed := true }
def FnExactCollectProductUptoSaid : Prop := fnExactCollectProductUptoRow.holds Try.pinned (OpenSpec.upto fnExactCollectProductSpec)

/-- 'laws.FnExactCollectWord', WHERE WHAT IT READS IS OF BULK AT MOST 1048576: true; the input reads as it did. -/
def fnExactCollectWordUptoRow : OpenClaim := { program := "ytflchdggonokdaa", sum := "350b9d7db1ea729e4180dc00521ba22ca397216108e94b29e70df20ba9e6fca8", func := "loop.example/g01076/laws.FnExactCollectWord", spec := "fnExactCollectWord", apart := false, narrowed := true }
def FnExactCollectWordUptoSaid : Prop := fnExactCollectWordUptoRow.holds Try.pinned (OpenSpec.upto fnExactCollectWordSpec)

/-- 'laws.FnExactIsConsistent', WHERE WHAT IT READS IS OF BULK AT MOST 1048576: true; the input reads as it did. -/
def fnExactIsConsistentUptoRow : OpenClaim := { program := "ytflchdggonokdaa", sum := "350b9d7db1ea729e4180dc00521ba22ca397216108e94b29e70df20ba9e6fca8", func := "loop.example/g01076/laws.FnExactIsConsistent", spec := "fnExactIsConsistent", recurses := true, apart := false, narrowed := true }
def FnExactIsConsistentUptoSaid : Prop := fnExactIsConsistentUptoRow.holds Try.pinned (OpenSpec.upto fnExactIsConsistentSpec)

/-- 'laws.FnExactIsElement', WHERE WHAT IT READS IS OF BULK AT MOST 1048576: true; the input reads as it did. -/
def fnExactIsElementUptoRow : OpenClaim := { program := "ytflchdggonokdaa", sum := "350b9d7db1ea729e4180dc00521ba22ca397216108e94b29e70df20ba9e6fca8", func := "loop.example/g01076/laws.FnExactIsElement", spec := "fnExactIsElement", recurses := true, apart := false, narrowed := true }
def FnExactIsElementUptoSaid : Prop := fnExactIsElementUptoRow.holds Try.pinned (OpenSpec.upto fnExactIsElementSpec)

/-- 'laws.FnExactConsistentFrom', WHERE WHAT IT READS IS OF BULK AT MOST 1048576: true; the input reads as it did. -/
def fnExactConsistentFromUptoRow : OpenClaim := { program := "ytflchdggonokdaa", sum := "350b9d7db1ea729e4180dc00521ba22ca397216108e94b29e70df20ba9e6fca8", func := "loop.example/g01076/laws.FnExactConsistentFrom", spec := "fnExactConsistentFrom", recurses := true, apart := false, narrowed := true }
def FnExactConsistentFromUptoSaid : Prop := fnExactConsistentFromUptoRow.holds Try.pinned (OpenSpec.upto fnExactConsistentFromSpec)

/-- 'laws.FnExactConsistencyFault', WHERE WHAT IT READS IS OF BULK AT MOST 1048576: true; the input reads as it did. -/
def fnExactConsistencyFaultUptoRow : OpenClaim := { program := "ytflchdggonokdaa", sum := "350b9d7db1ea729e4180dc00521ba22ca397216108e94b29e70df20ba9e6fca8", func := "loop.example/g01076/laws.FnExactConsistencyFault", spec := "fnExactConsistencyFault", recurses := true, apart := false, narrowed := true }
def FnExactConsistencyFaultUptoSaid : Prop := fnExactConsistencyFaultUptoRow.holds Try.pinned (OpenSpec.upto fnExactConsistencyFaultSpec)

/-- 'laws.FnExactElementNumber', WHERE WHAT IT READS IS OF BULK AT MOST 1048576: true; the input reads as it did. -/
def fnExactElementNumberUptoRow : OpenClaim := { program := "ytflchdggonokdaa", sum := "350b9d7db1ea729e4180dc00521ba22ca397216108e94b29e70df20ba9e6fca8", func := "loop.example/g01076/laws.FnExactElementNumber", spec := "fnExactElementNumber", recurses := true, apart := false, narrowed := true }
def FnExactElementNumberUptoSaid : Prop := fnExactElementNumberUptoRow.holds Try.pinned (OpenSpec.upto fnExactElementNumberSpec)

/-- 'laws.FnExactIsNormalTail', WHERE WHAT IT READS IS OF BULK AT MOST 1048576: true; the input reads as it did. -/
def fnExactIsNormalTailUptoRow : OpenClaim := { program := "ytflchdggonokdaa", sum := "350b9d7db1ea729e4180dc00521ba22ca397216108e94b29e70df20ba9e6fca8", func := "loop.example/g01076/laws.FnExactIsNormalTail", spec := "fnExactIsNormalTail", recurses := true, apart := false, narrowed := true }
def FnExactIsNormalTailUptoSaid : Prop := fnExactIsNormalTailUptoRow.holds Try.pinned (OpenSpec.upto fnExactIsNormalTailSpec)

/-- 'laws.FnExactMultiply', WHERE WHAT IT READS IS OF BULK AT MOST 1048576: true; the input reads as it did. -/
def fnExactMultiplyUptoRow : OpenClaim := { program := "ytflchdggonokdaa", sum := "350b9d7db1ea729e4180dc00521ba22ca397216108e94b29e70df20ba9e6fca8", func := "loop.example/g01076/laws.FnExactMultiply", spec := "fnExactMultiply", recurses := true, apart := false, narrowed := true }
def FnExactMultiplyUptoSaid : Prop := fnExactMultiplyUptoRow.holds Try.pinned (OpenSpec.upto fnExactMultiplySpec)

/-- 'laws.FnExactInverse', WHERE WHAT IT READS IS OF BULK AT MOST 1048576: true; the input reads as it did. -/
def fnExactInverseUptoRow : OpenClaim := { program := "ytflchdggonokdaa", sum := "350b9d7db1ea729e4180dc00521ba22ca397216108e94b29e70df20ba9e6fca8", func := "loop.example/g01076/laws.FnExactInverse", spec := "fnExactInverse", recurses := true, apart := false, narrowed := true }
def FnExactInverseUptoSaid : Prop := fnExactInverseUptoRow.holds Try.pinned (OpenSpec.upto fnExactInverseSpec)

/-- 'laws.FnExactPower', WHERE WHAT IT READS IS OF BULK AT MOST 1048576: true; the input reads as it did. -/
def fnExactPowerUptoRow : OpenClaim := { program := "ytflchdggonokdaa", sum := "350b9d7db1ea729e4180dc00521ba22ca397216108e94b29e70df20ba9e6fca8", func := "loop.example/g01076/laws.FnExactPower", spec := "fnExactPower", recurses := true, apart := false, narrowed := true }
def FnExactPowerUptoSaid : Prop := fnExactPowerUptoRow.holds Try.pinned (OpenSpec.upto fnExactPowerSpec)

end Rows
end Go.Proofs.Ytflchdggonokdaa
