/-
  DERIVED. GIVEN WITH THE SEED: THE CARDS: each row of YtdagfidnjenjhaaDoorRows.lean that lists a variable, with what it lists TIED to the program's text (the seventh form; the later family's looks); each row that meets fmt, with fmt's text TOLD by the authors' own Lean function (tested against real Go, not proved from fmt's source: count such statements apart). THE CARD IS WHAT COUNTS. Prove the row's statement (the work); the ties are given (YtdagfidnjenjhaaDoorTie.lean); close each card by the builder's one call (the guide's Derived/Test/ToyasCard.lean, 'card_holds'). Laid BY PROGRAM, IN A SANDBOX (cutbox-door.mjs). By AI agents, Wed Nov 11 2026. No macro, syntax, notation, axiom, sorry.
-/
import Derived.Test.YtdagfidnjenjhaaDoorRows
import GoSem.ClaimSeven
namespace Go.Proofs.YtdagfidnjenjhaaDoor
namespace Rows

/-- THE TIED CARD OF 'laws.FnExactPresentationText'. -/
def fnExactPresentationTextCard : Claim7 := { stood := { row := fnExactPresentationTextRow, standIns := [], harness := (true, "8fb0beb8fee0fc9d76ad572e31ee80df3f5332b5dc2cc8184d14299f5451d82d"), looks := false }, kinds := [], alts := [], laidByText := true, laidKinds := [.data, .data, .data], laidTests := true, laidLooks := .later }
def FnExactPresentationTextCardSaid : Prop := Claim7.holds Tryd.pinned (.plain (OpenSpec.ofChange fnExactPresentationTextSpec)) fnExactPresentationTextCard

/-- THE SECOND FORM's CARD OF 'laws.FnExactPresentationText'. -/
def fnExactPresentationTextUptoCard : Claim7 := { stood := { row := fnExactPresentationTextUptoRow, standIns := [], harness := (true, "8fb0beb8fee0fc9d76ad572e31ee80df3f5332b5dc2cc8184d14299f5451d82d"), looks := false }, kinds := [], alts := [], laidByText := true, laidKinds := [.data, .data, .data], laidTests := true, laidLooks := .later }
def FnExactPresentationTextUptoCardSaid : Prop := Claim7.holds Tryd.pinned (.plain (OpenSpec.upto fnExactPresentationTextSpec)) fnExactPresentationTextUptoCard
end Rows
end Go.Proofs.YtdagfidnjenjhaaDoor
