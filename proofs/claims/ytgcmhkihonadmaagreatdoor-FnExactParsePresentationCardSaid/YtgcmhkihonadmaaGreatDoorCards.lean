/-
  DERIVED. GIVEN WITH THE SEED: THE CARDS: each row of YtgcmhkihonadmaaGreatDoorRows.lean that lists a variable, with what it lists TIED to the program's text (the seventh form; the later family's looks); each row that meets fmt, with fmt's text TOLD by the authors' own Lean function (tested against real Go, not proved from fmt's source: count such statements apart). THE CARD IS WHAT COUNTS. Prove the row's statement (the work); the ties are given (YtgcmhkihonadmaaGreatDoorTie.lean); close each card by the builder's one call (the guide's Derived/Test/ToyasCard.lean, 'card_holds'). Laid BY PROGRAM, IN A SANDBOX (cutbox-door.mjs). By AI agents, Wed Nov 11 2026. No macro, syntax, notation, axiom, sorry.
-/
import Derived.Test.YtgcmhkihonadmaaGreatDoorRows
import GoSem.ClaimSeven
namespace Go.Proofs.YtgcmhkihonadmaaGreatDoor
namespace Rows

/-- THE TIED CARD OF 'laws.FnExactParsePresentation'. -/
def fnExactParsePresentationCard : Claim7 := { stood := { row := fnExactParsePresentationRow, standIns := [], harness := (true, "783ea7ed9e53a933d34a2421bdafabeabec422438a07209e5719729c26e4be3e"), looks := true }, kinds := [], alts := [], laidByText := true, laidKinds := [.data, .data, .data, .data, .sentinel, .sentinel, .pinned], laidTests := true, laidLooks := .later }
def FnExactParsePresentationCardSaid : Prop := Claim7.holds Tryz.pinned (.plain (OpenSpec.ofChange fnExactParsePresentationSpec)) fnExactParsePresentationCard

/-- THE SECOND FORM's CARD OF 'laws.FnExactParsePresentation'. -/
def fnExactParsePresentationUptoCard : Claim7 := { stood := { row := fnExactParsePresentationUptoRow, standIns := [], harness := (true, "783ea7ed9e53a933d34a2421bdafabeabec422438a07209e5719729c26e4be3e"), looks := true }, kinds := [], alts := [], laidByText := true, laidKinds := [.data, .data, .data, .data, .sentinel, .sentinel, .pinned], laidTests := true, laidLooks := .later }
def FnExactParsePresentationUptoCardSaid : Prop := Claim7.holds Tryz.pinned (.plain (OpenSpec.upto fnExactParsePresentationSpec)) fnExactParsePresentationUptoCard
end Rows
end Go.Proofs.YtgcmhkihonadmaaGreatDoor
