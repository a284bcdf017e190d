/-
  DERIVED. GIVEN WITH THE SEED: THE CARDS: each row of YtnedihpppbjmdaaGreatDoorRows.lean that lists a variable, with what it lists TIED to the program's text (the seventh form; the later family's looks); each row that meets fmt, with fmt's text TOLD by the authors' own Lean function (tested against real Go, not proved from fmt's source: count such statements apart). THE CARD IS WHAT COUNTS. Prove the row's statement (the work); the ties are given (YtnedihpppbjmdaaGreatDoorTie.lean); close each card by the builder's one call (the guide's Derived/Test/ToyasCard.lean, 'card_holds'). Laid BY PROGRAM, IN A SANDBOX (cutbox-door.mjs). By AI agents, Wed Nov 11 2026. No macro, syntax, notation, axiom, sorry.
-/
import Derived.Test.YtnedihpppbjmdaaGreatDoorRows
import GoSem.ClaimSeven
namespace Go.Proofs.YtnedihpppbjmdaaGreatDoor
namespace Rows

/-- THE TIED CARD OF 'laws.FnPrimary'. -/
def fnPrimaryCard : Claim7 := { stood := { row := fnPrimaryRow, standIns := [], harness := (true, "10ee7bab745431368ef3d7653cde91a9e0607d6e32e1604727bcfcb9176bd1fd"), looks := true }, kinds := [], alts := [], laidByText := true, laidKinds := [.data, .data, .data, .data, .sentinel, .sentinel, .pinned], laidTests := true, laidLooks := .later }
def FnPrimaryCardSaid : Prop := Claim7.holds Tryz.pinned (.plain (OpenSpec.ofChange fnPrimarySpec)) fnPrimaryCard

/-- THE SECOND FORM's CARD OF 'laws.FnPrimary'. -/
def fnPrimaryUptoCard : Claim7 := { stood := { row := fnPrimaryUptoRow, standIns := [], harness := (true, "10ee7bab745431368ef3d7653cde91a9e0607d6e32e1604727bcfcb9176bd1fd"), looks := true }, kinds := [], alts := [], laidByText := true, laidKinds := [.data, .data, .data, .data, .sentinel, .sentinel, .pinned], laidTests := true, laidLooks := .later }
def FnPrimaryUptoCardSaid : Prop := Claim7.holds Tryz.pinned (.plain (OpenSpec.upto fnPrimarySpec)) fnPrimaryUptoCard
end Rows
end Go.Proofs.YtnedihpppbjmdaaGreatDoor
