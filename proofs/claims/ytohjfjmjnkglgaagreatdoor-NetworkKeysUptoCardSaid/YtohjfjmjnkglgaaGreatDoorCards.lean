/-
  DERIVED. GIVEN WITH THE SEED: THE CARDS: each row of YtohjfjmjnkglgaaGreatDoorRows.lean that lists a variable, with what it lists TIED to the program's text (the seventh form; the later family's looks); each row that meets fmt, with fmt's text TOLD by the authors' own Lean function (tested against real Go, not proved from fmt's source: count such statements apart). THE CARD IS WHAT COUNTS. Prove the row's statement (the work); the ties are given (YtohjfjmjnkglgaaGreatDoorTie.lean); close each card by the builder's one call (the guide's Derived/Test/ToyasCard.lean, 'card_holds'). Laid BY PROGRAM, IN A SANDBOX (cutbox-door.mjs). By AI agents, Wed Nov 11 2026. No macro, syntax, notation, axiom, sorry.
-/
import Derived.Test.YtohjfjmjnkglgaaGreatDoorRows
import GoSem.ClaimSeven
namespace Go.Proofs.YtohjfjmjnkglgaaGreatDoor
namespace Rows

/-- THE TIED CARD OF 'cspchecklaw22.NetworkKeys'. -/
def networkKeysCard : Claim7 := { stood := { row := networkKeysRow, standIns := [], harness := (true, "1976ce533b1a537e837e47b60060b17667e03b53f66a130c79816df1d0b62884"), looks := false }, kinds := [], alts := [], laidByText := true, laidKinds := [.data, .data, .data], laidTests := true, laidLooks := .later }
def NetworkKeysCardSaid : Prop := Claim7.holds Tryz.pinned (.plain (OpenSpec.ofChange networkKeysSpec)) networkKeysCard

/-- THE SECOND FORM's CARD OF 'cspchecklaw22.NetworkKeys'. -/
def networkKeysUptoCard : Claim7 := { stood := { row := networkKeysUptoRow, standIns := [], harness := (true, "1976ce533b1a537e837e47b60060b17667e03b53f66a130c79816df1d0b62884"), looks := false }, kinds := [], alts := [], laidByText := true, laidKinds := [.data, .data, .data], laidTests := true, laidLooks := .later }
def NetworkKeysUptoCardSaid : Prop := Claim7.holds Tryz.pinned (.plain (OpenSpec.upto networkKeysSpec)) networkKeysUptoCard
end Rows
end Go.Proofs.YtohjfjmjnkglgaaGreatDoor
