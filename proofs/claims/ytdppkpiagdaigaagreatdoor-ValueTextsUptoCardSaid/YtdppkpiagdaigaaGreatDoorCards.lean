/-
  DERIVED. GIVEN WITH THE SEED: THE CARDS: each row of YtdppkpiagdaigaaGreatDoorRows.lean that lists a variable, with what it lists TIED to the program's text (the seventh form; the later family's looks); each row that meets fmt, with fmt's text TOLD by the authors' own Lean function (tested against real Go, not proved from fmt's source: count such statements apart). THE CARD IS WHAT COUNTS. Prove the row's statement (the work); the ties are given (YtdppkpiagdaigaaGreatDoorTie.lean); close each card by the builder's one call (the guide's Derived/Test/ToyasCard.lean, 'card_holds'). Laid BY PROGRAM, IN A SANDBOX (cutbox-door.mjs). By AI agents, Wed Nov 11 2026. No macro, syntax, notation, axiom, sorry.
-/
import Derived.Test.YtdppkpiagdaigaaGreatDoorRows
import GoSem.ClaimSeven
namespace Go.Proofs.YtdppkpiagdaigaaGreatDoor
namespace Rows

/-- THE TIED CARD OF 'cspchecklaw9.ValueTotalOrder'. -/
def valueTotalOrderCard : Claim7 := { stood := { row := valueTotalOrderRow, standIns := [], harness := (true, "b3b43adb5d04f2858f10d6b746ae22995ac7dd36e256823d593a58e5c0256bde"), looks := false }, kinds := [], alts := [], laidByText := true, laidKinds := [.data, .data, .data], laidTests := true, laidLooks := .later }
def ValueTotalOrderCardSaid : Prop := Claim7.holds Tryz.pinned (.plain (OpenSpec.ofChange valueTotalOrderSpec)) valueTotalOrderCard

/-- THE TIED CARD OF 'cspchecklaw9.ValueTexts'. -/
def valueTextsCard : Claim7 := { stood := { row := valueTextsRow, standIns := [], harness := (true, "b3b43adb5d04f2858f10d6b746ae22995ac7dd36e256823d593a58e5c0256bde"), looks := false }, kinds := [], alts := [], laidByText := true, laidKinds := [.data, .data, .data], laidTests := true, laidLooks := .later }
def ValueTextsCardSaid : Prop := Claim7.holds Tryz.pinned (.plain (OpenSpec.ofChange valueTextsSpec)) valueTextsCard

/-- THE TIED CARD OF 'cspchecklaw9.ValueSetsUnique'. -/
def valueSetsUniqueCard : Claim7 := { stood := { row := valueSetsUniqueRow, standIns := [], harness := (true, "b3b43adb5d04f2858f10d6b746ae22995ac7dd36e256823d593a58e5c0256bde"), looks := false }, kinds := [], alts := [], laidByText := true, laidKinds := [.data, .data, .data], laidTests := true, laidLooks := .later }
def ValueSetsUniqueCardSaid : Prop := Claim7.holds Tryz.pinned (.plain (OpenSpec.ofChange valueSetsUniqueSpec)) valueSetsUniqueCard

/-- THE TIED CARD OF 'cspchecklaw9.ValueParts'. -/
def valuePartsCard : Claim7 := { stood := { row := valuePartsRow, standIns := [], harness := (true, "b3b43adb5d04f2858f10d6b746ae22995ac7dd36e256823d593a58e5c0256bde"), looks := false }, kinds := [], alts := [], laidByText := true, laidKinds := [.data, .data, .data], laidTests := true, laidLooks := .later }
def ValuePartsCardSaid : Prop := Claim7.holds Tryz.pinned (.plain (OpenSpec.ofChange valuePartsSpec)) valuePartsCard

/-- THE TIED CARD OF 'cspchecklaw9.ValueMakes'. -/
def valueMakesCard : Claim7 := { stood := { row := valueMakesRow, standIns := [], harness := (true, "b3b43adb5d04f2858f10d6b746ae22995ac7dd36e256823d593a58e5c0256bde"), looks := false }, kinds := [], alts := [], laidByText := true, laidKinds := [.data, .data, .data], laidTests := true, laidLooks := .later }
def ValueMakesCardSaid : Prop := Claim7.holds Tryz.pinned (.plain (OpenSpec.ofChange valueMakesSpec)) valueMakesCard

/-- THE SECOND FORM's CARD OF 'cspchecklaw9.ValueTotalOrder'. -/
def valueTotalOrderUptoCard : Claim7 := { stood := { row := valueTotalOrderUptoRow, standIns := [], harness := (true, "b3b43adb5d04f2858f10d6b746ae22995ac7dd36e256823d593a58e5c0256bde"), looks := false }, kinds := [], alts := [], laidByText := true, laidKinds := [.data, .data, .data], laidTests := true, laidLooks := .later }
def ValueTotalOrderUptoCardSaid : Prop := Claim7.holds Tryz.pinned (.plain (OpenSpec.upto valueTotalOrderSpec)) valueTotalOrderUptoCard

/-- THE SECOND FORM's CARD OF 'cspchecklaw9.ValueTexts'. -/
def valueTextsUptoCard : Claim7 := { stood := { row := valueTextsUptoRow, standIns := [], harness := (true, "b3b43adb5d04f2858f10d6b746ae22995ac7dd36e256823d593a58e5c0256bde"), looks := false }, kinds := [], alts := [], laidByText := true, laidKinds := [.data, .data, .data], laidTests := true, laidLooks := .later }
def ValueTextsUptoCardSaid : Prop := Claim7.holds Tryz.pinned (.plain (OpenSpec.upto valueTextsSpec)) valueTextsUptoCard

/-- THE SECOND FORM's CARD OF 'cspchecklaw9.ValueSetsUnique'. -/
def valueSetsUniqueUptoCard : Claim7 := { stood := { row := valueSetsUniqueUptoRow, standIns := [], harness := (true, "b3b43adb5d04f2858f10d6b746ae22995ac7dd36e256823d593a58e5c0256bde"), looks := false }, kinds := [], alts := [], laidByText := true, laidKinds := [.data, .data, .data], laidTests := true, laidLooks := .later }
def ValueSetsUniqueUptoCardSaid : Prop := Claim7.holds Tryz.pinned (.plain (OpenSpec.upto valueSetsUniqueSpec)) valueSetsUniqueUptoCard

/-- THE SECOND FORM's CARD OF 'cspchecklaw9.ValueParts'. -/
def valuePartsUptoCard : Claim7 := { stood := { row := valuePartsUptoRow, standIns := [], harness := (true, "b3b43adb5d04f2858f10d6b746ae22995ac7dd36e256823d593a58e5c0256bde"), looks := false }, kinds := [], alts := [], laidByText := true, laidKinds := [.data, .data, .data], laidTests := true, laidLooks := .later }
def ValuePartsUptoCardSaid : Prop := Claim7.holds Tryz.pinned (.plain (OpenSpec.upto valuePartsSpec)) valuePartsUptoCard

/-- THE SECOND FORM's CARD OF 'cspchecklaw9.ValueMakes'. -/
def valueMakesUptoCard : Claim7 := { stood := { row := valueMakesUptoRow, standIns := [], harness := (true, "b3b43adb5d04f2858f10d6b746ae22995ac7dd36e256823d593a58e5c0256bde"), looks := false }, kinds := [], alts := [], laidByText := true, laidKinds := [.data, .data, .data], laidTests := true, laidLooks := .later }
def ValueMakesUptoCardSaid : Prop := Claim7.holds Tryz.pinned (.plain (OpenSpec.upto valueMakesSpec)) valueMakesUptoCard
end Rows
end Go.Proofs.YtdppkpiagdaigaaGreatDoor
