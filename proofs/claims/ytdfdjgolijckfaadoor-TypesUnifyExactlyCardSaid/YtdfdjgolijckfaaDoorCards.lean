/-
  DERIVED. GIVEN WITH THE SEED: THE CARDS: each row of YtdfdjgolijckfaaDoorRows.lean that lists a variable, with what it lists TIED to the program's text (the seventh form; the later family's looks); each row that meets fmt, with fmt's text TOLD by the authors' own Lean function (tested against real Go, not proved from fmt's source: count such statements apart). THE CARD IS WHAT COUNTS. Prove the row's statement (the work); the ties are given (YtdfdjgolijckfaaDoorTie.lean); close each card by the builder's one call (the guide's Derived/Test/ToyasCard.lean, 'card_holds'). Laid BY PROGRAM, IN A SANDBOX (cutbox-door.mjs). By AI agents, Wed Nov 11 2026. No macro, syntax, notation, axiom, sorry.
-/
import Derived.Test.YtdfdjgolijckfaaDoorRows
import GoSem.ClaimSeven
namespace Go.Proofs.YtdfdjgolijckfaaDoor
namespace Rows

/-- THE TIED CARD OF 'cspchecklaw7.TypesUnifyExactly'. -/
def typesUnifyExactlyCard : Claim7 := { stood := { row := typesUnifyExactlyRow, standIns := [], harness := (true, "266afa1125f812094a6acd2f15ec6e17dfc0fe2faf4d68696ad7b3b06d247b04"), looks := false }, kinds := [], alts := [], laidByText := true, laidKinds := [.data, .data, .data], laidTests := true, laidLooks := .later }
def TypesUnifyExactlyCardSaid : Prop := Claim7.holds Tryd.pinned (.plain (OpenSpec.ofChange typesUnifyExactlySpec)) typesUnifyExactlyCard

/-- THE TIED CARD OF 'cspchecklaw7.TypesUnifyMakesEqual'. -/
def typesUnifyMakesEqualCard : Claim7 := { stood := { row := typesUnifyMakesEqualRow, standIns := [], harness := (true, "266afa1125f812094a6acd2f15ec6e17dfc0fe2faf4d68696ad7b3b06d247b04"), looks := false }, kinds := [], alts := [], laidByText := true, laidKinds := [.data, .data, .data], laidTests := true, laidLooks := .later }
def TypesUnifyMakesEqualCardSaid : Prop := Claim7.holds Tryd.pinned (.plain (OpenSpec.ofChange typesUnifyMakesEqualSpec)) typesUnifyMakesEqualCard

/-- THE TIED CARD OF 'cspchecklaw7.TypesUnifyMostGeneral'. -/
def typesUnifyMostGeneralCard : Claim7 := { stood := { row := typesUnifyMostGeneralRow, standIns := [], harness := (true, "266afa1125f812094a6acd2f15ec6e17dfc0fe2faf4d68696ad7b3b06d247b04"), looks := false }, kinds := [], alts := [], laidByText := true, laidKinds := [.data, .data, .data], laidTests := true, laidLooks := .later }
def TypesUnifyMostGeneralCardSaid : Prop := Claim7.holds Tryd.pinned (.plain (OpenSpec.ofChange typesUnifyMostGeneralSpec)) typesUnifyMostGeneralCard

/-- THE TIED CARD OF 'cspchecklaw7.TypesUnifySymmetric'. -/
def typesUnifySymmetricCard : Claim7 := { stood := { row := typesUnifySymmetricRow, standIns := [], harness := (true, "266afa1125f812094a6acd2f15ec6e17dfc0fe2faf4d68696ad7b3b06d247b04"), looks := false }, kinds := [], alts := [], laidByText := true, laidKinds := [.data, .data, .data], laidTests := true, laidLooks := .later }
def TypesUnifySymmetricCardSaid : Prop := Claim7.holds Tryd.pinned (.plain (OpenSpec.ofChange typesUnifySymmetricSpec)) typesUnifySymmetricCard

/-- THE TIED CARD OF 'cspchecklaw7.TypesApply'. -/
def typesApplyCard : Claim7 := { stood := { row := typesApplyRow, standIns := [], harness := (true, "266afa1125f812094a6acd2f15ec6e17dfc0fe2faf4d68696ad7b3b06d247b04"), looks := false }, kinds := [], alts := [], laidByText := true, laidKinds := [.data, .data, .data], laidTests := true, laidLooks := .later }
def TypesApplyCardSaid : Prop := Claim7.holds Tryd.pinned (.plain (OpenSpec.ofChange typesApplySpec)) typesApplyCard

/-- THE TIED CARD OF 'cspchecklaw7.TypesNeeds'. -/
def typesNeedsCard : Claim7 := { stood := { row := typesNeedsRow, standIns := [], harness := (true, "266afa1125f812094a6acd2f15ec6e17dfc0fe2faf4d68696ad7b3b06d247b04"), looks := false }, kinds := [], alts := [], laidByText := true, laidKinds := [.data, .data, .data], laidTests := true, laidLooks := .later }
def TypesNeedsCardSaid : Prop := Claim7.holds Tryd.pinned (.plain (OpenSpec.ofChange typesNeedsSpec)) typesNeedsCard

/-- THE TIED CARD OF 'cspchecklaw7.TypesDescribe'. -/
def typesDescribeCard : Claim7 := { stood := { row := typesDescribeRow, standIns := [], harness := (true, "266afa1125f812094a6acd2f15ec6e17dfc0fe2faf4d68696ad7b3b06d247b04"), looks := false }, kinds := [], alts := [], laidByText := true, laidKinds := [.data, .data, .data], laidTests := true, laidLooks := .later }
def TypesDescribeCardSaid : Prop := Claim7.holds Tryd.pinned (.plain (OpenSpec.ofChange typesDescribeSpec)) typesDescribeCard

/-- THE TIED CARD OF 'cspchecklaw7.TypesMatch'. -/
def typesMatchCard : Claim7 := { stood := { row := typesMatchRow, standIns := [], harness := (true, "266afa1125f812094a6acd2f15ec6e17dfc0fe2faf4d68696ad7b3b06d247b04"), looks := false }, kinds := [], alts := [], laidByText := true, laidKinds := [.data, .data, .data], laidTests := true, laidLooks := .later }
def TypesMatchCardSaid : Prop := Claim7.holds Tryd.pinned (.plain (OpenSpec.ofChange typesMatchSpec)) typesMatchCard

/-- THE TIED CARD OF 'cspchecklaw7.TypesCanon'. -/
def typesCanonCard : Claim7 := { stood := { row := typesCanonRow, standIns := [], harness := (true, "266afa1125f812094a6acd2f15ec6e17dfc0fe2faf4d68696ad7b3b06d247b04"), looks := false }, kinds := [], alts := [], laidByText := true, laidKinds := [.data, .data, .data], laidTests := true, laidLooks := .later }
def TypesCanonCardSaid : Prop := Claim7.holds Tryd.pinned (.plain (OpenSpec.ofChange typesCanonSpec)) typesCanonCard

/-- THE SECOND FORM's CARD OF 'cspchecklaw7.TypesUnifyExactly'. -/
def typesUnifyExactlyUptoCard : Claim7 := { stood := { row := typesUnifyExactlyUptoRow, standIns := [], harness := (true, "266afa1125f812094a6acd2f15ec6e17dfc0fe2faf4d68696ad7b3b06d247b04"), looks := false }, kinds := [], alts := [], laidByText := true, laidKinds := [.data, .data, .data], laidTests := true, laidLooks := .later }
def TypesUnifyExactlyUptoCardSaid : Prop := Claim7.holds Tryd.pinned (.plain (OpenSpec.upto typesUnifyExactlySpec)) typesUnifyExactlyUptoCard

/-- THE SECOND FORM's CARD OF 'cspchecklaw7.TypesUnifyMakesEqual'. -/
def typesUnifyMakesEqualUptoCard : Claim7 := { stood := { row := typesUnifyMakesEqualUptoRow, standIns := [], harness := (true, "266afa1125f812094a6acd2f15ec6e17dfc0fe2faf4d68696ad7b3b06d247b04"), looks := false }, kinds := [], alts := [], laidByText := true, laidKinds := [.data, .data, .data], laidTests := true, laidLooks := .later }
def TypesUnifyMakesEqualUptoCardSaid : Prop := Claim7.holds Tryd.pinned (.plain (OpenSpec.upto typesUnifyMakesEqualSpec)) typesUnifyMakesEqualUptoCard

/-- THE SECOND FORM's CARD OF 'cspchecklaw7.TypesUnifyMostGeneral'. -/
def typesUnifyMostGeneralUptoCard : Claim7 := { stood := { row := typesUnifyMostGeneralUptoRow, standIns := [], harness := (true, "266afa1125f812094a6acd2f15ec6e17dfc0fe2faf4d68696ad7b3b06d247b04"), looks := false }, kinds := [], alts := [], laidByText := true, laidKinds := [.data, .data, .data], laidTests := true, laidLooks := .later }
def TypesUnifyMostGeneralUptoCardSaid : Prop := Claim7.holds Tryd.pinned (.plain (OpenSpec.upto typesUnifyMostGeneralSpec)) typesUnifyMostGeneralUptoCard

/-- THE SECOND FORM's CARD OF 'cspchecklaw7.TypesUnifySymmetric'. -/
def typesUnifySymmetricUptoCard : Claim7 := { stood := { row := typesUnifySymmetricUptoRow, standIns := [], harness := (true, "266afa1125f812094a6acd2f15ec6e17dfc0fe2faf4d68696ad7b3b06d247b04"), looks := false }, kinds := [], alts := [], laidByText := true, laidKinds := [.data, .data, .data], laidTests := true, laidLooks := .later }
def TypesUnifySymmetricUptoCardSaid : Prop := Claim7.holds Tryd.pinned (.plain (OpenSpec.upto typesUnifySymmetricSpec)) typesUnifySymmetricUptoCard

/-- THE SECOND FORM's CARD OF 'cspchecklaw7.TypesApply'. -/
def typesApplyUptoCard : Claim7 := { stood := { row := typesApplyUptoRow, standIns := [], harness := (true, "266afa1125f812094a6acd2f15ec6e17dfc0fe2faf4d68696ad7b3b06d247b04"), looks := false }, kinds := [], alts := [], laidByText := true, laidKinds := [.data, .data, .data], laidTests := true, laidLooks := .later }
def TypesApplyUptoCardSaid : Prop := Claim7.holds Tryd.pinned (.plain (OpenSpec.upto typesApplySpec)) typesApplyUptoCard

/-- THE SECOND FORM's CARD OF 'cspchecklaw7.TypesNeeds'. -/
def typesNeedsUptoCard : Claim7 := { stood := { row := typesNeedsUptoRow, standIns := [], harness := (true, "266afa1125f812094a6acd2f15ec6e17dfc0fe2faf4d68696ad7b3b06d247b04"), looks := false }, kinds := [], alts := [], laidByText := true, laidKinds := [.data, .data, .data], laidTests := true, laidLooks := .later }
def TypesNeedsUptoCardSaid : Prop := Claim7.holds Tryd.pinned (.plain (OpenSpec.upto typesNeedsSpec)) typesNeedsUptoCard

/-- THE SECOND FORM's CARD OF 'cspchecklaw7.TypesDescribe'. -/
def typesDescribeUptoCard : Claim7 := { stood := { row := typesDescribeUptoRow, standIns := [], harness := (true, "266afa1125f812094a6acd2f15ec6e17dfc0fe2faf4d68696ad7b3b06d247b04"), looks := false }, kinds := [], alts := [], laidByText := true, laidKinds := [.data, .data, .data], laidTests := true, laidLooks := .later }
def TypesDescribeUptoCardSaid : Prop := Claim7.holds Tryd.pinned (.plain (OpenSpec.upto typesDescribeSpec)) typesDescribeUptoCard

/-- THE SECOND FORM's CARD OF 'cspchecklaw7.TypesMatch'. -/
def typesMatchUptoCard : Claim7 := { stood := { row := typesMatchUptoRow, standIns := [], harness := (true, "266afa1125f812094a6acd2f15ec6e17dfc0fe2faf4d68696ad7b3b06d247b04"), looks := false }, kinds := [], alts := [], laidByText := true, laidKinds := [.data, .data, .data], laidTests := true, laidLooks := .later }
def TypesMatchUptoCardSaid : Prop := Claim7.holds Tryd.pinned (.plain (OpenSpec.upto typesMatchSpec)) typesMatchUptoCard

/-- THE SECOND FORM's CARD OF 'cspchecklaw7.TypesCanon'. -/
def typesCanonUptoCard : Claim7 := { stood := { row := typesCanonUptoRow, standIns := [], harness := (true, "266afa1125f812094a6acd2f15ec6e17dfc0fe2faf4d68696ad7b3b06d247b04"), looks := false }, kinds := [], alts := [], laidByText := true, laidKinds := [.data, .data, .data], laidTests := true, laidLooks := .later }
def TypesCanonUptoCardSaid : Prop := Claim7.holds Tryd.pinned (.plain (OpenSpec.upto typesCanonSpec)) typesCanonUptoCard
end Rows
end Go.Proofs.YtdfdjgolijckfaaDoor
