/-
  DERIVED. GIVEN WITH THE SEED: THE CARDS: each row of YtioeffnadipbaaaGreatDoorRows.lean that lists a variable, with what it lists TIED to the program's text (the seventh form; the later family's looks); each row that meets fmt, with fmt's text TOLD by the authors' own Lean function (tested against real Go, not proved from fmt's source: count such statements apart). THE CARD IS WHAT COUNTS. Prove the row's statement (the work); the ties are given (YtioeffnadipbaaaGreatDoorTie.lean); close each card by the builder's one call (the guide's Derived/Test/ToyasCard.lean, 'card_holds'). Laid BY PROGRAM, IN A SANDBOX (cutbox-door.mjs). By AI agents, Wed Nov 11 2026. No macro, syntax, notation, axiom, sorry.
-/
import Derived.Test.YtioeffnadipbaaaGreatDoorRows
import GoSem.ClaimSeven
namespace Go.Proofs.YtioeffnadipbaaaGreatDoor
namespace Rows

/-- THE TIED CARD OF 'soriteslaw11.QueryCols'. -/
def queryColsCard : Claim7 := { stood := { row := queryColsRow, standIns := [], harness := (true, "70b998159403ba8378fa9eb9dde34844a1cdfe0836a4d8c218ca1eb549aee9fc"), looks := true }, kinds := [], alts := [], laidByText := true, laidKinds := [.sentinel, .sentinel, .sentinel, .sentinel, .sentinel], laidTests := true, laidLooks := .later }
def QueryColsCardSaid : Prop := Claim7.holds Tryz.pinned (.plain (OpenSpec.ofChange queryColsSpec)) queryColsCard

/-- THE TIED CARD OF 'soriteslaw11.QueryParts'. -/
def queryPartsCard : Claim7 := { stood := { row := queryPartsRow, standIns := [], harness := (true, "70b998159403ba8378fa9eb9dde34844a1cdfe0836a4d8c218ca1eb549aee9fc"), looks := true }, kinds := [], alts := [], laidByText := true, laidKinds := [.sentinel, .sentinel, .sentinel, .sentinel, .sentinel], laidTests := true, laidLooks := .later }
def QueryPartsCardSaid : Prop := Claim7.holds Tryz.pinned (.plain (OpenSpec.ofChange queryPartsSpec)) queryPartsCard

/-- THE TIED CARD OF 'soriteslaw09.ModelMoves'. -/
def modelMovesCard : Claim7 := { stood := { row := modelMovesRow, standIns := [], harness := (true, "70b998159403ba8378fa9eb9dde34844a1cdfe0836a4d8c218ca1eb549aee9fc"), looks := true }, kinds := [], alts := [], laidByText := true, laidKinds := [.sentinel, .sentinel, .sentinel, .sentinel, .sentinel], laidTests := true, laidLooks := .later }
def ModelMovesCardSaid : Prop := Claim7.holds Tryz.pinned (.plain (OpenSpec.ofChange modelMovesSpec)) modelMovesCard

/-- THE TIED CARD OF 'soriteslaw09.ModelLimits'. -/
def modelLimitsCard : Claim7 := { stood := { row := modelLimitsRow, standIns := [], harness := (true, "70b998159403ba8378fa9eb9dde34844a1cdfe0836a4d8c218ca1eb549aee9fc"), looks := true }, kinds := [], alts := [], laidByText := true, laidKinds := [.sentinel, .sentinel, .sentinel, .sentinel, .sentinel], laidTests := true, laidLooks := .later }
def ModelLimitsCardSaid : Prop := Claim7.holds Tryz.pinned (.plain (OpenSpec.ofChange modelLimitsSpec)) modelLimitsCard

/-- THE TIED CARD OF 'soriteslaw09.ModelGrows'. -/
def modelGrowsCard : Claim7 := { stood := { row := modelGrowsRow, standIns := [], harness := (true, "70b998159403ba8378fa9eb9dde34844a1cdfe0836a4d8c218ca1eb549aee9fc"), looks := true }, kinds := [], alts := [], laidByText := true, laidKinds := [.sentinel, .sentinel, .sentinel, .sentinel, .sentinel], laidTests := true, laidLooks := .later }
def ModelGrowsCardSaid : Prop := Claim7.holds Tryz.pinned (.plain (OpenSpec.ofChange modelGrowsSpec)) modelGrowsCard

/-- THE TIED CARD OF 'soriteslaw09.ModelCloses'. -/
def modelClosesCard : Claim7 := { stood := { row := modelClosesRow, standIns := [], harness := (true, "70b998159403ba8378fa9eb9dde34844a1cdfe0836a4d8c218ca1eb549aee9fc"), looks := true }, kinds := [], alts := [], laidByText := true, laidKinds := [.sentinel, .sentinel, .sentinel, .sentinel, .sentinel], laidTests := true, laidLooks := .later }
def ModelClosesCardSaid : Prop := Claim7.holds Tryz.pinned (.plain (OpenSpec.ofChange modelClosesSpec)) modelClosesCard

/-- THE TIED CARD OF 'soriteslaw11.QueryGives'. -/
def queryGivesCard : Claim7 := { stood := { row := queryGivesRow, standIns := [], harness := (true, "70b998159403ba8378fa9eb9dde34844a1cdfe0836a4d8c218ca1eb549aee9fc"), looks := true }, kinds := [], alts := [], laidByText := true, laidKinds := [.sentinel, .sentinel, .sentinel, .sentinel, .sentinel], laidTests := true, laidLooks := .later }
def QueryGivesCardSaid : Prop := Claim7.holds Tryz.pinned (.plain (OpenSpec.ofChange queryGivesSpec)) queryGivesCard

/-- THE TIED CARD OF 'soriteslaw09.ModelFacts'. -/
def modelFactsCard : Claim7 := { stood := { row := modelFactsRow, standIns := [], harness := (true, "70b998159403ba8378fa9eb9dde34844a1cdfe0836a4d8c218ca1eb549aee9fc"), looks := true }, kinds := [], alts := [], laidByText := true, laidKinds := [.sentinel, .sentinel, .sentinel, .sentinel, .sentinel], laidTests := true, laidLooks := .later }
def ModelFactsCardSaid : Prop := Claim7.holds Tryz.pinned (.plain (OpenSpec.ofChange modelFactsSpec)) modelFactsCard

/-- THE SECOND FORM's CARD OF 'soriteslaw11.QueryCols'. -/
def queryColsUptoCard : Claim7 := { stood := { row := queryColsUptoRow, standIns := [], harness := (true, "70b998159403ba8378fa9eb9dde34844a1cdfe0836a4d8c218ca1eb549aee9fc"), looks := true }, kinds := [], alts := [], laidByText := true, laidKinds := [.sentinel, .sentinel, .sentinel, .sentinel, .sentinel], laidTests := true, laidLooks := .later }
def QueryColsUptoCardSaid : Prop := Claim7.holds Tryz.pinned (.plain (OpenSpec.upto queryColsSpec)) queryColsUptoCard

/-- THE SECOND FORM's CARD OF 'soriteslaw11.QueryParts'. -/
def queryPartsUptoCard : Claim7 := { stood := { row := queryPartsUptoRow, standIns := [], harness := (true, "70b998159403ba8378fa9eb9dde34844a1cdfe0836a4d8c218ca1eb549aee9fc"), looks := true }, kinds := [], alts := [], laidByText := true, laidKinds := [.sentinel, .sentinel, .sentinel, .sentinel, .sentinel], laidTests := true, laidLooks := .later }
def QueryPartsUptoCardSaid : Prop := Claim7.holds Tryz.pinned (.plain (OpenSpec.upto queryPartsSpec)) queryPartsUptoCard

/-- THE SECOND FORM's CARD OF 'soriteslaw09.ModelMoves'. -/
def modelMovesUptoCard : Claim7 := { stood := { row := modelMovesUptoRow, standIns := [], harness := (true, "70b998159403ba8378fa9eb9dde34844a1cdfe0836a4d8c218ca1eb549aee9fc"), looks := true }, kinds := [], alts := [], laidByText := true, laidKinds := [.sentinel, .sentinel, .sentinel, .sentinel, .sentinel], laidTests := true, laidLooks := .later }
def ModelMovesUptoCardSaid : Prop := Claim7.holds Tryz.pinned (.plain (OpenSpec.upto modelMovesSpec)) modelMovesUptoCard

/-- THE SECOND FORM's CARD OF 'soriteslaw09.ModelLimits'. -/
def modelLimitsUptoCard : Claim7 := { stood := { row := modelLimitsUptoRow, standIns := [], harness := (true, "70b998159403ba8378fa9eb9dde34844a1cdfe0836a4d8c218ca1eb549aee9fc"), looks := true }, kinds := [], alts := [], laidByText := true, laidKinds := [.sentinel, .sentinel, .sentinel, .sentinel, .sentinel], laidTests := true, laidLooks := .later }
def ModelLimitsUptoCardSaid : Prop := Claim7.holds Tryz.pinned (.plain (OpenSpec.upto modelLimitsSpec)) modelLimitsUptoCard

/-- THE SECOND FORM's CARD OF 'soriteslaw09.ModelGrows'. -/
def modelGrowsUptoCard : Claim7 := { stood := { row := modelGrowsUptoRow, standIns := [], harness := (true, "70b998159403ba8378fa9eb9dde34844a1cdfe0836a4d8c218ca1eb549aee9fc"), looks := true }, kinds := [], alts := [], laidByText := true, laidKinds := [.sentinel, .sentinel, .sentinel, .sentinel, .sentinel], laidTests := true, laidLooks := .later }
def ModelGrowsUptoCardSaid : Prop := Claim7.holds Tryz.pinned (.plain (OpenSpec.upto modelGrowsSpec)) modelGrowsUptoCard

/-- THE SECOND FORM's CARD OF 'soriteslaw09.ModelCloses'. -/
def modelClosesUptoCard : Claim7 := { stood := { row := modelClosesUptoRow, standIns := [], harness := (true, "70b998159403ba8378fa9eb9dde34844a1cdfe0836a4d8c218ca1eb549aee9fc"), looks := true }, kinds := [], alts := [], laidByText := true, laidKinds := [.sentinel, .sentinel, .sentinel, .sentinel, .sentinel], laidTests := true, laidLooks := .later }
def ModelClosesUptoCardSaid : Prop := Claim7.holds Tryz.pinned (.plain (OpenSpec.upto modelClosesSpec)) modelClosesUptoCard

/-- THE SECOND FORM's CARD OF 'soriteslaw11.QueryGives'. -/
def queryGivesUptoCard : Claim7 := { stood := { row := queryGivesUptoRow, standIns := [], harness := (true, "70b998159403ba8378fa9eb9dde34844a1cdfe0836a4d8c218ca1eb549aee9fc"), looks := true }, kinds := [], alts := [], laidByText := true, laidKinds := [.sentinel, .sentinel, .sentinel, .sentinel, .sentinel], laidTests := true, laidLooks := .later }
def QueryGivesUptoCardSaid : Prop := Claim7.holds Tryz.pinned (.plain (OpenSpec.upto queryGivesSpec)) queryGivesUptoCard

/-- THE SECOND FORM's CARD OF 'soriteslaw09.ModelFacts'. -/
def modelFactsUptoCard : Claim7 := { stood := { row := modelFactsUptoRow, standIns := [], harness := (true, "70b998159403ba8378fa9eb9dde34844a1cdfe0836a4d8c218ca1eb549aee9fc"), looks := true }, kinds := [], alts := [], laidByText := true, laidKinds := [.sentinel, .sentinel, .sentinel, .sentinel, .sentinel], laidTests := true, laidLooks := .later }
def ModelFactsUptoCardSaid : Prop := Claim7.holds Tryz.pinned (.plain (OpenSpec.upto modelFactsSpec)) modelFactsUptoCard
end Rows
end Go.Proofs.YtioeffnadipbaaaGreatDoor
