/-
  DERIVED. GIVEN WITH THE SEED: THE CARDS: each row of YtdpmikfheebicaaGreatDoorRows.lean that lists a variable, with what it lists TIED to the program's text (the seventh form; the later family's looks); each row that meets fmt, with fmt's text TOLD by the authors' own Lean function (tested against real Go, not proved from fmt's source: count such statements apart). THE CARD IS WHAT COUNTS. Prove the row's statement (the work); the ties are given (YtdpmikfheebicaaGreatDoorTie.lean); close each card by the builder's one call (the guide's Derived/Test/ToyasCard.lean, 'card_holds'). Laid BY PROGRAM, IN A SANDBOX (cutbox-door.mjs). By AI agents, Wed Nov 11 2026. No macro, syntax, notation, axiom, sorry.
-/
import Derived.Test.YtdpmikfheebicaaGreatDoorRows
import GoSem.ClaimSeven
namespace Go.Proofs.YtdpmikfheebicaaGreatDoor
namespace Rows

/-- THE TIED CARD OF 'soriteslaw06.DsafeChecks'. -/
def dsafeChecksCard : Claim7 := { stood := { row := dsafeChecksRow, standIns := [], harness := (true, "c7597f691d6eeb578c5ebf1d2c93fadf273ec73c9a08dec48f5a64364dbd39b2"), looks := true }, kinds := [], alts := [], laidByText := true, laidKinds := [.sentinel, .sentinel, .sentinel, .sentinel, .sentinel], laidTests := true, laidLooks := .later }
def DsafeChecksCardSaid : Prop := Claim7.holds Tryz.pinned (.plain (OpenSpec.ofChange dsafeChecksSpec)) dsafeChecksCard

/-- THE TIED CARD OF 'soriteslaw07.DgraphGroups'. -/
def dgraphGroupsCard : Claim7 := { stood := { row := dgraphGroupsRow, standIns := [], harness := (true, "c7597f691d6eeb578c5ebf1d2c93fadf273ec73c9a08dec48f5a64364dbd39b2"), looks := true }, kinds := [], alts := [], laidByText := true, laidKinds := [.sentinel, .sentinel, .sentinel, .sentinel, .sentinel], laidTests := true, laidLooks := .later }
def DgraphGroupsCardSaid : Prop := Claim7.holds Tryz.pinned (.plain (OpenSpec.ofChange dgraphGroupsSpec)) dgraphGroupsCard

/-- THE TIED CARD OF 'soriteslaw07.DgraphMoves'. -/
def dgraphMovesCard : Claim7 := { stood := { row := dgraphMovesRow, standIns := [], harness := (true, "c7597f691d6eeb578c5ebf1d2c93fadf273ec73c9a08dec48f5a64364dbd39b2"), looks := true }, kinds := [], alts := [], laidByText := true, laidKinds := [.sentinel, .sentinel, .sentinel, .sentinel, .sentinel], laidTests := true, laidLooks := .later }
def DgraphMovesCardSaid : Prop := Claim7.holds Tryz.pinned (.plain (OpenSpec.ofChange dgraphMovesSpec)) dgraphMovesCard

/-- THE TIED CARD OF 'soriteslaw07.DgraphLess'. -/
def dgraphLessCard : Claim7 := { stood := { row := dgraphLessRow, standIns := [], harness := (true, "c7597f691d6eeb578c5ebf1d2c93fadf273ec73c9a08dec48f5a64364dbd39b2"), looks := true }, kinds := [], alts := [], laidByText := true, laidKinds := [.sentinel, .sentinel, .sentinel, .sentinel, .sentinel], laidTests := true, laidLooks := .later }
def DgraphLessCardSaid : Prop := Claim7.holds Tryz.pinned (.plain (OpenSpec.ofChange dgraphLessSpec)) dgraphLessCard

/-- THE TIED CARD OF 'soriteslaw07.DgraphTwo'. -/
def dgraphTwoCard : Claim7 := { stood := { row := dgraphTwoRow, standIns := [], harness := (true, "c7597f691d6eeb578c5ebf1d2c93fadf273ec73c9a08dec48f5a64364dbd39b2"), looks := true }, kinds := [], alts := [], laidByText := true, laidKinds := [.sentinel, .sentinel, .sentinel, .sentinel, .sentinel], laidTests := true, laidLooks := .later }
def DgraphTwoCardSaid : Prop := Claim7.holds Tryz.pinned (.plain (OpenSpec.ofChange dgraphTwoSpec)) dgraphTwoCard

/-- THE TIED CARD OF 'soriteslaw07.DgraphOnce'. -/
def dgraphOnceCard : Claim7 := { stood := { row := dgraphOnceRow, standIns := [], harness := (true, "c7597f691d6eeb578c5ebf1d2c93fadf273ec73c9a08dec48f5a64364dbd39b2"), looks := true }, kinds := [], alts := [], laidByText := true, laidKinds := [.sentinel, .sentinel, .sentinel, .sentinel, .sentinel], laidTests := true, laidLooks := .later }
def DgraphOnceCardSaid : Prop := Claim7.holds Tryz.pinned (.plain (OpenSpec.ofChange dgraphOnceSpec)) dgraphOnceCard

/-- THE TIED CARD OF 'soriteslaw07.DgraphHangs'. -/
def dgraphHangsCard : Claim7 := { stood := { row := dgraphHangsRow, standIns := [], harness := (true, "c7597f691d6eeb578c5ebf1d2c93fadf273ec73c9a08dec48f5a64364dbd39b2"), looks := true }, kinds := [], alts := [], laidByText := true, laidKinds := [.sentinel, .sentinel, .sentinel, .sentinel, .sentinel], laidTests := true, laidLooks := .later }
def DgraphHangsCardSaid : Prop := Claim7.holds Tryz.pinned (.plain (OpenSpec.ofChange dgraphHangsSpec)) dgraphHangsCard

/-- THE SECOND FORM's CARD OF 'soriteslaw06.DsafeChecks'. -/
def dsafeChecksUptoCard : Claim7 := { stood := { row := dsafeChecksUptoRow, standIns := [], harness := (true, "c7597f691d6eeb578c5ebf1d2c93fadf273ec73c9a08dec48f5a64364dbd39b2"), looks := true }, kinds := [], alts := [], laidByText := true, laidKinds := [.sentinel, .sentinel, .sentinel, .sentinel, .sentinel], laidTests := true, laidLooks := .later }
def DsafeChecksUptoCardSaid : Prop := Claim7.holds Tryz.pinned (.plain (OpenSpec.upto dsafeChecksSpec)) dsafeChecksUptoCard

/-- THE SECOND FORM's CARD OF 'soriteslaw07.DgraphGroups'. -/
def dgraphGroupsUptoCard : Claim7 := { stood := { row := dgraphGroupsUptoRow, standIns := [], harness := (true, "c7597f691d6eeb578c5ebf1d2c93fadf273ec73c9a08dec48f5a64364dbd39b2"), looks := true }, kinds := [], alts := [], laidByText := true, laidKinds := [.sentinel, .sentinel, .sentinel, .sentinel, .sentinel], laidTests := true, laidLooks := .later }
def DgraphGroupsUptoCardSaid : Prop := Claim7.holds Tryz.pinned (.plain (OpenSpec.upto dgraphGroupsSpec)) dgraphGroupsUptoCard

/-- THE SECOND FORM's CARD OF 'soriteslaw07.DgraphMoves'. -/
def dgraphMovesUptoCard : Claim7 := { stood := { row := dgraphMovesUptoRow, standIns := [], harness := (true, "c7597f691d6eeb578c5ebf1d2c93fadf273ec73c9a08dec48f5a64364dbd39b2"), looks := true }, kinds := [], alts := [], laidByText := true, laidKinds := [.sentinel, .sentinel, .sentinel, .sentinel, .sentinel], laidTests := true, laidLooks := .later }
def DgraphMovesUptoCardSaid : Prop := Claim7.holds Tryz.pinned (.plain (OpenSpec.upto dgraphMovesSpec)) dgraphMovesUptoCard

/-- THE SECOND FORM's CARD OF 'soriteslaw07.DgraphLess'. -/
def dgraphLessUptoCard : Claim7 := { stood := { row := dgraphLessUptoRow, standIns := [], harness := (true, "c7597f691d6eeb578c5ebf1d2c93fadf273ec73c9a08dec48f5a64364dbd39b2"), looks := true }, kinds := [], alts := [], laidByText := true, laidKinds := [.sentinel, .sentinel, .sentinel, .sentinel, .sentinel], laidTests := true, laidLooks := .later }
def DgraphLessUptoCardSaid : Prop := Claim7.holds Tryz.pinned (.plain (OpenSpec.upto dgraphLessSpec)) dgraphLessUptoCard

/-- THE SECOND FORM's CARD OF 'soriteslaw07.DgraphTwo'. -/
def dgraphTwoUptoCard : Claim7 := { stood := { row := dgraphTwoUptoRow, standIns := [], harness := (true, "c7597f691d6eeb578c5ebf1d2c93fadf273ec73c9a08dec48f5a64364dbd39b2"), looks := true }, kinds := [], alts := [], laidByText := true, laidKinds := [.sentinel, .sentinel, .sentinel, .sentinel, .sentinel], laidTests := true, laidLooks := .later }
def DgraphTwoUptoCardSaid : Prop := Claim7.holds Tryz.pinned (.plain (OpenSpec.upto dgraphTwoSpec)) dgraphTwoUptoCard

/-- THE SECOND FORM's CARD OF 'soriteslaw07.DgraphOnce'. -/
def dgraphOnceUptoCard : Claim7 := { stood := { row := dgraphOnceUptoRow, standIns := [], harness := (true, "c7597f691d6eeb578c5ebf1d2c93fadf273ec73c9a08dec48f5a64364dbd39b2"), looks := true }, kinds := [], alts := [], laidByText := true, laidKinds := [.sentinel, .sentinel, .sentinel, .sentinel, .sentinel], laidTests := true, laidLooks := .later }
def DgraphOnceUptoCardSaid : Prop := Claim7.holds Tryz.pinned (.plain (OpenSpec.upto dgraphOnceSpec)) dgraphOnceUptoCard

/-- THE SECOND FORM's CARD OF 'soriteslaw07.DgraphHangs'. -/
def dgraphHangsUptoCard : Claim7 := { stood := { row := dgraphHangsUptoRow, standIns := [], harness := (true, "c7597f691d6eeb578c5ebf1d2c93fadf273ec73c9a08dec48f5a64364dbd39b2"), looks := true }, kinds := [], alts := [], laidByText := true, laidKinds := [.sentinel, .sentinel, .sentinel, .sentinel, .sentinel], laidTests := true, laidLooks := .later }
def DgraphHangsUptoCardSaid : Prop := Claim7.holds Tryz.pinned (.plain (OpenSpec.upto dgraphHangsSpec)) dgraphHangsUptoCard
end Rows
end Go.Proofs.YtdpmikfheebicaaGreatDoor
