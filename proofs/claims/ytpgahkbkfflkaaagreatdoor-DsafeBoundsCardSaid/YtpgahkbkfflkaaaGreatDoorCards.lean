/-
  DERIVED. GIVEN WITH THE SEED: THE CARDS: each row of YtpgahkbkfflkaaaGreatDoorRows.lean that lists a variable, with what it lists TIED to the program's text (the seventh form; the later family's looks); each row that meets fmt, with fmt's text TOLD by the authors' own Lean function (tested against real Go, not proved from fmt's source: count such statements apart). THE CARD IS WHAT COUNTS. Prove the row's statement (the work); the ties are given (YtpgahkbkfflkaaaGreatDoorTie.lean); close each card by the builder's one call (the guide's Derived/Test/ToyasCard.lean, 'card_holds'). Laid BY PROGRAM, IN A SANDBOX (cutbox-door.mjs). By AI agents, Wed Nov 11 2026. No macro, syntax, notation, axiom, sorry.
-/
import Derived.Test.YtpgahkbkfflkaaaGreatDoorRows
import GoSem.ClaimSeven
namespace Go.Proofs.YtpgahkbkfflkaaaGreatDoor
namespace Rows

/-- THE TIED CARD OF 'soriteslaw06.DsafeOrders'. -/
def dsafeOrdersCard : Claim7 := { stood := { row := dsafeOrdersRow, standIns := [], harness := (true, "de19e371f6aceef0362cee7ea436029b2036fb4d81c8f802d05eb9285f7a5ecd"), looks := true }, kinds := [], alts := [], laidByText := true, laidKinds := [.sentinel, .sentinel], laidTests := true, laidLooks := .later }
def DsafeOrdersCardSaid : Prop := Claim7.holds Tryz.pinned (.plain (OpenSpec.ofChange dsafeOrdersSpec)) dsafeOrdersCard

/-- THE TIED CARD OF 'soriteslaw06.DsafeBounds'. -/
def dsafeBoundsCard : Claim7 := { stood := { row := dsafeBoundsRow, standIns := [], harness := (true, "de19e371f6aceef0362cee7ea436029b2036fb4d81c8f802d05eb9285f7a5ecd"), looks := true }, kinds := [], alts := [], laidByText := true, laidKinds := [.sentinel, .sentinel], laidTests := true, laidLooks := .later }
def DsafeBoundsCardSaid : Prop := Claim7.holds Tryz.pinned (.plain (OpenSpec.ofChange dsafeBoundsSpec)) dsafeBoundsCard

/-- THE SECOND FORM's CARD OF 'soriteslaw06.DsafeOrders'. -/
def dsafeOrdersUptoCard : Claim7 := { stood := { row := dsafeOrdersUptoRow, standIns := [], harness := (true, "de19e371f6aceef0362cee7ea436029b2036fb4d81c8f802d05eb9285f7a5ecd"), looks := true }, kinds := [], alts := [], laidByText := true, laidKinds := [.sentinel, .sentinel], laidTests := true, laidLooks := .later }
def DsafeOrdersUptoCardSaid : Prop := Claim7.holds Tryz.pinned (.plain (OpenSpec.upto dsafeOrdersSpec)) dsafeOrdersUptoCard

/-- THE SECOND FORM's CARD OF 'soriteslaw06.DsafeBounds'. -/
def dsafeBoundsUptoCard : Claim7 := { stood := { row := dsafeBoundsUptoRow, standIns := [], harness := (true, "de19e371f6aceef0362cee7ea436029b2036fb4d81c8f802d05eb9285f7a5ecd"), looks := true }, kinds := [], alts := [], laidByText := true, laidKinds := [.sentinel, .sentinel], laidTests := true, laidLooks := .later }
def DsafeBoundsUptoCardSaid : Prop := Claim7.holds Tryz.pinned (.plain (OpenSpec.upto dsafeBoundsSpec)) dsafeBoundsUptoCard
end Rows
end Go.Proofs.YtpgahkbkfflkaaaGreatDoor
