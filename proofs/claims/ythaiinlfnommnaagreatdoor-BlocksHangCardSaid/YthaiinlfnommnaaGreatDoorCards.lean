/-
  DERIVED. GIVEN WITH THE SEED: THE CARDS: each row of YthaiinlfnommnaaGreatDoorRows.lean that lists a variable, with what it lists TIED to the program's text (the seventh form; the later family's looks); each row that meets fmt, with fmt's text TOLD by the authors' own Lean function (tested against real Go, not proved from fmt's source: count such statements apart). THE CARD IS WHAT COUNTS. Prove the row's statement (the work); the ties are given (YthaiinlfnommnaaGreatDoorTie.lean); close each card by the builder's one call (the guide's Derived/Test/ToyasCard.lean, 'card_holds'). Laid BY PROGRAM, IN A SANDBOX (cutbox-door.mjs). By AI agents, Wed Nov 11 2026. No macro, syntax, notation, axiom, sorry.
-/
import Derived.Test.YthaiinlfnommnaaGreatDoorRows
import GoSem.ClaimSeven
namespace Go.Proofs.YthaiinlfnommnaaGreatDoor
namespace Rows

/-- THE TIED CARD OF 'soriteslaw13.BlocksOf'. -/
def blocksOfCard : Claim7 := { stood := { row := blocksOfRow, standIns := [], harness := (true, "53923c05d1921d84722514d4284bee93f7747f832f3a5af85cd1a2e70a8ad294"), looks := true }, kinds := [], alts := [], laidByText := true, laidKinds := [.sentinel, .sentinel, .sentinel, .sentinel, .sentinel], laidTests := true, laidLooks := .later }
def BlocksOfCardSaid : Prop := Claim7.holds Tryz.pinned (.plain (OpenSpec.ofChange blocksOfSpec)) blocksOfCard

/-- THE TIED CARD OF 'soriteslaw13.BlocksGroups'. -/
def blocksGroupsCard : Claim7 := { stood := { row := blocksGroupsRow, standIns := [], harness := (true, "53923c05d1921d84722514d4284bee93f7747f832f3a5af85cd1a2e70a8ad294"), looks := true }, kinds := [], alts := [], laidByText := true, laidKinds := [.sentinel, .sentinel, .sentinel, .sentinel, .sentinel], laidTests := true, laidLooks := .later }
def BlocksGroupsCardSaid : Prop := Claim7.holds Tryz.pinned (.plain (OpenSpec.ofChange blocksGroupsSpec)) blocksGroupsCard

/-- THE TIED CARD OF 'soriteslaw13.BlocksAll'. -/
def blocksAllCard : Claim7 := { stood := { row := blocksAllRow, standIns := [], harness := (true, "53923c05d1921d84722514d4284bee93f7747f832f3a5af85cd1a2e70a8ad294"), looks := true }, kinds := [], alts := [], laidByText := true, laidKinds := [.sentinel, .sentinel, .sentinel, .sentinel, .sentinel], laidTests := true, laidLooks := .later }
def BlocksAllCardSaid : Prop := Claim7.holds Tryz.pinned (.plain (OpenSpec.ofChange blocksAllSpec)) blocksAllCard

/-- THE TIED CARD OF 'soriteslaw11.QueryOf'. -/
def queryOfCard : Claim7 := { stood := { row := queryOfRow, standIns := [], harness := (true, "53923c05d1921d84722514d4284bee93f7747f832f3a5af85cd1a2e70a8ad294"), looks := true }, kinds := [], alts := [], laidByText := true, laidKinds := [.sentinel, .sentinel, .sentinel, .sentinel, .sentinel], laidTests := true, laidLooks := .later }
def QueryOfCardSaid : Prop := Claim7.holds Tryz.pinned (.plain (OpenSpec.ofChange queryOfSpec)) queryOfCard

/-- THE TIED CARD OF 'soriteslaw11.QueryCols'. -/
def queryColsCard : Claim7 := { stood := { row := queryColsRow, standIns := [], harness := (true, "53923c05d1921d84722514d4284bee93f7747f832f3a5af85cd1a2e70a8ad294"), looks := true }, kinds := [], alts := [], laidByText := true, laidKinds := [.sentinel, .sentinel, .sentinel, .sentinel, .sentinel], laidTests := true, laidLooks := .later }
def QueryColsCardSaid : Prop := Claim7.holds Tryz.pinned (.plain (OpenSpec.ofChange queryColsSpec)) queryColsCard

/-- THE TIED CARD OF 'soriteslaw13.BlocksHang'. -/
def blocksHangCard : Claim7 := { stood := { row := blocksHangRow, standIns := [], harness := (true, "53923c05d1921d84722514d4284bee93f7747f832f3a5af85cd1a2e70a8ad294"), looks := true }, kinds := [], alts := [], laidByText := true, laidKinds := [.sentinel, .sentinel, .sentinel, .sentinel, .sentinel], laidTests := true, laidLooks := .later }
def BlocksHangCardSaid : Prop := Claim7.holds Tryz.pinned (.plain (OpenSpec.ofChange blocksHangSpec)) blocksHangCard

/-- THE TIED CARD OF 'soriteslaw13.BlocksTurns'. -/
def blocksTurnsCard : Claim7 := { stood := { row := blocksTurnsRow, standIns := [], harness := (true, "53923c05d1921d84722514d4284bee93f7747f832f3a5af85cd1a2e70a8ad294"), looks := true }, kinds := [], alts := [], laidByText := true, laidKinds := [.sentinel, .sentinel, .sentinel, .sentinel, .sentinel], laidTests := true, laidLooks := .later }
def BlocksTurnsCardSaid : Prop := Claim7.holds Tryz.pinned (.plain (OpenSpec.ofChange blocksTurnsSpec)) blocksTurnsCard

/-- THE SECOND FORM's CARD OF 'soriteslaw13.BlocksOf'. -/
def blocksOfUptoCard : Claim7 := { stood := { row := blocksOfUptoRow, standIns := [], harness := (true, "53923c05d1921d84722514d4284bee93f7747f832f3a5af85cd1a2e70a8ad294"), looks := true }, kinds := [], alts := [], laidByText := true, laidKinds := [.sentinel, .sentinel, .sentinel, .sentinel, .sentinel], laidTests := true, laidLooks := .later }
def BlocksOfUptoCardSaid : Prop := Claim7.holds Tryz.pinned (.plain (OpenSpec.upto blocksOfSpec)) blocksOfUptoCard

/-- THE SECOND FORM's CARD OF 'soriteslaw13.BlocksGroups'. -/
def blocksGroupsUptoCard : Claim7 := { stood := { row := blocksGroupsUptoRow, standIns := [], harness := (true, "53923c05d1921d84722514d4284bee93f7747f832f3a5af85cd1a2e70a8ad294"), looks := true }, kinds := [], alts := [], laidByText := true, laidKinds := [.sentinel, .sentinel, .sentinel, .sentinel, .sentinel], laidTests := true, laidLooks := .later }
def BlocksGroupsUptoCardSaid : Prop := Claim7.holds Tryz.pinned (.plain (OpenSpec.upto blocksGroupsSpec)) blocksGroupsUptoCard

/-- THE SECOND FORM's CARD OF 'soriteslaw13.BlocksAll'. -/
def blocksAllUptoCard : Claim7 := { stood := { row := blocksAllUptoRow, standIns := [], harness := (true, "53923c05d1921d84722514d4284bee93f7747f832f3a5af85cd1a2e70a8ad294"), looks := true }, kinds := [], alts := [], laidByText := true, laidKinds := [.sentinel, .sentinel, .sentinel, .sentinel, .sentinel], laidTests := true, laidLooks := .later }
def BlocksAllUptoCardSaid : Prop := Claim7.holds Tryz.pinned (.plain (OpenSpec.upto blocksAllSpec)) blocksAllUptoCard

/-- THE SECOND FORM's CARD OF 'soriteslaw11.QueryOf'. -/
def queryOfUptoCard : Claim7 := { stood := { row := queryOfUptoRow, standIns := [], harness := (true, "53923c05d1921d84722514d4284bee93f7747f832f3a5af85cd1a2e70a8ad294"), looks := true }, kinds := [], alts := [], laidByText := true, laidKinds := [.sentinel, .sentinel, .sentinel, .sentinel, .sentinel], laidTests := true, laidLooks := .later }
def QueryOfUptoCardSaid : Prop := Claim7.holds Tryz.pinned (.plain (OpenSpec.upto queryOfSpec)) queryOfUptoCard

/-- THE SECOND FORM's CARD OF 'soriteslaw11.QueryCols'. -/
def queryColsUptoCard : Claim7 := { stood := { row := queryColsUptoRow, standIns := [], harness := (true, "53923c05d1921d84722514d4284bee93f7747f832f3a5af85cd1a2e70a8ad294"), looks := true }, kinds := [], alts := [], laidByText := true, laidKinds := [.sentinel, .sentinel, .sentinel, .sentinel, .sentinel], laidTests := true, laidLooks := .later }
def QueryColsUptoCardSaid : Prop := Claim7.holds Tryz.pinned (.plain (OpenSpec.upto queryColsSpec)) queryColsUptoCard

/-- THE SECOND FORM's CARD OF 'soriteslaw13.BlocksHang'. -/
def blocksHangUptoCard : Claim7 := { stood := { row := blocksHangUptoRow, standIns := [], harness := (true, "53923c05d1921d84722514d4284bee93f7747f832f3a5af85cd1a2e70a8ad294"), looks := true }, kinds := [], alts := [], laidByText := true, laidKinds := [.sentinel, .sentinel, .sentinel, .sentinel, .sentinel], laidTests := true, laidLooks := .later }
def BlocksHangUptoCardSaid : Prop := Claim7.holds Tryz.pinned (.plain (OpenSpec.upto blocksHangSpec)) blocksHangUptoCard

/-- THE SECOND FORM's CARD OF 'soriteslaw13.BlocksTurns'. -/
def blocksTurnsUptoCard : Claim7 := { stood := { row := blocksTurnsUptoRow, standIns := [], harness := (true, "53923c05d1921d84722514d4284bee93f7747f832f3a5af85cd1a2e70a8ad294"), looks := true }, kinds := [], alts := [], laidByText := true, laidKinds := [.sentinel, .sentinel, .sentinel, .sentinel, .sentinel], laidTests := true, laidLooks := .later }
def BlocksTurnsUptoCardSaid : Prop := Claim7.holds Tryz.pinned (.plain (OpenSpec.upto blocksTurnsSpec)) blocksTurnsUptoCard
end Rows
end Go.Proofs.YthaiinlfnommnaaGreatDoor
