/-
  DERIVED. GIVEN WITH THE SEED: THE CARDS: each row of YtbppdpbagmbmpaaGreatDoorRows.lean that lists a variable, with what it lists TIED to the program's text (the seventh form; the later family's looks); each row that meets fmt, with fmt's text TOLD by the authors' own Lean function (tested against real Go, not proved from fmt's source: count such statements apart). THE CARD IS WHAT COUNTS. Prove the row's statement (the work); the ties are given (YtbppdpbagmbmpaaGreatDoorTie.lean); close each card by the builder's one call (the guide's Derived/Test/ToyasCard.lean, 'card_holds'). Laid BY PROGRAM, IN A SANDBOX (cutbox-door.mjs). By AI agents, Wed Nov 11 2026. No macro, syntax, notation, axiom, sorry.
-/
import Derived.Test.YtbppdpbagmbmpaaGreatDoorRows
import GoSem.ClaimSeven
namespace Go.Proofs.YtbppdpbagmbmpaaGreatDoor
namespace Rows

/-- THE TIED CARD OF 'soriteslaw16.GolexLexes'. -/
def golexLexesCard : Claim7 := { stood := { row := golexLexesRow, standIns := [], harness := (true, "29e8cc66e42b59ccd17a24dfff35f25127b5383c3762732651ea0d0856ef8688"), looks := true }, kinds := [], alts := [], laidByText := true, laidKinds := [.data, .data, .data, .data, .handle, .sentinel, .sentinel, .listed, .data, .sentinel, .pinned], laidTests := true, laidLooks := .later }
def GolexLexesCardSaid : Prop := Claim7.holds Tryz.pinned (.plain (OpenSpec.ofChange golexLexesSpec)) golexLexesCard

/-- THE TIED CARD OF 'soriteslaw16.GolexEnds'. -/
def golexEndsCard : Claim7 := { stood := { row := golexEndsRow, standIns := [], harness := (true, "29e8cc66e42b59ccd17a24dfff35f25127b5383c3762732651ea0d0856ef8688"), looks := true }, kinds := [], alts := [], laidByText := true, laidKinds := [.data, .data, .data, .data, .handle, .sentinel, .sentinel, .listed, .data, .sentinel, .pinned], laidTests := true, laidLooks := .later }
def GolexEndsCardSaid : Prop := Claim7.holds Tryz.pinned (.plain (OpenSpec.ofChange golexEndsSpec)) golexEndsCard

/-- THE TIED CARD OF 'soriteslaw16.GolexLines'. -/
def golexLinesCard : Claim7 := { stood := { row := golexLinesRow, standIns := [], harness := (true, "29e8cc66e42b59ccd17a24dfff35f25127b5383c3762732651ea0d0856ef8688"), looks := true }, kinds := [], alts := [], laidByText := true, laidKinds := [.data, .data, .data, .data, .handle, .sentinel, .sentinel, .listed, .data, .sentinel, .pinned], laidTests := true, laidLooks := .later }
def GolexLinesCardSaid : Prop := Claim7.holds Tryz.pinned (.plain (OpenSpec.ofChange golexLinesSpec)) golexLinesCard

/-- THE TIED CARD OF 'soriteslaw16.GolexJoins'. -/
def golexJoinsCard : Claim7 := { stood := { row := golexJoinsRow, standIns := [], harness := (true, "29e8cc66e42b59ccd17a24dfff35f25127b5383c3762732651ea0d0856ef8688"), looks := true }, kinds := [], alts := [], laidByText := true, laidKinds := [.data, .data, .data, .data, .handle, .sentinel, .sentinel, .listed, .data, .sentinel, .pinned], laidTests := true, laidLooks := .later }
def GolexJoinsCardSaid : Prop := Claim7.holds Tryz.pinned (.plain (OpenSpec.ofChange golexJoinsSpec)) golexJoinsCard

/-- THE TIED CARD OF 'soriteslaw16.GolexSames'. -/
def golexSamesCard : Claim7 := { stood := { row := golexSamesRow, standIns := [], harness := (true, "29e8cc66e42b59ccd17a24dfff35f25127b5383c3762732651ea0d0856ef8688"), looks := true }, kinds := [], alts := [], laidByText := true, laidKinds := [.data, .data, .data, .data, .handle, .sentinel, .sentinel, .listed, .data, .sentinel, .pinned], laidTests := true, laidLooks := .later }
def GolexSamesCardSaid : Prop := Claim7.holds Tryz.pinned (.plain (OpenSpec.ofChange golexSamesSpec)) golexSamesCard

/-- THE SECOND FORM's CARD OF 'soriteslaw16.GolexLexes'. -/
def golexLexesUptoCard : Claim7 := { stood := { row := golexLexesUptoRow, standIns := [], harness := (true, "29e8cc66e42b59ccd17a24dfff35f25127b5383c3762732651ea0d0856ef8688"), looks := true }, kinds := [], alts := [], laidByText := true, laidKinds := [.data, .data, .data, .data, .handle, .sentinel, .sentinel, .listed, .data, .sentinel, .pinned], laidTests := true, laidLooks := .later }
def GolexLexesUptoCardSaid : Prop := Claim7.holds Tryz.pinned (.plain (OpenSpec.upto golexLexesSpec)) golexLexesUptoCard

/-- THE SECOND FORM's CARD OF 'soriteslaw16.GolexEnds'. -/
def golexEndsUptoCard : Claim7 := { stood := { row := golexEndsUptoRow, standIns := [], harness := (true, "29e8cc66e42b59ccd17a24dfff35f25127b5383c3762732651ea0d0856ef8688"), looks := true }, kinds := [], alts := [], laidByText := true, laidKinds := [.data, .data, .data, .data, .handle, .sentinel, .sentinel, .listed, .data, .sentinel, .pinned], laidTests := true, laidLooks := .later }
def GolexEndsUptoCardSaid : Prop := Claim7.holds Tryz.pinned (.plain (OpenSpec.upto golexEndsSpec)) golexEndsUptoCard

/-- THE SECOND FORM's CARD OF 'soriteslaw16.GolexLines'. -/
def golexLinesUptoCard : Claim7 := { stood := { row := golexLinesUptoRow, standIns := [], harness := (true, "29e8cc66e42b59ccd17a24dfff35f25127b5383c3762732651ea0d0856ef8688"), looks := true }, kinds := [], alts := [], laidByText := true, laidKinds := [.data, .data, .data, .data, .handle, .sentinel, .sentinel, .listed, .data, .sentinel, .pinned], laidTests := true, laidLooks := .later }
def GolexLinesUptoCardSaid : Prop := Claim7.holds Tryz.pinned (.plain (OpenSpec.upto golexLinesSpec)) golexLinesUptoCard

/-- THE SECOND FORM's CARD OF 'soriteslaw16.GolexJoins'. -/
def golexJoinsUptoCard : Claim7 := { stood := { row := golexJoinsUptoRow, standIns := [], harness := (true, "29e8cc66e42b59ccd17a24dfff35f25127b5383c3762732651ea0d0856ef8688"), looks := true }, kinds := [], alts := [], laidByText := true, laidKinds := [.data, .data, .data, .data, .handle, .sentinel, .sentinel, .listed, .data, .sentinel, .pinned], laidTests := true, laidLooks := .later }
def GolexJoinsUptoCardSaid : Prop := Claim7.holds Tryz.pinned (.plain (OpenSpec.upto golexJoinsSpec)) golexJoinsUptoCard

/-- THE SECOND FORM's CARD OF 'soriteslaw16.GolexSames'. -/
def golexSamesUptoCard : Claim7 := { stood := { row := golexSamesUptoRow, standIns := [], harness := (true, "29e8cc66e42b59ccd17a24dfff35f25127b5383c3762732651ea0d0856ef8688"), looks := true }, kinds := [], alts := [], laidByText := true, laidKinds := [.data, .data, .data, .data, .handle, .sentinel, .sentinel, .listed, .data, .sentinel, .pinned], laidTests := true, laidLooks := .later }
def GolexSamesUptoCardSaid : Prop := Claim7.holds Tryz.pinned (.plain (OpenSpec.upto golexSamesSpec)) golexSamesUptoCard
end Rows
end Go.Proofs.YtbppdpbagmbmpaaGreatDoor
