/-
  DERIVED. GIVEN WITH THE SEED: THE CARDS: each row of YtidmfjdechhnmaaDoorRows.lean that lists a variable, with what it lists TIED to the program's text (the seventh form; the later family's looks); each row that meets fmt, with fmt's text TOLD by the authors' own Lean function (tested against real Go, not proved from fmt's source: count such statements apart). THE CARD IS WHAT COUNTS. Prove the row's statement (the work); the ties are given (YtidmfjdechhnmaaDoorTie.lean); close each card by the builder's one call (the guide's Derived/Test/ToyasCard.lean, 'card_holds'). Laid BY PROGRAM, IN A SANDBOX (cutbox-door.mjs). By AI agents, Wed Nov 11 2026. No macro, syntax, notation, axiom, sorry.
-/
import Derived.Test.YtidmfjdechhnmaaDoorRows
import GoSem.ClaimSeven
namespace Go.Proofs.YtidmfjdechhnmaaDoor
namespace Rows

/-- THE TIED CARD OF 'soriteslaw06.DsafeFacts'. -/
def dsafeFactsCard : Claim7 := { stood := { row := dsafeFactsRow, standIns := [], harness := (true, "fb0a08e6ae2bef83aac2a5c4afc7b69f958c6408d071225722c42d2575e454ae"), looks := true }, kinds := [], alts := [], laidByText := true, laidKinds := [.sentinel, .sentinel], laidTests := true, laidLooks := .later }
def DsafeFactsCardSaid : Prop := Claim7.holds Tryd.pinned (.plain (OpenSpec.ofChange dsafeFactsSpec)) dsafeFactsCard

/-- THE TIED CARD OF 'soriteslaw06.DsafeOnce'. -/
def dsafeOnceCard : Claim7 := { stood := { row := dsafeOnceRow, standIns := [], harness := (true, "fb0a08e6ae2bef83aac2a5c4afc7b69f958c6408d071225722c42d2575e454ae"), looks := true }, kinds := [], alts := [], laidByText := true, laidKinds := [.sentinel, .sentinel], laidTests := true, laidLooks := .later }
def DsafeOnceCardSaid : Prop := Claim7.holds Tryd.pinned (.plain (OpenSpec.ofChange dsafeOnceSpec)) dsafeOnceCard

/-- THE TIED CARD OF 'soriteslaw06.DsafeMore'. -/
def dsafeMoreCard : Claim7 := { stood := { row := dsafeMoreRow, standIns := [], harness := (true, "fb0a08e6ae2bef83aac2a5c4afc7b69f958c6408d071225722c42d2575e454ae"), looks := true }, kinds := [], alts := [], laidByText := true, laidKinds := [.sentinel, .sentinel], laidTests := true, laidLooks := .later }
def DsafeMoreCardSaid : Prop := Claim7.holds Tryd.pinned (.plain (OpenSpec.ofChange dsafeMoreSpec)) dsafeMoreCard

/-- THE SECOND FORM's CARD OF 'soriteslaw06.DsafeFacts'. -/
def dsafeFactsUptoCard : Claim7 := { stood := { row := dsafeFactsUptoRow, standIns := [], harness := (true, "fb0a08e6ae2bef83aac2a5c4afc7b69f958c6408d071225722c42d2575e454ae"), looks := true }, kinds := [], alts := [], laidByText := true, laidKinds := [.sentinel, .sentinel], laidTests := true, laidLooks := .later }
def DsafeFactsUptoCardSaid : Prop := Claim7.holds Tryd.pinned (.plain (OpenSpec.upto dsafeFactsSpec)) dsafeFactsUptoCard

/-- THE SECOND FORM's CARD OF 'soriteslaw06.DsafeOnce'. -/
def dsafeOnceUptoCard : Claim7 := { stood := { row := dsafeOnceUptoRow, standIns := [], harness := (true, "fb0a08e6ae2bef83aac2a5c4afc7b69f958c6408d071225722c42d2575e454ae"), looks := true }, kinds := [], alts := [], laidByText := true, laidKinds := [.sentinel, .sentinel], laidTests := true, laidLooks := .later }
def DsafeOnceUptoCardSaid : Prop := Claim7.holds Tryd.pinned (.plain (OpenSpec.upto dsafeOnceSpec)) dsafeOnceUptoCard

/-- THE SECOND FORM's CARD OF 'soriteslaw06.DsafeMore'. -/
def dsafeMoreUptoCard : Claim7 := { stood := { row := dsafeMoreUptoRow, standIns := [], harness := (true, "fb0a08e6ae2bef83aac2a5c4afc7b69f958c6408d071225722c42d2575e454ae"), looks := true }, kinds := [], alts := [], laidByText := true, laidKinds := [.sentinel, .sentinel], laidTests := true, laidLooks := .later }
def DsafeMoreUptoCardSaid : Prop := Claim7.holds Tryd.pinned (.plain (OpenSpec.upto dsafeMoreSpec)) dsafeMoreUptoCard
end Rows
end Go.Proofs.YtidmfjdechhnmaaDoor
