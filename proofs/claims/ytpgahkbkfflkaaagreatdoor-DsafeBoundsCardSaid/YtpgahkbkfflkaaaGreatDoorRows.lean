/-
  NARROWER THAN 'FOR EVERY INPUT', by the rows' own cells (each row's printed sentence says how): DsafeOrders: loops, laid · DsafeBounds: loops, laid.
  DERIVED. THE GIVEN ROWS OF THIS SEAT. 2 by the template 'for every input the law returns true; each argument reads behind the call as it read before'; 0 by the template 'total and deterministic' (their statements: YtpgahkbkfflkaaaGreatDoorTotals.lean).
  GIVEN WITH THE SEED: the statements are not yours to turn. If you find one false, say at which input.
  Laid BY PROGRAM, IN A SANDBOX (cutbox-rows.mjs): the forced cells as the released guide's own fill.sh prints them over the translation 2f57c76409f60072… (all of the seat's roots in one cut). By AI agents, Wed Nov 11 2026. No macro, syntax, notation, axiom, sorry.
-/
import Derived.Test.YtpgahkbkfflkaaaGreatDoorChecked
import GoSem.Claim
import GoSem.ClaimJoined
import GoSem.ClaimMapViews
import Derived.JoinedTies
import Derived.KernelRfl
namespace Go.Proofs.YtpgahkbkfflkaaaGreatDoor
/- THE CELL 'sum', in the pinned program and in every row, IS THE sha256 OF THE DUMP (.gsa) THAT YtpgahkbkfflkaaaGreatDoorProg.lean LOADS. Nothing in Lean hashes anything: it is a label: what it is worth is what the hold of that sum in a sandbox is worth. -/
noncomputable def Tryz.pinned : Pinned := { name := "ytpgahkbkfflkaaagreatdoor", sum := "2f57c76409f60072accd70fa80277b3c589f8e6584cee35e3191bcb2af76beac", checked := Tryz.checked }
namespace Rows
def none {H : Type} : Left H := { results := [], args := [] }

/- WHAT THE LISTED PACKAGE-LEVEL VARIABLES READ AS WHEN THE CALL BEGINS. Each datum BY PROGRAM (the guide's laid-datum.mjs) off the statement by which the dump's own 'gosem.cut.vars' lays the variable. In a bare row this is a premise. The card (YtpgahkbkfflkaaaGreatDoorCards.lean) ties it to the program's text. -/
def laid_sorites_dtree_errTree {H : Type} : DataW H := .iface "*errors.errorString" (.ptr (.agg [.lit (.string [110, 111, 32, 116, 114, 101, 101])]))
def laid_sorites_dsafe_errStuck {H : Type} : DataW H := .iface "*errors.errorString" (.ptr (.agg [.lit (.string [110, 111, 32, 112, 97, 114, 116, 32, 105, 115, 32, 114, 101, 97, 100, 121])]))

/-- 'soriteslaw06.DsafeOrders': WHATEVER THE INPUT: true; the input reads as it did. -/
def dsafeOrdersSpec : ChangeSpec := { name := "dsafeOrders", fn := fun _ => fun
  | [d] => { results := [.lit (.bool true)], args := [d] }
  | _ => none }
def dsafeOrdersRow : OpenClaim := { program := "ytpgahkbkfflkaaagreatdoor", sum := "2f57c76409f60072accd70fa80277b3c589f8e6584cee35e3191bcb2af76beac", func := "sorites/soriteslaw06.DsafeOrders", spec := "dsafeOrders", inPlace := ["internal/reflectlite.TypeOf"], unfollowed := true, recurses := true, named := ["sorites/dsafe.errStuck", "sorites/dtree.errTree"], loops := true, apart := false, laid := [("sorites/dtree.errTree", laid_sorites_dtree_errTree), ("sorites/dsafe.errStuck", laid_sorites_dsafe_errStuck)] }
def DsafeOrdersSaid : Prop := dsafeOrdersRow.holds Tryz.pinned (OpenSpec.ofChange dsafeOrdersSpec)

/-- ITS FALSE NEIGHBOUR: 'it returns false'. Refute it at one input. -/
def dsafeOrdersWrong : ChangeSpec := { name := "dsafeOrders", fn := fun _ => fun
  | [d] => { results := [.lit (.bool false)], args := [d] }
  | _ => none }
def DsafeOrdersWrongFalsely : Prop := dsafeOrdersRow.holds Tryz.pinned (OpenSpec.ofChange dsafeOrdersWrong)

/-- 'soriteslaw06.DsafeBounds': WHATEVER THE INPUT: true; the input reads as it did. -/
def dsafeBoundsSpec : ChangeSpec := { name := "dsafeBounds", fn := fun _ => fun
  | [d1, d2] => { results := [.lit (.bool true)], args := [d1, d2] }
  | _ => none }
def dsafeBoundsRow : OpenClaim := { program := "ytpgahkbkfflkaaagreatdoor", sum := "2f57c76409f60072accd70fa80277b3c589f8e6584cee35e3191bcb2af76beac", func := "sorites/soriteslaw06.DsafeBounds", spec := "dsafeBounds", inPlace := ["internal/reflectlite.TypeOf"], unfollowed := true, recurses := true, named := ["sorites/dsafe.errStuck", "sorites/dtree.errTree"], loops := true, apart := false, laid := [("sorites/dtree.errTree", laid_sorites_dtree_errTree), ("sorites/dsafe.errStuck", laid_sorites_dsafe_errStuck)] }
def DsafeBoundsSaid : Prop := dsafeBoundsRow.holds Tryz.pinned (OpenSpec.ofChange dsafeBoundsSpec)

/-- ITS FALSE NEIGHBOUR: 'it returns false'. Refute it at one input. -/
def dsafeBoundsWrong : ChangeSpec := { name := "dsafeBounds", fn := fun _ => fun
  | [d1, d2] => { results := [.lit (.bool false)], args := [d1, d2] }
  | _ => none }
def DsafeBoundsWrongFalsely : Prop := dsafeBoundsRow.holds Tryz.pinned (OpenSpec.ofChange dsafeBoundsWrong)

/- THE SECOND FORM. 'bulk': how many values and letters a reading holds, each counted each time it is reached (what is shared counts as often as it is met; a slice's spare places count too). A statement '..UptoSaid' is the law's where the arguments, and the package variables that the reading takes, are together of bulk at most 1048576: NARROWER than '..Said'. Prove '..Said' where nothing that the law and all that it calls make is longer than what came in: it says more and counts as full. Else prove '..UptoSaid'. A law counts once. -/
mutual
def uptoBulk {H : Type} : DataW H → Nat
  | .lit (.string bytes) => bytes.length + 1
  | .lit _ => 1
  | .nil => 1
  | .ptr d => uptoBulk d + 1
  | .slice elems spare => uptoBulkAll elems + uptoBulkAll spare + 1
  | .agg parts => uptoBulkAll parts + 1
  | .iface _ d => uptoBulk d + 1
  | .map entries => uptoBulkEntries entries + 1
  | .held _ => 1
def uptoBulkAll {H : Type} : List (DataW H) → Nat
  | [] => 0
  | d :: r => uptoBulk d + uptoBulkAll r
def uptoBulkEntries {H : Type} : List (Lit × DataW H) → Nat
  | [] => 0
  | x :: r => uptoBulkEntry x + uptoBulkEntries r
def uptoBulkEntry {H : Type} : Lit × DataW H → Nat
  | (.string bytes, d) => bytes.length + uptoBulk d + 1
  | (_, d) => uptoBulk d + 1
 end
def uptoSmall : (H : Type) → List (DataW H) → Bool := fun _ ds => decide (uptoBulkAll ds ≤ 1048576)
def OpenSpec.upto (s : _root_.Go.ChangeSpec) : _root_.Go.OpenSpec := { _root_.Go.OpenSpec.ofChange s with cond := some uptoSmall }

/-- 'soriteslaw06.DsafeOrders', WHERE WHAT IT READS IS OF BULK AT MOST 1048576: true; the input reads as it did. -/
def dsafeOrdersUptoRow : OpenClaim := { program := "ytpgahkbkfflkaaagreatdoor", sum := "2f57c76409f60072accd70fa80277b3c589f8e6584cee35e3191bcb2af76beac", func := "sorites/soriteslaw06.DsafeOrders", spec := "dsafeOrders", inPlace := ["internal/reflectlite.TypeOf"], unfollowed := true, recurses := true, named := ["sorites/dsafe.errStuck", "sorites/dtree.errTree"], loops := true, apart := false, laid := [("sorites/dtree.errTree", laid_sorites_dtree_errTree), ("sorites/dsafe.errStuck", laid_sorites_dsafe_errStuck)], narrowed := true }
def DsafeOrdersUptoSaid : Prop := dsafeOrdersUptoRow.holds Tryz.pinned (OpenSpec.upto dsafeOrdersSpec)

/-- 'soriteslaw06.DsafeBounds', WHERE WHAT IT READS IS OF BULK AT MOST 1048576: true; the input reads as it did. -/
def dsafeBoundsUptoRow : OpenClaim := { program := "ytpgahkbkfflkaaagreatdoor", sum := "2f57c76409f60072accd70fa80277b3c589f8e6584cee35e3191bcb2af76beac", func := "sorites/soriteslaw06.DsafeBounds", spec := "dsafeBounds", inPlace := ["internal/reflectlite.TypeOf"], unfollowed := true, recurses := true, named := ["sorites/dsafe.errStuck", "sorites/dtree.errTree"], loops := true, apart := false, laid := [("sorites/dtree.errTree", laid_sorites_dtree_errTree), ("sorites/dsafe.errStuck", laid_sorites_dsafe_errStuck)], narrowed := true }
def DsafeBoundsUptoSaid : Prop := dsafeBoundsUptoRow.holds Tryz.pinned (OpenSpec.upto dsafeBoundsSpec)

end Rows
end Go.Proofs.YtpgahkbkfflkaaaGreatDoor
