/-
  NARROWER THAN 'FOR EVERY INPUT', by the rows' own cells (each row's printed sentence says how): BlocksOf: loops, laid · BlocksGroups: loops, laid · BlocksAll: loops, laid · QueryOf: loops, laid · QueryCols: loops, laid · BlocksHang: loops, laid · BlocksTurns: loops, laid.
  DERIVED. THE GIVEN ROWS OF THIS SEAT. 7 by the template 'for every input the law returns true; each argument reads behind the call as it read before'; 0 by the template 'total and deterministic' (their statements: YthaiinlfnommnaaGreatDoorTotals.lean).
  GIVEN WITH THE SEED: the statements are not yours to turn. If you find one false, say at which input.
  Laid BY PROGRAM, IN A SANDBOX (cutbox-rows.mjs): the forced cells as the released guide's own fill.sh prints them over the translation bda7d5360836fe32… (all of the seat's roots in one cut). By AI agents, Wed Nov 11 2026. No macro, syntax, notation, axiom, sorry.
-/
import Derived.Test.YthaiinlfnommnaaGreatDoorChecked
import GoSem.Claim
import GoSem.ClaimJoined
import GoSem.ClaimMapViews
import Derived.JoinedTies
import Derived.KernelRfl
namespace Go.Proofs.YthaiinlfnommnaaGreatDoor
/- THE CELL 'sum', in the pinned program and in every row, IS THE sha256 OF THE DUMP (.gsa) THAT YthaiinlfnommnaaGreatDoorProg.lean LOADS. Nothing in Lean hashes anything: it is a label: what it is worth is what the hold of that sum in a sandbox is worth. -/
noncomputable def Tryz.pinned : Pinned := { name := "ythaiinlfnommnaagreatdoor", sum := "bda7d5360836fe323a69b77ea16583cf63c401f317db47d91aeb0ea2a2a74cd7", checked := Tryz.checked }
namespace Rows
def none {H : Type} : Left H := { results := [], args := [] }

/- WHAT THE LISTED PACKAGE-LEVEL VARIABLES READ AS WHEN THE CALL BEGINS. Each datum BY PROGRAM (the guide's laid-datum.mjs) off the statement by which the dump's own 'gosem.cut.vars' lays the variable. In a bare row this is a premise. The card (YthaiinlfnommnaaGreatDoorCards.lean) ties it to the program's text. -/
def laid_sorites_dtree_errTree {H : Type} : DataW H := .iface "*errors.errorString" (.ptr (.agg [.lit (.string [110, 111, 32, 116, 114, 101, 101])]))
def laid_sorites_dtype_errNoRel {H : Type} : DataW H := .iface "*errors.errorString" (.ptr (.agg [.lit (.string [110, 111, 32, 114, 101, 108, 97, 116, 105, 111, 110])]))
def laid_sorites_dtype_errArity {H : Type} : DataW H := .iface "*errors.errorString" (.ptr (.agg [.lit (.string [97, 110, 111, 116, 104, 101, 114, 32, 110, 117, 109, 98, 101, 114, 32, 111, 102, 32, 99, 111, 108, 117, 109, 110, 115])]))
def laid_sorites_dtype_errType {H : Type} : DataW H := .iface "*errors.errorString" (.ptr (.agg [.lit (.string [97, 110, 111, 116, 104, 101, 114, 32, 116, 121, 112, 101])]))
def laid_sorites_dsafe_errStuck {H : Type} : DataW H := .iface "*errors.errorString" (.ptr (.agg [.lit (.string [110, 111, 32, 112, 97, 114, 116, 32, 105, 115, 32, 114, 101, 97, 100, 121])]))

/-- 'soriteslaw13.BlocksOf': WHATEVER THE INPUT: true; the input reads as it did. -/
def blocksOfSpec : ChangeSpec := { name := "blocksOf", fn := fun _ => fun
  | [d] => { results := [.lit (.bool true)], args := [d] }
  | _ => none }
def blocksOfRow : OpenClaim := { program := "ythaiinlfnommnaagreatdoor", sum := "bda7d5360836fe323a69b77ea16583cf63c401f317db47d91aeb0ea2a2a74cd7", func := "sorites/soriteslaw13.BlocksOf", spec := "blocksOf", inPlace := ["internal/reflectlite.TypeOf"], unfollowed := true, recurses := true, named := ["sorites/dtree.errTree", "sorites/dtype.errType", "sorites/dtype.errNoRel", "sorites/dtype.errArity", "sorites/dsafe.errStuck"], loops := true, apart := false, laid := [("sorites/dtree.errTree", laid_sorites_dtree_errTree), ("sorites/dtype.errNoRel", laid_sorites_dtype_errNoRel), ("sorites/dtype.errArity", laid_sorites_dtype_errArity), ("sorites/dtype.errType", laid_sorites_dtype_errType), ("sorites/dsafe.errStuck", laid_sorites_dsafe_errStuck)] }
def BlocksOfSaid : Prop := blocksOfRow.holds Tryz.pinned (OpenSpec.ofChange blocksOfSpec)

/-- ITS FALSE NEIGHBOUR: 'it returns false'. Refute it at one input. -/
def blocksOfWrong : ChangeSpec := { name := "blocksOf", fn := fun _ => fun
  | [d] => { results := [.lit (.bool false)], args := [d] }
  | _ => none }
def BlocksOfWrongFalsely : Prop := blocksOfRow.holds Tryz.pinned (OpenSpec.ofChange blocksOfWrong)

/-- 'soriteslaw13.BlocksGroups': WHATEVER THE INPUT: true; the input reads as it did. -/
def blocksGroupsSpec : ChangeSpec := { name := "blocksGroups", fn := fun _ => fun
  | [d] => { results := [.lit (.bool true)], args := [d] }
  | _ => none }
def blocksGroupsRow : OpenClaim := { program := "ythaiinlfnommnaagreatdoor", sum := "bda7d5360836fe323a69b77ea16583cf63c401f317db47d91aeb0ea2a2a74cd7", func := "sorites/soriteslaw13.BlocksGroups", spec := "blocksGroups", inPlace := ["internal/reflectlite.TypeOf"], unfollowed := true, recurses := true, named := ["sorites/dtree.errTree", "sorites/dtype.errType", "sorites/dtype.errNoRel", "sorites/dtype.errArity", "sorites/dsafe.errStuck"], loops := true, apart := false, laid := [("sorites/dtree.errTree", laid_sorites_dtree_errTree), ("sorites/dtype.errNoRel", laid_sorites_dtype_errNoRel), ("sorites/dtype.errArity", laid_sorites_dtype_errArity), ("sorites/dtype.errType", laid_sorites_dtype_errType), ("sorites/dsafe.errStuck", laid_sorites_dsafe_errStuck)] }
def BlocksGroupsSaid : Prop := blocksGroupsRow.holds Tryz.pinned (OpenSpec.ofChange blocksGroupsSpec)

/-- ITS FALSE NEIGHBOUR: 'it returns false'. Refute it at one input. -/
def blocksGroupsWrong : ChangeSpec := { name := "blocksGroups", fn := fun _ => fun
  | [d] => { results := [.lit (.bool false)], args := [d] }
  | _ => none }
def BlocksGroupsWrongFalsely : Prop := blocksGroupsRow.holds Tryz.pinned (OpenSpec.ofChange blocksGroupsWrong)

/-- 'soriteslaw13.BlocksAll': WHATEVER THE INPUT: true; the input reads as it did. -/
def blocksAllSpec : ChangeSpec := { name := "blocksAll", fn := fun _ => fun
  | [d1, d2] => { results := [.lit (.bool true)], args := [d1, d2] }
  | _ => none }
def blocksAllRow : OpenClaim := { program := "ythaiinlfnommnaagreatdoor", sum := "bda7d5360836fe323a69b77ea16583cf63c401f317db47d91aeb0ea2a2a74cd7", func := "sorites/soriteslaw13.BlocksAll", spec := "blocksAll", inPlace := ["internal/reflectlite.TypeOf"], unfollowed := true, recurses := true, named := ["sorites/dtree.errTree", "sorites/dtype.errType", "sorites/dtype.errNoRel", "sorites/dtype.errArity", "sorites/dsafe.errStuck"], loops := true, apart := false, laid := [("sorites/dtree.errTree", laid_sorites_dtree_errTree), ("sorites/dtype.errNoRel", laid_sorites_dtype_errNoRel), ("sorites/dtype.errArity", laid_sorites_dtype_errArity), ("sorites/dtype.errType", laid_sorites_dtype_errType), ("sorites/dsafe.errStuck", laid_sorites_dsafe_errStuck)] }
def BlocksAllSaid : Prop := blocksAllRow.holds Tryz.pinned (OpenSpec.ofChange blocksAllSpec)

/-- ITS FALSE NEIGHBOUR: 'it returns false'. Refute it at one input. -/
def blocksAllWrong : ChangeSpec := { name := "blocksAll", fn := fun _ => fun
  | [d1, d2] => { results := [.lit (.bool false)], args := [d1, d2] }
  | _ => none }
def BlocksAllWrongFalsely : Prop := blocksAllRow.holds Tryz.pinned (OpenSpec.ofChange blocksAllWrong)

/-- 'soriteslaw11.QueryOf': WHATEVER THE INPUT: true; the input reads as it did. -/
def queryOfSpec : ChangeSpec := { name := "queryOf", fn := fun _ => fun
  | [d1, d2] => { results := [.lit (.bool true)], args := [d1, d2] }
  | _ => none }
def queryOfRow : OpenClaim := { program := "ythaiinlfnommnaagreatdoor", sum := "bda7d5360836fe323a69b77ea16583cf63c401f317db47d91aeb0ea2a2a74cd7", func := "sorites/soriteslaw11.QueryOf", spec := "queryOf", inPlace := ["internal/reflectlite.TypeOf", "maps.clone"], unfollowed := true, recurses := true, named := ["sorites/dtree.errTree", "sorites/dtype.errType", "sorites/dtype.errNoRel", "sorites/dtype.errArity", "sorites/dsafe.errStuck"], loops := true, apart := false, laid := [("sorites/dtree.errTree", laid_sorites_dtree_errTree), ("sorites/dtype.errNoRel", laid_sorites_dtype_errNoRel), ("sorites/dtype.errArity", laid_sorites_dtype_errArity), ("sorites/dtype.errType", laid_sorites_dtype_errType), ("sorites/dsafe.errStuck", laid_sorites_dsafe_errStuck)] }
def QueryOfSaid : Prop := queryOfRow.holds Tryz.pinned (OpenSpec.ofChange queryOfSpec)

/-- ITS FALSE NEIGHBOUR: 'it returns false'. Refute it at one input. -/
def queryOfWrong : ChangeSpec := { name := "queryOf", fn := fun _ => fun
  | [d1, d2] => { results := [.lit (.bool false)], args := [d1, d2] }
  | _ => none }
def QueryOfWrongFalsely : Prop := queryOfRow.holds Tryz.pinned (OpenSpec.ofChange queryOfWrong)

/-- 'soriteslaw11.QueryCols': WHATEVER THE INPUT: true; the input reads as it did. -/
def queryColsSpec : ChangeSpec := { name := "queryCols", fn := fun _ => fun
  | [d1, d2] => { results := [.lit (.bool true)], args := [d1, d2] }
  | _ => none }
def queryColsRow : OpenClaim := { program := "ythaiinlfnommnaagreatdoor", sum := "bda7d5360836fe323a69b77ea16583cf63c401f317db47d91aeb0ea2a2a74cd7", func := "sorites/soriteslaw11.QueryCols", spec := "queryCols", inPlace := ["internal/reflectlite.TypeOf", "maps.clone"], unfollowed := true, recurses := true, named := ["sorites/dtree.errTree", "sorites/dtype.errType", "sorites/dtype.errNoRel", "sorites/dtype.errArity", "sorites/dsafe.errStuck"], loops := true, apart := false, laid := [("sorites/dtree.errTree", laid_sorites_dtree_errTree), ("sorites/dtype.errNoRel", laid_sorites_dtype_errNoRel), ("sorites/dtype.errArity", laid_sorites_dtype_errArity), ("sorites/dtype.errType", laid_sorites_dtype_errType), ("sorites/dsafe.errStuck", laid_sorites_dsafe_errStuck)] }
def QueryColsSaid : Prop := queryColsRow.holds Tryz.pinned (OpenSpec.ofChange queryColsSpec)

/-- ITS FALSE NEIGHBOUR: 'it returns false'. Refute it at one input. -/
def queryColsWrong : ChangeSpec := { name := "queryCols", fn := fun _ => fun
  | [d1, d2] => { results := [.lit (.bool false)], args := [d1, d2] }
  | _ => none }
def QueryColsWrongFalsely : Prop := queryColsRow.holds Tryz.pinned (OpenSpec.ofChange queryColsWrong)

/-- 'soriteslaw13.BlocksHang': WHATEVER THE INPUT: true; the input reads as it did. -/
def blocksHangSpec : ChangeSpec := { name := "blocksHang", fn := fun _ => fun
  | [d] => { results := [.lit (.bool true)], args := [d] }
  | _ => none }
def blocksHangRow : OpenClaim := { program := "ythaiinlfnommnaagreatdoor", sum := "bda7d5360836fe323a69b77ea16583cf63c401f317db47d91aeb0ea2a2a74cd7", func := "sorites/soriteslaw13.BlocksHang", spec := "blocksHang", inPlace := ["internal/reflectlite.TypeOf"], unfollowed := true, recurses := true, named := ["sorites/dtree.errTree", "sorites/dtype.errType", "sorites/dtype.errNoRel", "sorites/dtype.errArity", "sorites/dsafe.errStuck"], loops := true, apart := false, laid := [("sorites/dtree.errTree", laid_sorites_dtree_errTree), ("sorites/dtype.errNoRel", laid_sorites_dtype_errNoRel), ("sorites/dtype.errArity", laid_sorites_dtype_errArity), ("sorites/dtype.errType", laid_sorites_dtype_errType), ("sorites/dsafe.errStuck", laid_sorites_dsafe_errStuck)] }
def BlocksHangSaid : Prop := blocksHangRow.holds Tryz.pinned (OpenSpec.ofChange blocksHangSpec)

/-- ITS FALSE NEIGHBOUR: 'it returns false'. Refute it at one input. -/
def blocksHangWrong : ChangeSpec := { name := "blocksHang", fn := fun _ => fun
  | [d] => { results := [.lit (.bool false)], args := [d] }
  | _ => none }
def BlocksHangWrongFalsely : Prop := blocksHangRow.holds Tryz.pinned (OpenSpec.ofChange blocksHangWrong)

/-- 'soriteslaw13.BlocksTurns': WHATEVER THE INPUT: true; the input reads as it did. -/
def blocksTurnsSpec : ChangeSpec := { name := "blocksTurns", fn := fun _ => fun
  | [d] => { results := [.lit (.bool true)], args := [d] }
  | _ => none }
def blocksTurnsRow : OpenClaim := { program := "ythaiinlfnommnaagreatdoor", sum := "bda7d5360836fe323a69b77ea16583cf63c401f317db47d91aeb0ea2a2a74cd7", func := "sorites/soriteslaw13.BlocksTurns", spec := "blocksTurns", inPlace := ["internal/reflectlite.TypeOf"], unfollowed := true, recurses := true, named := ["sorites/dtree.errTree", "sorites/dtype.errType", "sorites/dtype.errNoRel", "sorites/dtype.errArity", "sorites/dsafe.errStuck"], loops := true, apart := false, laid := [("sorites/dtree.errTree", laid_sorites_dtree_errTree), ("sorites/dtype.errNoRel", laid_sorites_dtype_errNoRel), ("sorites/dtype.errArity", laid_sorites_dtype_errArity), ("sorites/dtype.errType", laid_sorites_dtype_errType), ("sorites/dsafe.errStuck", laid_sorites_dsafe_errStuck)] }
def BlocksTurnsSaid : Prop := blocksTurnsRow.holds Tryz.pinned (OpenSpec.ofChange blocksTurnsSpec)

/-- ITS FALSE NEIGHBOUR: 'it returns false'. Refute it at one input. -/
def blocksTurnsWrong : ChangeSpec := { name := "blocksTurns", fn := fun _ => fun
  | [d] => { results := [.lit (.bool false)], args := [d] }
  | _ => none }
def BlocksTurnsWrongFalsely : Prop := blocksTurnsRow.holds Tryz.pinned (OpenSpec.ofChange blocksTurnsWrong)

/- THE SECOND FORM. 'bulk': how many values and letters a reading holds, each counted each time it is reached (what is shared counts as often as it is met; a slice's spare places count too). A statement '..UptoSaid' is the law's where the arguments, and the package variables that the reading takes, are together of bulk at most 1048576: NARROWER than '..Said'. Prove '..Said' where nothing that the law and all that it calls make is longer than what came in: it says more and counts as full. Else prove '..UptoSaid'. A law counts once. -/
mutual
def uptoBulk {H : Type} : DataW H → Nat
  | .lit (.string bytes) => bytes.length + 1
  | .lit _ => 1
  | .nil => 1
  | .ptr d => uptoBulk d + 1
  | .slice elems spare => uptoBulkAll elems + uptoBulkAll spare + 1
  | .agg parts => uptoBulkAll parts + 1
  | .iface _ d => uptoBulk d + 1
  | .map entries => uptoBulkEntries entries + 1
  | .held _ => 1
def uptoBulkAll {H : Type} : List (DataW H) → Nat
  | [] => 0
  | d :: r => uptoBulk d + uptoBulkAll r
def uptoBulkEntries {H : Type} : List (Lit × DataW H) → Nat
  | [] => 0
  | x :: r => uptoBulkEntry x + uptoBulkEntries r
def uptoBulkEntry {H : Type} : Lit × DataW H → Nat
  | (.string bytes, d) => bytes.length + uptoBulk d + 1
  | (_, d) => uptoBulk d + 1
 end
def uptoSmall : (H : Type) → List (DataW H) → Bool := fun _ ds => decide (uptoBulkAll ds ≤ 1048576)
def OpenSpec.upto (s : _root_.Go.ChangeSpec) : _root_.Go.OpenSpec := { _root_.Go.OpenSpec.ofChange s with cond := some uptoSmall }

/-- 'soriteslaw13.BlocksOf', WHERE WHAT IT READS IS OF BULK AT MOST 1048576: true; the input reads as it did. -/
def blocksOfUptoRow : OpenClaim := { program := "ythaiinlfnommnaagreatdoor", sum := "bda7d5360836fe323a69b77ea16583cf63c401f317db47d91aeb0ea2a2a74cd7", func := "sorites/soriteslaw13.BlocksOf", spec := "blocksOf", inPlace := ["internal/reflectlite.TypeOf"], unfollowed := true, recurses := true, named := ["sorites/dtree.errTree", "sorites/dtype.errType", "sorites/dtype.errNoRel", "sorites/dtype.errArity", "sorites/dsafe.errStuck"], loops := true, apart := false, laid := [("sorites/dtree.errTree", laid_sorites_dtree_errTree), ("sorites/dtype.errNoRel", laid_sorites_dtype_errNoRel), ("sorites/dtype.errArity", laid_sorites_dtype_errArity), ("sorites/dtype.errType", laid_sorites_dtype_errType), ("sorites/dsafe.errStuck", laid_sorites_dsafe_errStuck)], narrowed := true }
def BlocksOfUptoSaid : Prop := blocksOfUptoRow.holds Tryz.pinned (OpenSpec.upto blocksOfSpec)

/-- 'soriteslaw13.BlocksGroups', WHERE WHAT IT READS IS OF BULK AT MOST 1048576: true; the input reads as it did. -/
def blocksGroupsUptoRow : OpenClaim := { program := "ythaiinlfnommnaagreatdoor", sum := "bda7d5360836fe323a69b77ea16583cf63c401f317db47d91aeb0ea2a2a74cd7", func := "sorites/soriteslaw13.BlocksGroups", spec := "blocksGroups", inPlace := ["internal/reflectlite.TypeOf"], unfollowed := true, recurses := true, named := ["sorites/dtree.errTree", "sorites/dtype.errType", "sorites/dtype.errNoRel", "sorites/dtype.errArity", "sorites/dsafe.errStuck"], loops := true, apart := false, laid := [("sorites/dtree.errTree", laid_sorites_dtree_errTree), ("sorites/dtype.errNoRel", laid_sorites_dtype_errNoRel), ("sorites/dtype.errArity", laid_sorites_dtype_errArity), ("sorites/dtype.errType", laid_sorites_dtype_errType), ("sorites/dsafe.errStuck", laid_sorites_dsafe_errStuck)], narrowed := true }
def BlocksGroupsUptoSaid : Prop := blocksGroupsUptoRow.holds Tryz.pinned (OpenSpec.upto blocksGroupsSpec)

/-- 'soriteslaw13.BlocksAll', WHERE WHAT IT READS IS OF BULK AT MOST 1048576: true; the input reads as it did. -/
def blocksAllUptoRow : OpenClaim := { program := "ythaiinlfnommnaagreatdoor", sum := "bda7d5360836fe323a69b77ea16583cf63c401f317db47d91aeb0ea2a2a74cd7", func := "sorites/soriteslaw13.BlocksAll", spec := "blocksAll", inPlace := ["internal/reflectlite.TypeOf"], unfollowed := true, recurses := true, named := ["sorites/dtree.errTree", "sorites/dtype.errType", "sorites/dtype.errNoRel", "sorites/dtype.errArity", "sorites/dsafe.errStuck"], loops := true, apart := false, laid := [("sorites/dtree.errTree", laid_sorites_dtree_errTree), ("sorites/dtype.errNoRel", laid_sorites_dtype_errNoRel), ("sorites/dtype.errArity", laid_sorites_dtype_errArity), ("sorites/dtype.errType", laid_sorites_dtype_errType), ("sorites/dsafe.errStuck", laid_sorites_dsafe_errStuck)], narrowed := true }
def BlocksAllUptoSaid : Prop := blocksAllUptoRow.holds Tryz.pinned (OpenSpec.upto blocksAllSpec)

/-- 'soriteslaw11.QueryOf', WHERE WHAT IT READS IS OF BULK AT MOST 1048576: true; the input reads as it did. -/
def queryOfUptoRow : OpenClaim := { program := "ythaiinlfnommnaagreatdoor", sum := "bda7d5360836fe323a69b77ea16583cf63c401f317db47d91aeb0ea2a2a74cd7", func := "sorites/soriteslaw11.QueryOf", spec := "queryOf", inPlace := ["internal/reflectlite.TypeOf", "maps.clone"], unfollowed := true, recurses := true, named := ["sorites/dtree.errTree", "sorites/dtype.errType", "sorites/dtype.errNoRel", "sorites/dtype.errArity", "sorites/dsafe.errStuck"], loops := true, apart := false, laid := [("sorites/dtree.errTree", laid_sorites_dtree_errTree), ("sorites/dtype.errNoRel", laid_sorites_dtype_errNoRel), ("sorites/dtype.errArity", laid_sorites_dtype_errArity), ("sorites/dtype.errType", laid_sorites_dtype_errType), ("sorites/dsafe.errStuck", laid_sorites_dsafe_errStuck)], narrowed := true }
def QueryOfUptoSaid : Prop := queryOfUptoRow.holds Tryz.pinned (OpenSpec.upto queryOfSpec)

/-- 'soriteslaw11.QueryCols', WHERE WHAT IT READS IS OF BULK AT MOST 1048576: true; the input reads as it did. -/
def queryColsUptoRow : OpenClaim := { program := "ythaiinlfnommnaagreatdoor", sum := "bda7d5360836fe323a69b77ea16583cf63c401f317db47d91aeb0ea2a2a74cd7", func := "sorites/soriteslaw11.QueryCols", spec := "queryCols", inPlace := ["internal/reflectlite.TypeOf", "maps.clone"], unfollowed := true, recurses := true, named := ["sorites/dtree.errTree", "sorites/dtype.errType", "sorites/dtype.errNoRel", "sorites/dtype.errArity", "sorites/dsafe.errStuck"], loops := true, apart := false, laid := [("sorites/dtree.errTree", laid_sorites_dtree_errTree), ("sorites/dtype.errNoRel", laid_sorites_dtype_errNoRel), ("sorites/dtype.errArity", laid_sorites_dtype_errArity), ("sorites/dtype.errType", laid_sorites_dtype_errType), ("sorites/dsafe.errStuck", laid_sorites_dsafe_errStuck)], narrowed := true }
def QueryColsUptoSaid : Prop := queryColsUptoRow.holds Tryz.pinned (OpenSpec.upto queryColsSpec)

/-- 'soriteslaw13.BlocksHang', WHERE WHAT IT READS IS OF BULK AT MOST 1048576: true; the input reads as it did. -/
def blocksHangUptoRow : OpenClaim := { program := "ythaiinlfnommnaagreatdoor", sum := "bda7d5360836fe323a69b77ea16583cf63c401f317db47d91aeb0ea2a2a74cd7", func := "sorites/soriteslaw13.BlocksHang", spec := "blocksHang", inPlace := ["internal/reflectlite.TypeOf"], unfollowed := true, recurses := true, named := ["sorites/dtree.errTree", "sorites/dtype.errType", "sorites/dtype.errNoRel", "sorites/dtype.errArity", "sorites/dsafe.errStuck"], loops := true, apart := false, laid := [("sorites/dtree.errTree", laid_sorites_dtree_errTree), ("sorites/dtype.errNoRel", laid_sorites_dtype_errNoRel), ("sorites/dtype.errArity", laid_sorites_dtype_errArity), ("sorites/dtype.errType", laid_sorites_dtype_errType), ("sorites/dsafe.errStuck", laid_sorites_dsafe_errStuck)], narrowed := true }
def BlocksHangUptoSaid : Prop := blocksHangUptoRow.holds Tryz.pinned (OpenSpec.upto blocksHangSpec)

/-- 'soriteslaw13.BlocksTurns', WHERE WHAT IT READS IS OF BULK AT MOST 1048576: true; the input reads as it did. -/
def blocksTurnsUptoRow : OpenClaim := { program := "ythaiinlfnommnaagreatdoor", sum := "bda7d5360836fe323a69b77ea16583cf63c401f317db47d91aeb0ea2a2a74cd7", func := "sorites/soriteslaw13.BlocksTurns", spec := "blocksTurns", inPlace := ["internal/reflectlite.TypeOf"], unfollowed := true, recurses := true, named := ["sorites/dtree.errTree", "sorites/dtype.errType", "sorites/dtype.errNoRel", "sorites/dtype.errArity", "sorites/dsafe.errStuck"], loops := true, apart := false, laid := [("sorites/dtree.errTree", laid_sorites_dtree_errTree), ("sorites/dtype.errNoRel", laid_sorites_dtype_errNoRel), ("sorites/dtype.errArity", laid_sorites_dtype_errArity), ("sorites/dtype.errType", laid_sorites_dtype_errType), ("sorites/dsafe.errStuck", laid_sorites_dsafe_errStuck)], narrowed := true }
def BlocksTurnsUptoSaid : Prop := blocksTurnsUptoRow.holds Tryz.pinned (OpenSpec.upto blocksTurnsSpec)

end Rows
end Go.Proofs.YthaiinlfnommnaaGreatDoor
