/-
  NARROWER THAN 'FOR EVERY INPUT', by the rows' own cells (each row's printed sentence says how): DsafeChecks: loops, laid · DgraphGroups: loops, laid · DgraphMoves: loops, laid · DgraphLess: loops, laid · DgraphTwo: loops, laid · DgraphOnce: loops, laid · DgraphHangs: loops, laid.
  DERIVED. THE GIVEN ROWS OF THIS SEAT. 7 by the template 'for every input the law returns true; each argument reads behind the call as it read before'; 0 by the template 'total and deterministic' (their statements: YtdpmikfheebicaaGreatDoorTotals.lean).
  GIVEN WITH THE SEED: the statements are not yours to turn. If you find one false, say at which input.
  Laid BY PROGRAM, IN A SANDBOX (cutbox-rows.mjs): the forced cells as the released guide's own fill.sh prints them over the translation 4aa5041daa995bb2… (all of the seat's roots in one cut). By AI agents, Wed Nov 11 2026. No macro, syntax, notation, axiom, sorry.
-/
import Derived.Test.YtdpmikfheebicaaGreatDoorChecked
import GoSem.Claim
import GoSem.ClaimJoined
import GoSem.ClaimMapViews
import Derived.JoinedTies
import Derived.KernelRfl
namespace Go.Proofs.YtdpmikfheebicaaGreatDoor
/- THE CELL 'sum', in the pinned program and in every row, IS THE sha256 OF THE DUMP (.gsa) THAT YtdpmikfheebicaaGreatDoorProg.lean LOADS. Nothing in Lean hashes anything: it is a label: what it is worth is what the hold of that sum in a sandbox is worth. -/
noncomputable def Tryz.pinned : Pinned := { name := "ytdpmikfheebicaagreatdoor", sum := "4aa5041daa995bb256d724a5505caa06f528526371e8db869e859a83161f43fe", checked := Tryz.checked }
namespace Rows
def none {H : Type} : Left H := { results := [], args := [] }

/- WHAT THE LISTED PACKAGE-LEVEL VARIABLES READ AS WHEN THE CALL BEGINS. Each datum BY PROGRAM (the guide's laid-datum.mjs) off the statement by which the dump's own 'gosem.cut.vars' lays the variable. In a bare row this is a premise. The card (YtdpmikfheebicaaGreatDoorCards.lean) ties it to the program's text. -/
def laid_sorites_dtree_errTree {H : Type} : DataW H := .iface "*errors.errorString" (.ptr (.agg [.lit (.string [110, 111, 32, 116, 114, 101, 101])]))
def laid_sorites_dtype_errNoRel {H : Type} : DataW H := .iface "*errors.errorString" (.ptr (.agg [.lit (.string [110, 111, 32, 114, 101, 108, 97, 116, 105, 111, 110])]))
def laid_sorites_dtype_errArity {H : Type} : DataW H := .iface "*errors.errorString" (.ptr (.agg [.lit (.string [97, 110, 111, 116, 104, 101, 114, 32, 110, 117, 109, 98, 101, 114, 32, 111, 102, 32, 99, 111, 108, 117, 109, 110, 115])]))
def laid_sorites_dtype_errType {H : Type} : DataW H := .iface "*errors.errorString" (.ptr (.agg [.lit (.string [97, 110, 111, 116, 104, 101, 114, 32, 116, 121, 112, 101])]))
def laid_sorites_dsafe_errStuck {H : Type} : DataW H := .iface "*errors.errorString" (.ptr (.agg [.lit (.string [110, 111, 32, 112, 97, 114, 116, 32, 105, 115, 32, 114, 101, 97, 100, 121])]))

/-- 'soriteslaw06.DsafeChecks': WHATEVER THE INPUT: true; the input reads as it did. -/
def dsafeChecksSpec : ChangeSpec := { name := "dsafeChecks", fn := fun _ => fun
  | [d] => { results := [.lit (.bool true)], args := [d] }
  | _ => none }
def dsafeChecksRow : OpenClaim := { program := "ytdpmikfheebicaagreatdoor", sum := "4aa5041daa995bb256d724a5505caa06f528526371e8db869e859a83161f43fe", func := "sorites/soriteslaw06.DsafeChecks", spec := "dsafeChecks", inPlace := ["internal/reflectlite.TypeOf"], unfollowed := true, recurses := true, named := ["sorites/dsafe.errStuck", "sorites/dtree.errTree", "sorites/dtype.errType", "sorites/dtype.errNoRel", "sorites/dtype.errArity"], loops := true, apart := false, laid := [("sorites/dtree.errTree", laid_sorites_dtree_errTree), ("sorites/dtype.errNoRel", laid_sorites_dtype_errNoRel), ("sorites/dtype.errArity", laid_sorites_dtype_errArity), ("sorites/dtype.errType", laid_sorites_dtype_errType), ("sorites/dsafe.errStuck", laid_sorites_dsafe_errStuck)] }
def DsafeChecksSaid : Prop := dsafeChecksRow.holds Tryz.pinned (OpenSpec.ofChange dsafeChecksSpec)

/-- ITS FALSE NEIGHBOUR: 'it returns false'. Refute it at one input. -/
def dsafeChecksWrong : ChangeSpec := { name := "dsafeChecks", fn := fun _ => fun
  | [d] => { results := [.lit (.bool false)], args := [d] }
  | _ => none }
def DsafeChecksWrongFalsely : Prop := dsafeChecksRow.holds Tryz.pinned (OpenSpec.ofChange dsafeChecksWrong)

/-- 'soriteslaw07.DgraphGroups': WHATEVER THE INPUT: true; the input reads as it did. -/
def dgraphGroupsSpec : ChangeSpec := { name := "dgraphGroups", fn := fun _ => fun
  | [d] => { results := [.lit (.bool true)], args := [d] }
  | _ => none }
def dgraphGroupsRow : OpenClaim := { program := "ytdpmikfheebicaagreatdoor", sum := "4aa5041daa995bb256d724a5505caa06f528526371e8db869e859a83161f43fe", func := "sorites/soriteslaw07.DgraphGroups", spec := "dgraphGroups", inPlace := ["internal/reflectlite.TypeOf"], unfollowed := true, recurses := true, named := ["sorites/dtree.errTree", "sorites/dtype.errType", "sorites/dtype.errNoRel", "sorites/dtype.errArity", "sorites/dsafe.errStuck"], loops := true, apart := false, laid := [("sorites/dtree.errTree", laid_sorites_dtree_errTree), ("sorites/dtype.errNoRel", laid_sorites_dtype_errNoRel), ("sorites/dtype.errArity", laid_sorites_dtype_errArity), ("sorites/dtype.errType", laid_sorites_dtype_errType), ("sorites/dsafe.errStuck", laid_sorites_dsafe_errStuck)] }
def DgraphGroupsSaid : Prop := dgraphGroupsRow.holds Tryz.pinned (OpenSpec.ofChange dgraphGroupsSpec)

/-- ITS FALSE NEIGHBOUR: 'it returns false'. Refute it at one input. -/
def dgraphGroupsWrong : ChangeSpec := { name := "dgraphGroups", fn := fun _ => fun
  | [d] => { results := [.lit (.bool false)], args := [d] }
  | _ => none }
def DgraphGroupsWrongFalsely : Prop := dgraphGroupsRow.holds Tryz.pinned (OpenSpec.ofChange dgraphGroupsWrong)

/-- 'soriteslaw07.DgraphMoves': WHATEVER THE INPUT: true; the input reads as it did. -/
def dgraphMovesSpec : ChangeSpec := { name := "dgraphMoves", fn := fun _ => fun
  | [d1, d2, d3] => { results := [.lit (.bool true)], args := [d1, d2, d3] }
  | _ => none }
def dgraphMovesRow : OpenClaim := { program := "ytdpmikfheebicaagreatdoor", sum := "4aa5041daa995bb256d724a5505caa06f528526371e8db869e859a83161f43fe", func := "sorites/soriteslaw07.DgraphMoves", spec := "dgraphMoves", inPlace := ["internal/reflectlite.TypeOf"], unfollowed := true, recurses := true, named := ["sorites/dtree.errTree", "sorites/dtype.errType", "sorites/dtype.errNoRel", "sorites/dtype.errArity", "sorites/dsafe.errStuck"], loops := true, apart := false, laid := [("sorites/dtree.errTree", laid_sorites_dtree_errTree), ("sorites/dtype.errNoRel", laid_sorites_dtype_errNoRel), ("sorites/dtype.errArity", laid_sorites_dtype_errArity), ("sorites/dtype.errType", laid_sorites_dtype_errType), ("sorites/dsafe.errStuck", laid_sorites_dsafe_errStuck)] }
def DgraphMovesSaid : Prop := dgraphMovesRow.holds Tryz.pinned (OpenSpec.ofChange dgraphMovesSpec)

/-- ITS FALSE NEIGHBOUR: 'it returns false'. Refute it at one input. -/
def dgraphMovesWrong : ChangeSpec := { name := "dgraphMoves", fn := fun _ => fun
  | [d1, d2, d3] => { results := [.lit (.bool false)], args := [d1, d2, d3] }
  | _ => none }
def DgraphMovesWrongFalsely : Prop := dgraphMovesRow.holds Tryz.pinned (OpenSpec.ofChange dgraphMovesWrong)

/-- 'soriteslaw07.DgraphLess': WHATEVER THE INPUT: true; the input reads as it did. -/
def dgraphLessSpec : ChangeSpec := { name := "dgraphLess", fn := fun _ => fun
  | [d1, d2] => { results := [.lit (.bool true)], args := [d1, d2] }
  | _ => none }
def dgraphLessRow : OpenClaim := { program := "ytdpmikfheebicaagreatdoor", sum := "4aa5041daa995bb256d724a5505caa06f528526371e8db869e859a83161f43fe", func := "sorites/soriteslaw07.DgraphLess", spec := "dgraphLess", inPlace := ["internal/reflectlite.TypeOf"], unfollowed := true, recurses := true, named := ["sorites/dtree.errTree", "sorites/dtype.errType", "sorites/dtype.errNoRel", "sorites/dtype.errArity", "sorites/dsafe.errStuck"], loops := true, apart := false, laid := [("sorites/dtree.errTree", laid_sorites_dtree_errTree), ("sorites/dtype.errNoRel", laid_sorites_dtype_errNoRel), ("sorites/dtype.errArity", laid_sorites_dtype_errArity), ("sorites/dtype.errType", laid_sorites_dtype_errType), ("sorites/dsafe.errStuck", laid_sorites_dsafe_errStuck)] }
def DgraphLessSaid : Prop := dgraphLessRow.holds Tryz.pinned (OpenSpec.ofChange dgraphLessSpec)

/-- ITS FALSE NEIGHBOUR: 'it returns false'. Refute it at one input. -/
def dgraphLessWrong : ChangeSpec := { name := "dgraphLess", fn := fun _ => fun
  | [d1, d2] => { results := [.lit (.bool false)], args := [d1, d2] }
  | _ => none }
def DgraphLessWrongFalsely : Prop := dgraphLessRow.holds Tryz.pinned (OpenSpec.ofChange dgraphLessWrong)

/-- 'soriteslaw07.DgraphTwo': WHATEVER THE INPUT: true; the input reads as it did. -/
def dgraphTwoSpec : ChangeSpec := { name := "dgraphTwo", fn := fun _ => fun
  | [d1, d2, d3, d4] => { results := [.lit (.bool true)], args := [d1, d2, d3, d4] }
  | _ => none }
def dgraphTwoRow : OpenClaim := { program := "ytdpmikfheebicaagreatdoor", sum := "4aa5041daa995bb256d724a5505caa06f528526371e8db869e859a83161f43fe", func := "sorites/soriteslaw07.DgraphTwo", spec := "dgraphTwo", inPlace := ["internal/reflectlite.TypeOf"], unfollowed := true, recurses := true, named := ["sorites/dtree.errTree", "sorites/dtype.errType", "sorites/dtype.errNoRel", "sorites/dtype.errArity", "sorites/dsafe.errStuck"], loops := true, apart := false, laid := [("sorites/dtree.errTree", laid_sorites_dtree_errTree), ("sorites/dtype.errNoRel", laid_sorites_dtype_errNoRel), ("sorites/dtype.errArity", laid_sorites_dtype_errArity), ("sorites/dtype.errType", laid_sorites_dtype_errType), ("sorites/dsafe.errStuck", laid_sorites_dsafe_errStuck)] }
def DgraphTwoSaid : Prop := dgraphTwoRow.holds Tryz.pinned (OpenSpec.ofChange dgraphTwoSpec)

/-- ITS FALSE NEIGHBOUR: 'it returns false'. Refute it at one input. -/
def dgraphTwoWrong : ChangeSpec := { name := "dgraphTwo", fn := fun _ => fun
  | [d1, d2, d3, d4] => { results := [.lit (.bool false)], args := [d1, d2, d3, d4] }
  | _ => none }
def DgraphTwoWrongFalsely : Prop := dgraphTwoRow.holds Tryz.pinned (OpenSpec.ofChange dgraphTwoWrong)

/-- 'soriteslaw07.DgraphOnce': WHATEVER THE INPUT: true; the input reads as it did. -/
def dgraphOnceSpec : ChangeSpec := { name := "dgraphOnce", fn := fun _ => fun
  | [d1, d2, d3] => { results := [.lit (.bool true)], args := [d1, d2, d3] }
  | _ => none }
def dgraphOnceRow : OpenClaim := { program := "ytdpmikfheebicaagreatdoor", sum := "4aa5041daa995bb256d724a5505caa06f528526371e8db869e859a83161f43fe", func := "sorites/soriteslaw07.DgraphOnce", spec := "dgraphOnce", inPlace := ["internal/reflectlite.TypeOf"], unfollowed := true, recurses := true, named := ["sorites/dtree.errTree", "sorites/dtype.errType", "sorites/dtype.errNoRel", "sorites/dtype.errArity", "sorites/dsafe.errStuck"], loops := true, apart := false, laid := [("sorites/dtree.errTree", laid_sorites_dtree_errTree), ("sorites/dtype.errNoRel", laid_sorites_dtype_errNoRel), ("sorites/dtype.errArity", laid_sorites_dtype_errArity), ("sorites/dtype.errType", laid_sorites_dtype_errType), ("sorites/dsafe.errStuck", laid_sorites_dsafe_errStuck)] }
def DgraphOnceSaid : Prop := dgraphOnceRow.holds Tryz.pinned (OpenSpec.ofChange dgraphOnceSpec)

/-- ITS FALSE NEIGHBOUR: 'it returns false'. Refute it at one input. -/
def dgraphOnceWrong : ChangeSpec := { name := "dgraphOnce", fn := fun _ => fun
  | [d1, d2, d3] => { results := [.lit (.bool false)], args := [d1, d2, d3] }
  | _ => none }
def DgraphOnceWrongFalsely : Prop := dgraphOnceRow.holds Tryz.pinned (OpenSpec.ofChange dgraphOnceWrong)

/-- 'soriteslaw07.DgraphHangs': WHATEVER THE INPUT: true; the input reads as it did. -/
def dgraphHangsSpec : ChangeSpec := { name := "dgraphHangs", fn := fun _ => fun
  | [d1, d2, d3, d4] => { results := [.lit (.bool true)], args := [d1, d2, d3, d4] }
  | _ => none }
def dgraphHangsRow : OpenClaim := { program := "ytdpmikfheebicaagreatdoor", sum := "4aa5041daa995bb256d724a5505caa06f528526371e8db869e859a83161f43fe", func := "sorites/soriteslaw07.DgraphHangs", spec := "dgraphHangs", inPlace := ["internal/reflectlite.TypeOf"], unfollowed := true, recurses := true, named := ["sorites/dtree.errTree", "sorites/dtype.errType", "sorites/dtype.errNoRel", "sorites/dtype.errArity", "sorites/dsafe.errStuck"], loops := true, apart := false, laid := [("sorites/dtree.errTree", laid_sorites_dtree_errTree), ("sorites/dtype.errNoRel", laid_sorites_dtype_errNoRel), ("sorites/dtype.errArity", laid_sorites_dtype_errArity), ("sorites/dtype.errType", laid_sorites_dtype_errType), ("sorites/dsafe.errStuck", laid_sorites_dsafe_errStuck)] }
def DgraphHangsSaid : Prop := dgraphHangsRow.holds Tryz.pinned (OpenSpec.ofChange dgraphHangsSpec)

/-- ITS FALSE NEIGHBOUR: 'it returns false'. Refute it at one input. -/
def dgraphHangsWrong : ChangeSpec := { name := "dgraphHangs", fn := fun _ => fun
  | [d1, d2, d3, d4] => { results := [.lit (.bool false)], args := [d1, d2, d3, d4] }
  | _ => none }
def DgraphHangsWrongFalsely : Prop := dgraphHangsRow.holds Tryz.pinned (OpenSpec.ofChange dgraphHangsWrong)

/- THE SECOND FORM. 'bulk': how many values and letters a reading holds, each counted each time it is reached (what is shared counts as often as it is met; a slice's spare places count too). A statement '..UptoSaid' is the law's where the arguments, and the package variables that the reading takes, are together of bulk at most 1048576: NARROWER than '..Said'. Prove '..Said' where nothing that the law and all that it calls make is longer than what came in: it says more and counts as full. Else prove '..UptoSaid'. A law counts once. -/
mutual
def uptoBulk {H : Type} : DataW H → Nat
  | .lit (.string bytes) => bytes.length + 1
  | .lit _ => 1
  | .nil => 1
  | .ptr d => uptoBulk d + 1
  | .slice elems spare => uptoBulkAll elems + uptoBulkAll spare + 1
  | .agg parts => uptoBulkAll parts + 1
  | .iface _ d => uptoBulk d + 1
  | .map entries => uptoBulkEntries entries + 1
  | .held _ => 1
def uptoBulkAll {H : Type} : List (DataW H) → Nat
  | [] => 0
  | d :: r => uptoBulk d + uptoBulkAll r
def uptoBulkEntries {H : Type} : List (Lit × DataW H) → Nat
  | [] => 0
  | x :: r => uptoBulkEntry x + uptoBulkEntries r
def uptoBulkEntry {H : Type} : Lit × DataW H → Nat
  | (.string bytes, d) => bytes.length + uptoBulk d + 1
  | (_, d) => uptoBulk d + 1
 end
def uptoSmall : (H : Type) → List (DataW H) → Bool := fun _ ds => decide (uptoBulkAll ds ≤ 1048576)
def OpenSpec.upto (s : _root_.Go.ChangeSpec) : _root_.Go.OpenSpec := { _root_.Go.OpenSpec.ofChange s with cond := some uptoSmall }

/-- 'soriteslaw06.DsafeChecks', WHERE WHAT IT READS IS OF BULK AT MOST 1048576: true; the input reads as it did. -/
def dsafeChecksUptoRow : OpenClaim := { program := "ytdpmikfheebicaagreatdoor", sum := "4aa5041daa995bb256d724a5505caa06f528526371e8db869e859a83161f43fe", func := "sorites/soriteslaw06.DsafeChecks", spec := "dsafeChecks", inPlace := ["internal/reflectlite.TypeOf"], unfollowed := true, recurses := true, named := ["sorites/dsafe.errStuck", "sorites/dtree.errTree", "sorites/dtype.errType", "sorites/dtype.errNoRel", "sorites/dtype.errArity"], loops := true, apart := false, laid := [("sorites/dtree.errTree", laid_sorites_dtree_errTree), ("sorites/dtype.errNoRel", laid_sorites_dtype_errNoRel), ("sorites/dtype.errArity", laid_sorites_dtype_errArity), ("sorites/dtype.errType", laid_sorites_dtype_errType), ("sorites/dsafe.errStuck", laid_sorites_dsafe_errStuck)], narrowed := true }
def DsafeChecksUptoSaid : Prop := dsafeChecksUptoRow.holds Tryz.pinned (OpenSpec.upto dsafeChecksSpec)

/-- 'soriteslaw07.DgraphGroups', WHERE WHAT IT READS IS OF BULK AT MOST 1048576: true; the input reads as it did. -/
def dgraphGroupsUptoRow : OpenClaim := { program := "ytdpmikfheebicaagreatdoor", sum := "4aa5041daa995bb256d724a5505caa06f528526371e8db869e859a83161f43fe", func := "sorites/soriteslaw07.DgraphGroups", spec := "dgraphGroups", inPlace := ["internal/reflectlite.TypeOf"], unfollowed := true, recurses := true, named := ["sorites/dtree.errTree", "sorites/dtype.errType", "sorites/dtype.errNoRel", "sorites/dtype.errArity", "sorites/dsafe.errStuck"], loops := true, apart := false, laid := [("sorites/dtree.errTree", laid_sorites_dtree_errTree), ("sorites/dtype.errNoRel", laid_sorites_dtype_errNoRel), ("sorites/dtype.errArity", laid_sorites_dtype_errArity), ("sorites/dtype.errType", laid_sorites_dtype_errType), ("sorites/dsafe.errStuck", laid_sorites_dsafe_errStuck)], narrowed := true }
def DgraphGroupsUptoSaid : Prop := dgraphGroupsUptoRow.holds Tryz.pinned (OpenSpec.upto dgraphGroupsSpec)

/-- 'soriteslaw07.DgraphMoves', WHERE WHAT IT READS IS OF BULK AT MOST 1048576: true; the input reads as it did. -/
def dgraphMovesUptoRow : OpenClaim := { program := "ytdpmikfheebicaagreatdoor", sum := "4aa5041daa995bb256d724a5505caa06f528526371e8db869e859a83161f43fe", func := "sorites/soriteslaw07.DgraphMoves", spec := "dgraphMoves", inPlace := ["internal/reflectlite.TypeOf"], unfollowed := true, recurses := true, named := ["sorites/dtree.errTree", "sorites/dtype.errType", "sorites/dtype.errNoRel", "sorites/dtype.errArity", "sorites/dsafe.errStuck"], loops := true, apart := false, laid := [("sorites/dtree.errTree", laid_sorites_dtree_errTree), ("sorites/dtype.errNoRel", laid_sorites_dtype_errNoRel), ("sorites/dtype.errArity", laid_sorites_dtype_errArity), ("sorites/dtype.errType", laid_sorites_dtype_errType), ("sorites/dsafe.errStuck", laid_sorites_dsafe_errStuck)], narrowed := true }
def DgraphMovesUptoSaid : Prop := dgraphMovesUptoRow.holds Tryz.pinned (OpenSpec.upto dgraphMovesSpec)

/-- 'soriteslaw07.DgraphLess', WHERE WHAT IT READS IS OF BULK AT MOST 1048576: true; the input reads as it did. -/
def dgraphLessUptoRow : OpenClaim := { program := "ytdpmikfheebicaagreatdoor", sum := "4aa5041daa995bb256d724a5505caa06f528526371e8db869e859a83161f43fe", func := "sorites/soriteslaw07.DgraphLess", spec := "dgraphLess", inPlace := ["internal/reflectlite.TypeOf"], unfollowed := true, recurses := true, named := ["sorites/dtree.errTree", "sorites/dtype.errType", "sorites/dtype.errNoRel", "sorites/dtype.errArity", "sorites/dsafe.errStuck"], loops := true, apart := false, laid := [("sorites/dtree.errTree", laid_sorites_dtree_errTree), ("sorites/dtype.errNoRel", laid_sorites_dtype_errNoRel), ("sorites/dtype.errArity", laid_sorites_dtype_errArity), ("sorites/dtype.errType", laid_sorites_dtype_errType), ("sorites/dsafe.errStuck", laid_sorites_dsafe_errStuck)], narrowed := true }
def DgraphLessUptoSaid : Prop := dgraphLessUptoRow.holds Tryz.pinned (OpenSpec.upto dgraphLessSpec)

/-- 'soriteslaw07.DgraphTwo', WHERE WHAT IT READS IS OF BULK AT MOST 1048576: true; the input reads as it did. -/
def dgraphTwoUptoRow : OpenClaim := { program := "ytdpmikfheebicaagreatdoor", sum := "4aa5041daa995bb256d724a5505caa06f528526371e8db869e859a83161f43fe", func := "sorites/soriteslaw07.DgraphTwo", spec := "dgraphTwo", inPlace := ["internal/reflectlite.TypeOf"], unfollowed := true, recurses := true, named := ["sorites/dtree.errTree", "sorites/dtype.errType", "sorites/dtype.errNoRel", "sorites/dtype.errArity", "sorites/dsafe.errStuck"], loops := true, apart := false, laid := [("sorites/dtree.errTree", laid_sorites_dtree_errTree), ("sorites/dtype.errNoRel", laid_sorites_dtype_errNoRel), ("sorites/dtype.errArity", laid_sorites_dtype_errArity), ("sorites/dtype.errType", laid_sorites_dtype_errType), ("sorites/dsafe.errStuck", laid_sorites_dsafe_errStuck)], narrowed := true }
def DgraphTwoUptoSaid : Prop := dgraphTwoUptoRow.holds Tryz.pinned (OpenSpec.upto dgraphTwoSpec)

/-- 'soriteslaw07.DgraphOnce', WHERE WHAT IT READS IS OF BULK AT MOST 1048576: true; the input reads as it did. -/
def dgraphOnceUptoRow : OpenClaim := { program := "ytdpmikfheebicaagreatdoor", sum := "4aa5041daa995bb256d724a5505caa06f528526371e8db869e859a83161f43fe", func := "sorites/soriteslaw07.DgraphOnce", spec := "dgraphOnce", inPlace := ["internal/reflectlite.TypeOf"], unfollowed := true, recurses := true, named := ["sorites/dtree.errTree", "sorites/dtype.errType", "sorites/dtype.errNoRel", "sorites/dtype.errArity", "sorites/dsafe.errStuck"], loops := true, apart := false, laid := [("sorites/dtree.errTree", laid_sorites_dtree_errTree), ("sorites/dtype.errNoRel", laid_sorites_dtype_errNoRel), ("sorites/dtype.errArity", laid_sorites_dtype_errArity), ("sorites/dtype.errType", laid_sorites_dtype_errType), ("sorites/dsafe.errStuck", laid_sorites_dsafe_errStuck)], narrowed := true }
def DgraphOnceUptoSaid : Prop := dgraphOnceUptoRow.holds Tryz.pinned (OpenSpec.upto dgraphOnceSpec)

/-- 'soriteslaw07.DgraphHangs', WHERE WHAT IT READS IS OF BULK AT MOST 1048576: true; the input reads as it did. -/
def dgraphHangsUptoRow : OpenClaim := { program := "ytdpmikfheebicaagreatdoor", sum := "4aa5041daa995bb256d724a5505caa06f528526371e8db869e859a83161f43fe", func := "sorites/soriteslaw07.DgraphHangs", spec := "dgraphHangs", inPlace := ["internal/reflectlite.TypeOf"], unfollowed := true, recurses := true, named := ["sorites/dtree.errTree", "sorites/dtype.errType", "sorites/dtype.errNoRel", "sorites/dtype.errArity", "sorites/dsafe.errStuck"], loops := true, apart := false, laid := [("sorites/dtree.errTree", laid_sorites_dtree_errTree), ("sorites/dtype.errNoRel", laid_sorites_dtype_errNoRel), ("sorites/dtype.errArity", laid_sorites_dtype_errArity), ("sorites/dtype.errType", laid_sorites_dtype_errType), ("sorites/dsafe.errStuck", laid_sorites_dsafe_errStuck)], narrowed := true }
def DgraphHangsUptoSaid : Prop := dgraphHangsUptoRow.holds Tryz.pinned (OpenSpec.upto dgraphHangsSpec)

end Rows
end Go.Proofs.YtdpmikfheebicaaGreatDoor
