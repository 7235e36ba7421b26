/-
  NARROWER THAN 'FOR EVERY INPUT', by the rows' own cells (each row's printed sentence says how): QueryCols: loops, laid · QueryParts: loops, laid · ModelMoves: loops, laid · ModelLimits: loops, laid · ModelGrows: loops, laid · ModelCloses: loops, laid · QueryGives: loops, laid · ModelFacts: loops, laid.
  DERIVED. THE GIVEN ROWS OF THIS SEAT. 8 by the template 'for every input the law returns true; each argument reads behind the call as it read before'; 0 by the template 'total and deterministic' (their statements: YtioeffnadipbaaaGreatDoorTotals.lean).
  GIVEN WITH THE SEED: the statements are not yours to turn. If you find one false, say at which input.
  Laid BY PROGRAM, IN A SANDBOX (cutbox-rows.mjs): the forced cells as the released guide's own fill.sh prints them over the translation ee83b8a240b64fbd… (all of the seat's roots in one cut). By AI agents, Wed Nov 11 2026. No macro, syntax, notation, axiom, sorry.
-/
import Derived.Test.YtioeffnadipbaaaGreatDoorChecked
import GoSem.Claim
import GoSem.ClaimJoined
import GoSem.ClaimMapViews
import Derived.JoinedTies
import Derived.KernelRfl
namespace Go.Proofs.YtioeffnadipbaaaGreatDoor
/- THE CELL 'sum', in the pinned program and in every row, IS THE sha256 OF THE DUMP (.gsa) THAT YtioeffnadipbaaaGreatDoorProg.lean LOADS. Nothing in Lean hashes anything: it is a label: what it is worth is what the hold of that sum in a sandbox is worth. -/
noncomputable def Tryz.pinned : Pinned := { name := "ytioeffnadipbaaagreatdoor", sum := "ee83b8a240b64fbd90d1b9e6738e8638760b2bbe6b9fb8c7b06e21f13848d5c6", checked := Tryz.checked }
namespace Rows
def none {H : Type} : Left H := { results := [], args := [] }

/- WHAT THE LISTED PACKAGE-LEVEL VARIABLES READ AS WHEN THE CALL BEGINS. Each datum BY PROGRAM (the guide's laid-datum.mjs) off the statement by which the dump's own 'gosem.cut.vars' lays the variable. In a bare row this is a premise. The card (YtioeffnadipbaaaGreatDoorCards.lean) ties it to the program's text. -/
def laid_sorites_dtree_errTree {H : Type} : DataW H := .iface "*errors.errorString" (.ptr (.agg [.lit (.string [110, 111, 32, 116, 114, 101, 101])]))
def laid_sorites_dtype_errNoRel {H : Type} : DataW H := .iface "*errors.errorString" (.ptr (.agg [.lit (.string [110, 111, 32, 114, 101, 108, 97, 116, 105, 111, 110])]))
def laid_sorites_dtype_errArity {H : Type} : DataW H := .iface "*errors.errorString" (.ptr (.agg [.lit (.string [97, 110, 111, 116, 104, 101, 114, 32, 110, 117, 109, 98, 101, 114, 32, 111, 102, 32, 99, 111, 108, 117, 109, 110, 115])]))
def laid_sorites_dtype_errType {H : Type} : DataW H := .iface "*errors.errorString" (.ptr (.agg [.lit (.string [97, 110, 111, 116, 104, 101, 114, 32, 116, 121, 112, 101])]))
def laid_sorites_dsafe_errStuck {H : Type} : DataW H := .iface "*errors.errorString" (.ptr (.agg [.lit (.string [110, 111, 32, 112, 97, 114, 116, 32, 105, 115, 32, 114, 101, 97, 100, 121])]))

/-- 'soriteslaw11.QueryCols': WHATEVER THE INPUT: true; the input reads as it did. -/
def queryColsSpec : ChangeSpec := { name := "queryCols", fn := fun _ => fun
  | [d1, d2] => { results := [.lit (.bool true)], args := [d1, d2] }
  | _ => none }
def queryColsRow : OpenClaim := { program := "ytioeffnadipbaaagreatdoor", sum := "ee83b8a240b64fbd90d1b9e6738e8638760b2bbe6b9fb8c7b06e21f13848d5c6", func := "sorites/soriteslaw11.QueryCols", spec := "queryCols", inPlace := ["internal/reflectlite.TypeOf", "maps.clone"], unfollowed := true, recurses := true, named := ["sorites/dtree.errTree", "sorites/dtype.errType", "sorites/dtype.errNoRel", "sorites/dtype.errArity", "sorites/dsafe.errStuck"], loops := true, apart := false, laid := [("sorites/dtree.errTree", laid_sorites_dtree_errTree), ("sorites/dtype.errNoRel", laid_sorites_dtype_errNoRel), ("sorites/dtype.errArity", laid_sorites_dtype_errArity), ("sorites/dtype.errType", laid_sorites_dtype_errType), ("sorites/dsafe.errStuck", laid_sorites_dsafe_errStuck)] }
def QueryColsSaid : Prop := queryColsRow.holds Tryz.pinned (OpenSpec.ofChange queryColsSpec)

/-- ITS FALSE NEIGHBOUR: 'it returns false'. Refute it at one input. -/
def queryColsWrong : ChangeSpec := { name := "queryCols", fn := fun _ => fun
  | [d1, d2] => { results := [.lit (.bool false)], args := [d1, d2] }
  | _ => none }
def QueryColsWrongFalsely : Prop := queryColsRow.holds Tryz.pinned (OpenSpec.ofChange queryColsWrong)

/-- 'soriteslaw11.QueryParts': WHATEVER THE INPUT: true; the input reads as it did. -/
def queryPartsSpec : ChangeSpec := { name := "queryParts", fn := fun _ => fun
  | [d1, d2, d3, d4, d5] => { results := [.lit (.bool true)], args := [d1, d2, d3, d4, d5] }
  | _ => none }
def queryPartsRow : OpenClaim := { program := "ytioeffnadipbaaagreatdoor", sum := "ee83b8a240b64fbd90d1b9e6738e8638760b2bbe6b9fb8c7b06e21f13848d5c6", func := "sorites/soriteslaw11.QueryParts", spec := "queryParts", inPlace := ["internal/reflectlite.TypeOf", "maps.clone"], unfollowed := true, recurses := true, named := ["sorites/dtree.errTree", "sorites/dtype.errType", "sorites/dtype.errNoRel", "sorites/dtype.errArity", "sorites/dsafe.errStuck"], loops := true, apart := false, laid := [("sorites/dtree.errTree", laid_sorites_dtree_errTree), ("sorites/dtype.errNoRel", laid_sorites_dtype_errNoRel), ("sorites/dtype.errArity", laid_sorites_dtype_errArity), ("sorites/dtype.errType", laid_sorites_dtype_errType), ("sorites/dsafe.errStuck", laid_sorites_dsafe_errStuck)] }
def QueryPartsSaid : Prop := queryPartsRow.holds Tryz.pinned (OpenSpec.ofChange queryPartsSpec)

/-- ITS FALSE NEIGHBOUR: 'it returns false'. Refute it at one input. -/
def queryPartsWrong : ChangeSpec := { name := "queryParts", fn := fun _ => fun
  | [d1, d2, d3, d4, d5] => { results := [.lit (.bool false)], args := [d1, d2, d3, d4, d5] }
  | _ => none }
def QueryPartsWrongFalsely : Prop := queryPartsRow.holds Tryz.pinned (OpenSpec.ofChange queryPartsWrong)

/-- 'soriteslaw09.ModelMoves': WHATEVER THE INPUT: true; the input reads as it did. -/
def modelMovesSpec : ChangeSpec := { name := "modelMoves", fn := fun _ => fun
  | [d1, d2, d3, d4] => { results := [.lit (.bool true)], args := [d1, d2, d3, d4] }
  | _ => none }
def modelMovesRow : OpenClaim := { program := "ytioeffnadipbaaagreatdoor", sum := "ee83b8a240b64fbd90d1b9e6738e8638760b2bbe6b9fb8c7b06e21f13848d5c6", func := "sorites/soriteslaw09.ModelMoves", spec := "modelMoves", inPlace := ["internal/reflectlite.TypeOf", "maps.clone"], unfollowed := true, recurses := true, named := ["sorites/dtree.errTree", "sorites/dtype.errType", "sorites/dtype.errNoRel", "sorites/dtype.errArity", "sorites/dsafe.errStuck"], loops := true, apart := false, laid := [("sorites/dtree.errTree", laid_sorites_dtree_errTree), ("sorites/dtype.errNoRel", laid_sorites_dtype_errNoRel), ("sorites/dtype.errArity", laid_sorites_dtype_errArity), ("sorites/dtype.errType", laid_sorites_dtype_errType), ("sorites/dsafe.errStuck", laid_sorites_dsafe_errStuck)] }
def ModelMovesSaid : Prop := modelMovesRow.holds Tryz.pinned (OpenSpec.ofChange modelMovesSpec)

/-- ITS FALSE NEIGHBOUR: 'it returns false'. Refute it at one input. -/
def modelMovesWrong : ChangeSpec := { name := "modelMoves", fn := fun _ => fun
  | [d1, d2, d3, d4] => { results := [.lit (.bool false)], args := [d1, d2, d3, d4] }
  | _ => none }
def ModelMovesWrongFalsely : Prop := modelMovesRow.holds Tryz.pinned (OpenSpec.ofChange modelMovesWrong)

/-- 'soriteslaw09.ModelLimits': WHATEVER THE INPUT: true; the input reads as it did. -/
def modelLimitsSpec : ChangeSpec := { name := "modelLimits", fn := fun _ => fun
  | [d1, d2, d3] => { results := [.lit (.bool true)], args := [d1, d2, d3] }
  | _ => none }
def modelLimitsRow : OpenClaim := { program := "ytioeffnadipbaaagreatdoor", sum := "ee83b8a240b64fbd90d1b9e6738e8638760b2bbe6b9fb8c7b06e21f13848d5c6", func := "sorites/soriteslaw09.ModelLimits", spec := "modelLimits", inPlace := ["internal/reflectlite.TypeOf", "maps.clone"], unfollowed := true, recurses := true, named := ["sorites/dtree.errTree", "sorites/dtype.errType", "sorites/dtype.errNoRel", "sorites/dtype.errArity", "sorites/dsafe.errStuck"], loops := true, apart := false, laid := [("sorites/dtree.errTree", laid_sorites_dtree_errTree), ("sorites/dtype.errNoRel", laid_sorites_dtype_errNoRel), ("sorites/dtype.errArity", laid_sorites_dtype_errArity), ("sorites/dtype.errType", laid_sorites_dtype_errType), ("sorites/dsafe.errStuck", laid_sorites_dsafe_errStuck)] }
def ModelLimitsSaid : Prop := modelLimitsRow.holds Tryz.pinned (OpenSpec.ofChange modelLimitsSpec)

/-- ITS FALSE NEIGHBOUR: 'it returns false'. Refute it at one input. -/
def modelLimitsWrong : ChangeSpec := { name := "modelLimits", fn := fun _ => fun
  | [d1, d2, d3] => { results := [.lit (.bool false)], args := [d1, d2, d3] }
  | _ => none }
def ModelLimitsWrongFalsely : Prop := modelLimitsRow.holds Tryz.pinned (OpenSpec.ofChange modelLimitsWrong)

/-- 'soriteslaw09.ModelGrows': WHATEVER THE INPUT: true; the input reads as it did. -/
def modelGrowsSpec : ChangeSpec := { name := "modelGrows", fn := fun _ => fun
  | [d1, d2, d3] => { results := [.lit (.bool true)], args := [d1, d2, d3] }
  | _ => none }
def modelGrowsRow : OpenClaim := { program := "ytioeffnadipbaaagreatdoor", sum := "ee83b8a240b64fbd90d1b9e6738e8638760b2bbe6b9fb8c7b06e21f13848d5c6", func := "sorites/soriteslaw09.ModelGrows", spec := "modelGrows", inPlace := ["internal/reflectlite.TypeOf", "maps.clone"], unfollowed := true, recurses := true, named := ["sorites/dtree.errTree", "sorites/dtype.errType", "sorites/dtype.errNoRel", "sorites/dtype.errArity", "sorites/dsafe.errStuck"], loops := true, apart := false, laid := [("sorites/dtree.errTree", laid_sorites_dtree_errTree), ("sorites/dtype.errNoRel", laid_sorites_dtype_errNoRel), ("sorites/dtype.errArity", laid_sorites_dtype_errArity), ("sorites/dtype.errType", laid_sorites_dtype_errType), ("sorites/dsafe.errStuck", laid_sorites_dsafe_errStuck)] }
def ModelGrowsSaid : Prop := modelGrowsRow.holds Tryz.pinned (OpenSpec.ofChange modelGrowsSpec)

/-- ITS FALSE NEIGHBOUR: 'it returns false'. Refute it at one input. -/
def modelGrowsWrong : ChangeSpec := { name := "modelGrows", fn := fun _ => fun
  | [d1, d2, d3] => { results := [.lit (.bool false)], args := [d1, d2, d3] }
  | _ => none }
def ModelGrowsWrongFalsely : Prop := modelGrowsRow.holds Tryz.pinned (OpenSpec.ofChange modelGrowsWrong)

/-- 'soriteslaw09.ModelCloses': WHATEVER THE INPUT: true; the input reads as it did. -/
def modelClosesSpec : ChangeSpec := { name := "modelCloses", fn := fun _ => fun
  | [d1, d2] => { results := [.lit (.bool true)], args := [d1, d2] }
  | _ => none }
def modelClosesRow : OpenClaim := { program := "ytioeffnadipbaaagreatdoor", sum := "ee83b8a240b64fbd90d1b9e6738e8638760b2bbe6b9fb8c7b06e21f13848d5c6", func := "sorites/soriteslaw09.ModelCloses", spec := "modelCloses", inPlace := ["internal/reflectlite.TypeOf", "maps.clone"], unfollowed := true, recurses := true, named := ["sorites/dtree.errTree", "sorites/dtype.errType", "sorites/dtype.errNoRel", "sorites/dtype.errArity", "sorites/dsafe.errStuck"], loops := true, apart := false, laid := [("sorites/dtree.errTree", laid_sorites_dtree_errTree), ("sorites/dtype.errNoRel", laid_sorites_dtype_errNoRel), ("sorites/dtype.errArity", laid_sorites_dtype_errArity), ("sorites/dtype.errType", laid_sorites_dtype_errType), ("sorites/dsafe.errStuck", laid_sorites_dsafe_errStuck)] }
def ModelClosesSaid : Prop := modelClosesRow.holds Tryz.pinned (OpenSpec.ofChange modelClosesSpec)

/-- ITS FALSE NEIGHBOUR: 'it returns false'. Refute it at one input. -/
def modelClosesWrong : ChangeSpec := { name := "modelCloses", fn := fun _ => fun
  | [d1, d2] => { results := [.lit (.bool false)], args := [d1, d2] }
  | _ => none }
def ModelClosesWrongFalsely : Prop := modelClosesRow.holds Tryz.pinned (OpenSpec.ofChange modelClosesWrong)

/-- 'soriteslaw11.QueryGives': WHATEVER THE INPUT: true; the input reads as it did. -/
def queryGivesSpec : ChangeSpec := { name := "queryGives", fn := fun _ => fun
  | [d1, d2, d3] => { results := [.lit (.bool true)], args := [d1, d2, d3] }
  | _ => none }
def queryGivesRow : OpenClaim := { program := "ytioeffnadipbaaagreatdoor", sum := "ee83b8a240b64fbd90d1b9e6738e8638760b2bbe6b9fb8c7b06e21f13848d5c6", func := "sorites/soriteslaw11.QueryGives", spec := "queryGives", inPlace := ["internal/reflectlite.TypeOf", "maps.clone"], unfollowed := true, recurses := true, named := ["sorites/dtree.errTree", "sorites/dtype.errType", "sorites/dtype.errNoRel", "sorites/dtype.errArity", "sorites/dsafe.errStuck"], loops := true, apart := false, laid := [("sorites/dtree.errTree", laid_sorites_dtree_errTree), ("sorites/dtype.errNoRel", laid_sorites_dtype_errNoRel), ("sorites/dtype.errArity", laid_sorites_dtype_errArity), ("sorites/dtype.errType", laid_sorites_dtype_errType), ("sorites/dsafe.errStuck", laid_sorites_dsafe_errStuck)] }
def QueryGivesSaid : Prop := queryGivesRow.holds Tryz.pinned (OpenSpec.ofChange queryGivesSpec)

/-- ITS FALSE NEIGHBOUR: 'it returns false'. Refute it at one input. -/
def queryGivesWrong : ChangeSpec := { name := "queryGives", fn := fun _ => fun
  | [d1, d2, d3] => { results := [.lit (.bool false)], args := [d1, d2, d3] }
  | _ => none }
def QueryGivesWrongFalsely : Prop := queryGivesRow.holds Tryz.pinned (OpenSpec.ofChange queryGivesWrong)

/-- 'soriteslaw09.ModelFacts': WHATEVER THE INPUT: true; the input reads as it did. -/
def modelFactsSpec : ChangeSpec := { name := "modelFacts", fn := fun _ => fun
  | [d1, d2, d3] => { results := [.lit (.bool true)], args := [d1, d2, d3] }
  | _ => none }
def modelFactsRow : OpenClaim := { program := "ytioeffnadipbaaagreatdoor", sum := "ee83b8a240b64fbd90d1b9e6738e8638760b2bbe6b9fb8c7b06e21f13848d5c6", func := "sorites/soriteslaw09.ModelFacts", spec := "modelFacts", inPlace := ["internal/reflectlite.TypeOf", "maps.clone", "slices.overlaps[[]sorites/api.Val]"], unfollowed := true, recurses := true, named := ["sorites/dtree.errTree", "sorites/dtype.errType", "sorites/dtype.errNoRel", "sorites/dtype.errArity", "sorites/dsafe.errStuck"], loops := true, apart := false, laid := [("sorites/dtree.errTree", laid_sorites_dtree_errTree), ("sorites/dtype.errNoRel", laid_sorites_dtype_errNoRel), ("sorites/dtype.errArity", laid_sorites_dtype_errArity), ("sorites/dtype.errType", laid_sorites_dtype_errType), ("sorites/dsafe.errStuck", laid_sorites_dsafe_errStuck)] }
def ModelFactsSaid : Prop := modelFactsRow.holds Tryz.pinned (OpenSpec.ofChange modelFactsSpec)

/-- ITS FALSE NEIGHBOUR: 'it returns false'. Refute it at one input. -/
def modelFactsWrong : ChangeSpec := { name := "modelFacts", fn := fun _ => fun
  | [d1, d2, d3] => { results := [.lit (.bool false)], args := [d1, d2, d3] }
  | _ => none }
def ModelFactsWrongFalsely : Prop := modelFactsRow.holds Tryz.pinned (OpenSpec.ofChange modelFactsWrong)

/- THE SECOND FORM. 'bulk': how many values and letters a reading holds, each counted each time it is reached (what is shared counts as often as it is met; a slice's spare places count too). A statement '..UptoSaid' is the law's where the arguments, and the package variables that the reading takes, are together of bulk at most 1048576: NARROWER than '..Said'. Prove '..Said' where nothing that the law and all that it calls make is longer than what came in: it says more and counts as full. Else prove '..UptoSaid'. A law counts once. -/
mutual
def uptoBulk {H : Type} : DataW H → Nat
  | .lit (.string bytes) => bytes.length + 1
  | .lit _ => 1
  | .nil => 1
  | .ptr d => uptoBulk d + 1
  | .slice elems spare => uptoBulkAll elems + uptoBulkAll spare + 1
  | .agg parts => uptoBulkAll parts + 1
  | .iface _ d => uptoBulk d + 1
  | .map entries => uptoBulkEntries entries + 1
  | .held _ => 1
def uptoBulkAll {H : Type} : List (DataW H) → Nat
  | [] => 0
  | d :: r => uptoBulk d + uptoBulkAll r
def uptoBulkEntries {H : Type} : List (Lit × DataW H) → Nat
  | [] => 0
  | x :: r => uptoBulkEntry x + uptoBulkEntries r
def uptoBulkEntry {H : Type} : Lit × DataW H → Nat
  | (.string bytes, d) => bytes.length + uptoBulk d + 1
  | (_, d) => uptoBulk d + 1
 end
def uptoSmall : (H : Type) → List (DataW H) → Bool := fun _ ds => decide (uptoBulkAll ds ≤ 1048576)
def OpenSpec.upto (s : _root_.Go.ChangeSpec) : _root_.Go.OpenSpec := { _root_.Go.OpenSpec.ofChange s with cond := some uptoSmall }

/-- 'soriteslaw11.QueryCols', WHERE WHAT IT READS IS OF BULK AT MOST 1048576: true; the input reads as it did. -/
def queryColsUptoRow : OpenClaim := { program := "ytioeffnadipbaaagreatdoor", sum := "ee83b8a240b64fbd90d1b9e6738e8638760b2bbe6b9fb8c7b06e21f13848d5c6", func := "sorites/soriteslaw11.QueryCols", spec := "queryCols", inPlace := ["internal/reflectlite.TypeOf", "maps.clone"], unfollowed := true, recurses := true, named := ["sorites/dtree.errTree", "sorites/dtype.errType", "sorites/dtype.errNoRel", "sorites/dtype.errArity", "sorites/dsafe.errStuck"], loops := true, apart := false, laid := [("sorites/dtree.errTree", laid_sorites_dtree_errTree), ("sorites/dtype.errNoRel", laid_sorites_dtype_errNoRel), ("sorites/dtype.errArity", laid_sorites_dtype_errArity), ("sorites/dtype.errType", laid_sorites_dtype_errType), ("sorites/dsafe.errStuck", laid_sorites_dsafe_errStuck)], narrowed := true }
def QueryColsUptoSaid : Prop := queryColsUptoRow.holds Tryz.pinned (OpenSpec.upto queryColsSpec)

/-- 'soriteslaw11.QueryParts', WHERE WHAT IT READS IS OF BULK AT MOST 1048576: true; the input reads as it did. -/
def queryPartsUptoRow : OpenClaim := { program := "ytioeffnadipbaaagreatdoor", sum := "ee83b8a240b64fbd90d1b9e6738e8638760b2bbe6b9fb8c7b06e21f13848d5c6", func := "sorites/soriteslaw11.QueryParts", spec := "queryParts", inPlace := ["internal/reflectlite.TypeOf", "maps.clone"], unfollowed := true, recurses := true, named := ["sorites/dtree.errTree", "sorites/dtype.errType", "sorites/dtype.errNoRel", "sorites/dtype.errArity", "sorites/dsafe.errStuck"], loops := true, apart := false, laid := [("sorites/dtree.errTree", laid_sorites_dtree_errTree), ("sorites/dtype.errNoRel", laid_sorites_dtype_errNoRel), ("sorites/dtype.errArity", laid_sorites_dtype_errArity), ("sorites/dtype.errType", laid_sorites_dtype_errType), ("sorites/dsafe.errStuck", laid_sorites_dsafe_errStuck)], narrowed := true }
def QueryPartsUptoSaid : Prop := queryPartsUptoRow.holds Tryz.pinned (OpenSpec.upto queryPartsSpec)

/-- 'soriteslaw09.ModelMoves', WHERE WHAT IT READS IS OF BULK AT MOST 1048576: true; the input reads as it did. -/
def modelMovesUptoRow : OpenClaim := { program := "ytioeffnadipbaaagreatdoor", sum := "ee83b8a240b64fbd90d1b9e6738e8638760b2bbe6b9fb8c7b06e21f13848d5c6", func := "sorites/soriteslaw09.ModelMoves", spec := "modelMoves", inPlace := ["internal/reflectlite.TypeOf", "maps.clone"], unfollowed := true, recurses := true, named := ["sorites/dtree.errTree", "sorites/dtype.errType", "sorites/dtype.errNoRel", "sorites/dtype.errArity", "sorites/dsafe.errStuck"], loops := true, apart := false, laid := [("sorites/dtree.errTree", laid_sorites_dtree_errTree), ("sorites/dtype.errNoRel", laid_sorites_dtype_errNoRel), ("sorites/dtype.errArity", laid_sorites_dtype_errArity), ("sorites/dtype.errType", laid_sorites_dtype_errType), ("sorites/dsafe.errStuck", laid_sorites_dsafe_errStuck)], narrowed := true }
def ModelMovesUptoSaid : Prop := modelMovesUptoRow.holds Tryz.pinned (OpenSpec.upto modelMovesSpec)

/-- 'soriteslaw09.ModelLimits', WHERE WHAT IT READS IS OF BULK AT MOST 1048576: true; the input reads as it did. -/
def modelLimitsUptoRow : OpenClaim := { program := "ytioeffnadipbaaagreatdoor", sum := "ee83b8a240b64fbd90d1b9e6738e8638760b2bbe6b9fb8c7b06e21f13848d5c6", func := "sorites/soriteslaw09.ModelLimits", spec := "modelLimits", inPlace := ["internal/reflectlite.TypeOf", "maps.clone"], unfollowed := true, recurses := true, named := ["sorites/dtree.errTree", "sorites/dtype.errType", "sorites/dtype.errNoRel", "sorites/dtype.errArity", "sorites/dsafe.errStuck"], loops := true, apart := false, laid := [("sorites/dtree.errTree", laid_sorites_dtree_errTree), ("sorites/dtype.errNoRel", laid_sorites_dtype_errNoRel), ("sorites/dtype.errArity", laid_sorites_dtype_errArity), ("sorites/dtype.errType", laid_sorites_dtype_errType), ("sorites/dsafe.errStuck", laid_sorites_dsafe_errStuck)], narrowed := true }
def ModelLimitsUptoSaid : Prop := modelLimitsUptoRow.holds Tryz.pinned (OpenSpec.upto modelLimitsSpec)

/-- 'soriteslaw09.ModelGrows', WHERE WHAT IT READS IS OF BULK AT MOST 1048576: true; the input reads as it did. -/
def modelGrowsUptoRow : OpenClaim := { program := "ytioeffnadipbaaagreatdoor", sum := "ee83b8a240b64fbd90d1b9e6738e8638760b2bbe6b9fb8c7b06e21f13848d5c6", func := "sorites/soriteslaw09.ModelGrows", spec := "modelGrows", inPlace := ["internal/reflectlite.TypeOf", "maps.clone"], unfollowed := true, recurses := true, named := ["sorites/dtree.errTree", "sorites/dtype.errType", "sorites/dtype.errNoRel", "sorites/dtype.errArity", "sorites/dsafe.errStuck"], loops := true, apart := false, laid := [("sorites/dtree.errTree", laid_sorites_dtree_errTree), ("sorites/dtype.errNoRel", laid_sorites_dtype_errNoRel), ("sorites/dtype.errArity", laid_sorites_dtype_errArity), ("sorites/dtype.errType", laid_sorites_dtype_errType), ("sorites/dsafe.errStuck", laid_sorites_dsafe_errStuck)], narrowed := true }
def ModelGrowsUptoSaid : Prop := modelGrowsUptoRow.holds Tryz.pinned (OpenSpec.upto modelGrowsSpec)

/-- 'soriteslaw09.ModelCloses', WHERE WHAT IT READS IS OF BULK AT MOST 1048576: true; the input reads as it did. -/
def modelClosesUptoRow : OpenClaim := { program := "ytioeffnadipbaaagreatdoor", sum := "ee83b8a240b64fbd90d1b9e6738e8638760b2bbe6b9fb8c7b06e21f13848d5c6", func := "sorites/soriteslaw09.ModelCloses", spec := "modelCloses", inPlace := ["internal/reflectlite.TypeOf", "maps.clone"], unfollowed := true, recurses := true, named := ["sorites/dtree.errTree", "sorites/dtype.errType", "sorites/dtype.errNoRel", "sorites/dtype.errArity", "sorites/dsafe.errStuck"], loops := true, apart := false, laid := [("sorites/dtree.errTree", laid_sorites_dtree_errTree), ("sorites/dtype.errNoRel", laid_sorites_dtype_errNoRel), ("sorites/dtype.errArity", laid_sorites_dtype_errArity), ("sorites/dtype.errType", laid_sorites_dtype_errType), ("sorites/dsafe.errStuck", laid_sorites_dsafe_errStuck)], narrowed := true }
def ModelClosesUptoSaid : Prop := modelClosesUptoRow.holds Tryz.pinned (OpenSpec.upto modelClosesSpec)

/-- 'soriteslaw11.QueryGives', WHERE WHAT IT READS IS OF BULK AT MOST 1048576: true; the input reads as it did. -/
def queryGivesUptoRow : OpenClaim := { program := "ytioeffnadipbaaagreatdoor", sum := "ee83b8a240b64fbd90d1b9e6738e8638760b2bbe6b9fb8c7b06e21f13848d5c6", func := "sorites/soriteslaw11.QueryGives", spec := "queryGives", inPlace := ["internal/reflectlite.TypeOf", "maps.clone"], unfollowed := true, recurses := true, named := ["sorites/dtree.errTree", "sorites/dtype.errType", "sorites/dtype.errNoRel", "sorites/dtype.errArity", "sorites/dsafe.errStuck"], loops := true, apart := false, laid := [("sorites/dtree.errTree", laid_sorites_dtree_errTree), ("sorites/dtype.errNoRel", laid_sorites_dtype_errNoRel), ("sorites/dtype.errArity", laid_sorites_dtype_errArity), ("sorites/dtype.errType", laid_sorites_dtype_errType), ("sorites/dsafe.errStuck", laid_sorites_dsafe_errStuck)], narrowed := true }
def QueryGivesUptoSaid : Prop := queryGivesUptoRow.holds Tryz.pinned (OpenSpec.upto queryGivesSpec)

/-- 'soriteslaw09.ModelFacts', WHERE WHAT IT READS IS OF BULK AT MOST 1048576: true; the input reads as it did. -/
def modelFactsUptoRow : OpenClaim := { program := "ytioeffnadipbaaagreatdoor", sum := "ee83b8a240b64fbd90d1b9e6738e8638760b2bbe6b9fb8c7b06e21f13848d5c6", func := "sorites/soriteslaw09.ModelFacts", spec := "modelFacts", inPlace := ["internal/reflectlite.TypeOf", "maps.clone", "slices.overlaps[[]sorites/api.Val]"], unfollowed := true, recurses := true, named := ["sorites/dtree.errTree", "sorites/dtype.errType", "sorites/dtype.errNoRel", "sorites/dtype.errArity", "sorites/dsafe.errStuck"], loops := true, apart := false, laid := [("sorites/dtree.errTree", laid_sorites_dtree_errTree), ("sorites/dtype.errNoRel", laid_sorites_dtype_errNoRel), ("sorites/dtype.errArity", laid_sorites_dtype_errArity), ("sorites/dtype.errType", laid_sorites_dtype_errType), ("sorites/dsafe.errStuck", laid_sorites_dsafe_errStuck)], narrowed := true }
def ModelFactsUptoSaid : Prop := modelFactsUptoRow.holds Tryz.pinned (OpenSpec.upto modelFactsSpec)

end Rows
end Go.Proofs.YtioeffnadipbaaaGreatDoor
