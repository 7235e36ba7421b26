/-
  NARROWER THAN 'FOR EVERY INPUT', by the rows' own cells (each row's printed sentence says how): DsafeFacts: laid · DsafeOnce: loops, laid · DsafeMore: loops, laid.
  DERIVED. THE GIVEN ROWS OF THIS SEAT. 3 by the template 'for every input the law returns true; each argument reads behind the call as it read before'; 0 by the template 'total and deterministic' (their statements: YtidmfjdechhnmaaDoorTotals.lean).
  GIVEN WITH THE SEED: the statements are not yours to turn. If you find one false, say at which input.
  Laid BY PROGRAM, IN A SANDBOX (cutbox-rows.mjs): the forced cells as the released guide's own fill.sh prints them over the translation 2e3aa1388959a646… (all of the seat's roots in one cut). By AI agents, Wed Nov 11 2026. No macro, syntax, notation, axiom, sorry.
-/
import Derived.Test.YtidmfjdechhnmaaDoorChecked
import GoSem.Claim
import GoSem.ClaimJoined
import GoSem.ClaimMapViews
import Derived.JoinedTies
import Derived.KernelRfl
namespace Go.Proofs.YtidmfjdechhnmaaDoor
/- THE CELL 'sum', in the pinned program and in every row, IS THE sha256 OF THE DUMP (.gsa) THAT YtidmfjdechhnmaaDoorProg.lean LOADS. Nothing in Lean hashes anything: it is a label: what it is worth is what the hold of that sum in a sandbox is worth. -/
noncomputable def Tryd.pinned : Pinned := { name := "ytidmfjdechhnmaadoor", sum := "2e3aa1388959a646b334dcafdd9abd2c48c404175c53b5c01e7edd57bf9b2943", checked := Tryd.checked }
namespace Rows
def none {H : Type} : Left H := { results := [], args := [] }

/- WHAT THE LISTED PACKAGE-LEVEL VARIABLES READ AS WHEN THE CALL BEGINS. Each datum BY PROGRAM (the guide's laid-datum.mjs) off the statement by which the dump's own 'gosem.cut.vars' lays the variable. In a bare row this is a premise. The card (YtidmfjdechhnmaaDoorCards.lean) ties it to the program's text. -/
def laid_sorites_dtree_errTree {H : Type} : DataW H := .iface "*errors.errorString" (.ptr (.agg [.lit (.string [110, 111, 32, 116, 114, 101, 101])]))
def laid_sorites_dsafe_errStuck {H : Type} : DataW H := .iface "*errors.errorString" (.ptr (.agg [.lit (.string [110, 111, 32, 112, 97, 114, 116, 32, 105, 115, 32, 114, 101, 97, 100, 121])]))

/-- 'soriteslaw06.DsafeFacts': WHATEVER THE INPUT: true; the input reads as it did. -/
def dsafeFactsSpec : ChangeSpec := { name := "dsafeFacts", fn := fun _ => fun
  | [d1, d2] => { results := [.lit (.bool true)], args := [d1, d2] }
  | _ => none }
def dsafeFactsRow : OpenClaim := { program := "ytidmfjdechhnmaadoor", sum := "2e3aa1388959a646b334dcafdd9abd2c48c404175c53b5c01e7edd57bf9b2943", func := "sorites/soriteslaw06.DsafeFacts", spec := "dsafeFacts", inPlace := ["internal/reflectlite.TypeOf"], unfollowed := true, recurses := true, named := ["sorites/dsafe.errStuck", "sorites/dtree.errTree"], apart := false, laid := [("sorites/dtree.errTree", laid_sorites_dtree_errTree), ("sorites/dsafe.errStuck", laid_sorites_dsafe_errStuck)] }
def DsafeFactsSaid : Prop := dsafeFactsRow.holds Tryd.pinned (OpenSpec.ofChange dsafeFactsSpec)

/-- ITS FALSE NEIGHBOUR: 'it returns false'. Refute it at one input. -/
def dsafeFactsWrong : ChangeSpec := { name := "dsafeFacts", fn := fun _ => fun
  | [d1, d2] => { results := [.lit (.bool false)], args := [d1, d2] }
  | _ => none }
def DsafeFactsWrongFalsely : Prop := dsafeFactsRow.holds Tryd.pinned (OpenSpec.ofChange dsafeFactsWrong)

/-- 'soriteslaw06.DsafeOnce': WHATEVER THE INPUT: true; the input reads as it did. -/
def dsafeOnceSpec : ChangeSpec := { name := "dsafeOnce", fn := fun _ => fun
  | [d] => { results := [.lit (.bool true)], args := [d] }
  | _ => none }
def dsafeOnceRow : OpenClaim := { program := "ytidmfjdechhnmaadoor", sum := "2e3aa1388959a646b334dcafdd9abd2c48c404175c53b5c01e7edd57bf9b2943", func := "sorites/soriteslaw06.DsafeOnce", spec := "dsafeOnce", inPlace := ["internal/reflectlite.TypeOf"], unfollowed := true, recurses := true, named := ["sorites/dsafe.errStuck", "sorites/dtree.errTree"], loops := true, apart := false, laid := [("sorites/dtree.errTree", laid_sorites_dtree_errTree), ("sorites/dsafe.errStuck", laid_sorites_dsafe_errStuck)] }
def DsafeOnceSaid : Prop := dsafeOnceRow.holds Tryd.pinned (OpenSpec.ofChange dsafeOnceSpec)

/-- ITS FALSE NEIGHBOUR: 'it returns false'. Refute it at one input. -/
def dsafeOnceWrong : ChangeSpec := { name := "dsafeOnce", fn := fun _ => fun
  | [d] => { results := [.lit (.bool false)], args := [d] }
  | _ => none }
def DsafeOnceWrongFalsely : Prop := dsafeOnceRow.holds Tryd.pinned (OpenSpec.ofChange dsafeOnceWrong)

/-- 'soriteslaw06.DsafeMore': WHATEVER THE INPUT: true; the input reads as it did. -/
def dsafeMoreSpec : ChangeSpec := { name := "dsafeMore", fn := fun _ => fun
  | [d1, d2, d3] => { results := [.lit (.bool true)], args := [d1, d2, d3] }
  | _ => none }
def dsafeMoreRow : OpenClaim := { program := "ytidmfjdechhnmaadoor", sum := "2e3aa1388959a646b334dcafdd9abd2c48c404175c53b5c01e7edd57bf9b2943", func := "sorites/soriteslaw06.DsafeMore", spec := "dsafeMore", inPlace := ["internal/reflectlite.TypeOf"], unfollowed := true, recurses := true, named := ["sorites/dsafe.errStuck", "sorites/dtree.errTree"], loops := true, apart := false, laid := [("sorites/dtree.errTree", laid_sorites_dtree_errTree), ("sorites/dsafe.errStuck", laid_sorites_dsafe_errStuck)] }
def DsafeMoreSaid : Prop := dsafeMoreRow.holds Tryd.pinned (OpenSpec.ofChange dsafeMoreSpec)

/-- ITS FALSE NEIGHBOUR: 'it returns false'. Refute it at one input. -/
def dsafeMoreWrong : ChangeSpec := { name := "dsafeMore", fn := fun _ => fun
  | [d1, d2, d3] => { results := [.lit (.bool false)], args := [d1, d2, d3] }
  | _ => none }
def DsafeMoreWrongFalsely : Prop := dsafeMoreRow.holds Tryd.pinned (OpenSpec.ofChange dsafeMoreWrong)

/- THE SECOND FORM. 'bulk': how many values and letters a reading holds, each counted each time it is reached (what is shared counts as often as it is met; a slice's spare places count too). A statement '..UptoSaid' is the law's where the arguments, and the package variables that the reading takes, are together of bulk at most 1048576: NARROWER than '..Said'. Prove '..Said' where nothing that the law and all that it calls make is longer than what came in: it says more and counts as full. Else prove '..UptoSaid'. A law counts once. -/
mutual
def uptoBulk {H : Type} : DataW H → Nat
  | .lit (.string bytes) => bytes.length + 1
  | .lit _ => 1
  | .nil => 1
  | .ptr d => uptoBulk d + 1
  | .slice elems spare => uptoBulkAll elems + uptoBulkAll spare + 1
  | .agg parts => uptoBulkAll parts + 1
  | .iface _ d => uptoBulk d + 1
  | .map entries => uptoBulkEntries entries + 1
  | .held _ => 1
def uptoBulkAll {H : Type} : List (DataW H) → Nat
  | [] => 0
  | d :: r => uptoBulk d + uptoBulkAll r
def uptoBulkEntries {H : Type} : List (Lit × DataW H) → Nat
  | [] => 0
  | x :: r => uptoBulkEntry x + uptoBulkEntries r
def uptoBulkEntry {H : Type} : Lit × DataW H → Nat
  | (.string bytes, d) => bytes.length + uptoBulk d + 1
  | (_, d) => uptoBulk d + 1
 end
def uptoSmall : (H : Type) → List (DataW H) → Bool := fun _ ds => decide (uptoBulkAll ds ≤ 1048576)
def OpenSpec.upto (s : _root_.Go.ChangeSpec) : _root_.Go.OpenSpec := { _root_.Go.OpenSpec.ofChange s with cond := some uptoSmall }

/-- 'soriteslaw06.DsafeFacts', WHERE WHAT IT READS IS OF BULK AT MOST 1048576: true; the input reads as it did. -/
def dsafeFactsUptoRow : OpenClaim := { program := "ytidmfjdechhnmaadoor", sum := "2e3aa1388959a646b334dcafdd9abd2c48c404175c53b5c01e7edd57bf9b2943", func := "sorites/soriteslaw06.DsafeFacts", spec := "dsafeFacts", inPlace := ["internal/reflectlite.TypeOf"], unfollowed := true, recurses := true, named := ["sorites/dsafe.errStuck", "sorites/dtree.errTree"], apart := false, laid := [("sorites/dtree.errTree", laid_sorites_dtree_errTree), ("sorites/dsafe.errStuck", laid_sorites_dsafe_errStuck)], narrowed := true }
def DsafeFactsUptoSaid : Prop := dsafeFactsUptoRow.holds Tryd.pinned (OpenSpec.upto dsafeFactsSpec)

/-- 'soriteslaw06.DsafeOnce', WHERE WHAT IT READS IS OF BULK AT MOST 1048576: true; the input reads as it did. -/
def dsafeOnceUptoRow : OpenClaim := { program := "ytidmfjdechhnmaadoor", sum := "2e3aa1388959a646b334dcafdd9abd2c48c404175c53b5c01e7edd57bf9b2943", func := "sorites/soriteslaw06.DsafeOnce", spec := "dsafeOnce", inPlace := ["internal/reflectlite.TypeOf"], unfollowed := true, recurses := true, named := ["sorites/dsafe.errStuck", "sorites/dtree.errTree"], loops := true, apart := false, laid := [("sorites/dtree.errTree", laid_sorites_dtree_errTree), ("sorites/dsafe.errStuck", laid_sorites_dsafe_errStuck)], narrowed := true }
def DsafeOnceUptoSaid : Prop := dsafeOnceUptoRow.holds Tryd.pinned (OpenSpec.upto dsafeOnceSpec)

/-- 'soriteslaw06.DsafeMore', WHERE WHAT IT READS IS OF BULK AT MOST 1048576: true; the input reads as it did. -/
def dsafeMoreUptoRow : OpenClaim := { program := "ytidmfjdechhnmaadoor", sum := "2e3aa1388959a646b334dcafdd9abd2c48c404175c53b5c01e7edd57bf9b2943", func := "sorites/soriteslaw06.DsafeMore", spec := "dsafeMore", inPlace := ["internal/reflectlite.TypeOf"], unfollowed := true, recurses := true, named := ["sorites/dsafe.errStuck", "sorites/dtree.errTree"], loops := true, apart := false, laid := [("sorites/dtree.errTree", laid_sorites_dtree_errTree), ("sorites/dsafe.errStuck", laid_sorites_dsafe_errStuck)], narrowed := true }
def DsafeMoreUptoSaid : Prop := dsafeMoreUptoRow.holds Tryd.pinned (OpenSpec.upto dsafeMoreSpec)

end Rows
end Go.Proofs.YtidmfjdechhnmaaDoor
