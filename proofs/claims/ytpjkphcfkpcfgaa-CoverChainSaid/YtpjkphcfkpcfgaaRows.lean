/-
  No cell of these rows narrows 'for every input' (looked for: loops, veiled, ifaces, maps, wideKeys, modest, calm, conditions, laid).
  DERIVED. THE GIVEN ROWS OF THIS SEAT. 6 by the template 'for every input the law returns true; each argument reads behind the call as it read before'; 0 by the template 'total and deterministic' (their statements: YtpjkphcfkpcfgaaTotals.lean).
  GIVEN WITH THE SEED: the statements are not yours to turn. If you find one false, say at which input.
  Laid BY PROGRAM, IN A SANDBOX (cutbox-rows.mjs): the forced cells as the released guide's own fill.sh prints them over the translation 016b4fcc43490367… (all of the seat's roots in one cut). By AI agents, Wed Nov 11 2026. No macro, syntax, notation, axiom, sorry.
-/
import Derived.Test.YtpjkphcfkpcfgaaChecked
import GoSem.Claim
import GoSem.ClaimJoined
import GoSem.ClaimMapViews
import Derived.JoinedTies
import Derived.KernelRfl
namespace Go.Proofs.Ytpjkphcfkpcfgaa
/- THE CELL 'sum', in the pinned program and in every row, IS THE sha256 OF THE DUMP (.gsa) THAT YtpjkphcfkpcfgaaProg.lean LOADS. Nothing in Lean hashes anything: it is a label: what it is worth is what the hold of that sum in a sandbox is worth. -/
noncomputable def Try.pinned : Pinned := { name := "ytpjkphcfkpcfgaa", sum := "016b4fcc4349036732bd47c827495994d2b49484fe724264b9104ccdc6a5905a", checked := Try.checked }
namespace Rows
def none {H : Type} : Left H := { results := [], args := [] }

/-- 'soriteslaw12.CoverLeast': WHATEVER THE INPUT: true; the input reads as it did. -/
def coverLeastSpec : ChangeSpec := { name := "coverLeast", fn := fun _ => fun
  | [d1, d2] => { results := [.lit (.bool true)], args := [d1, d2] }
  | _ => none }
def coverLeastRow : OpenClaim := { program := "ytpjkphcfkpcfgaa", sum := "016b4fcc4349036732bd47c827495994d2b49484fe724264b9104ccdc6a5905a", func := "sorites/soriteslaw12.CoverLeast", spec := "coverLeast", unfollowed := true, recurses := true, apart := false }
def CoverLeastSaid : Prop := coverLeastRow.holds Try.pinned (OpenSpec.ofChange coverLeastSpec)

/-- ITS FALSE NEIGHBOUR: 'it returns false'. Refute it at one input. -/
def coverLeastWrong : ChangeSpec := { name := "coverLeast", fn := fun _ => fun
  | [d1, d2] => { results := [.lit (.bool false)], args := [d1, d2] }
  | _ => none }
def CoverLeastWrongFalsely : Prop := coverLeastRow.holds Try.pinned (OpenSpec.ofChange coverLeastWrong)

/-- 'soriteslaw12.CoverDual': WHATEVER THE INPUT: true; the input reads as it did. -/
def coverDualSpec : ChangeSpec := { name := "coverDual", fn := fun _ => fun
  | [d1, d2] => { results := [.lit (.bool true)], args := [d1, d2] }
  | _ => none }
def coverDualRow : OpenClaim := { program := "ytpjkphcfkpcfgaa", sum := "016b4fcc4349036732bd47c827495994d2b49484fe724264b9104ccdc6a5905a", func := "sorites/soriteslaw12.CoverDual", spec := "coverDual", unfollowed := true, recurses := true, apart := false }
def CoverDualSaid : Prop := coverDualRow.holds Try.pinned (OpenSpec.ofChange coverDualSpec)

/-- ITS FALSE NEIGHBOUR: 'it returns false'. Refute it at one input. -/
def coverDualWrong : ChangeSpec := { name := "coverDual", fn := fun _ => fun
  | [d1, d2] => { results := [.lit (.bool false)], args := [d1, d2] }
  | _ => none }
def CoverDualWrongFalsely : Prop := coverDualRow.holds Try.pinned (OpenSpec.ofChange coverDualWrong)

/-- 'soriteslaw12.CoverGrows': WHATEVER THE INPUT: true; the input reads as it did. -/
def coverGrowsSpec : ChangeSpec := { name := "coverGrows", fn := fun _ => fun
  | [d1, d2] => { results := [.lit (.bool true)], args := [d1, d2] }
  | _ => none }
def coverGrowsRow : OpenClaim := { program := "ytpjkphcfkpcfgaa", sum := "016b4fcc4349036732bd47c827495994d2b49484fe724264b9104ccdc6a5905a", func := "sorites/soriteslaw12.CoverGrows", spec := "coverGrows", unfollowed := true, recurses := true, apart := false }
def CoverGrowsSaid : Prop := coverGrowsRow.holds Try.pinned (OpenSpec.ofChange coverGrowsSpec)

/-- ITS FALSE NEIGHBOUR: 'it returns false'. Refute it at one input. -/
def coverGrowsWrong : ChangeSpec := { name := "coverGrows", fn := fun _ => fun
  | [d1, d2] => { results := [.lit (.bool false)], args := [d1, d2] }
  | _ => none }
def CoverGrowsWrongFalsely : Prop := coverGrowsRow.holds Try.pinned (OpenSpec.ofChange coverGrowsWrong)

/-- 'soriteslaw12.CoverChain': WHATEVER THE INPUT: true; the input reads as it did. -/
def coverChainSpec : ChangeSpec := { name := "coverChain", fn := fun _ => fun
  | [d1, d2] => { results := [.lit (.bool true)], args := [d1, d2] }
  | _ => none }
def coverChainRow : OpenClaim := { program := "ytpjkphcfkpcfgaa", sum := "016b4fcc4349036732bd47c827495994d2b49484fe724264b9104ccdc6a5905a", func := "sorites/soriteslaw12.CoverChain", spec := "coverChain", unfollowed := true, recurses := true, apart := false }
def CoverChainSaid : Prop := coverChainRow.holds Try.pinned (OpenSpec.ofChange coverChainSpec)

/-- ITS FALSE NEIGHBOUR: 'it returns false'. Refute it at one input. -/
def coverChainWrong : ChangeSpec := { name := "coverChain", fn := fun _ => fun
  | [d1, d2] => { results := [.lit (.bool false)], args := [d1, d2] }
  | _ => none }
def CoverChainWrongFalsely : Prop := coverChainRow.holds Try.pinned (OpenSpec.ofChange coverChainWrong)

/-- 'soriteslaw12.CoverServes': WHATEVER THE INPUT: true; the input reads as it did. -/
def coverServesSpec : ChangeSpec := { name := "coverServes", fn := fun _ => fun
  | [d1, d2] => { results := [.lit (.bool true)], args := [d1, d2] }
  | _ => none }
def coverServesRow : OpenClaim := { program := "ytpjkphcfkpcfgaa", sum := "016b4fcc4349036732bd47c827495994d2b49484fe724264b9104ccdc6a5905a", func := "sorites/soriteslaw12.CoverServes", spec := "coverServes", unfollowed := true, recurses := true, apart := false }
def CoverServesSaid : Prop := coverServesRow.holds Try.pinned (OpenSpec.ofChange coverServesSpec)

/-- ITS FALSE NEIGHBOUR: 'it returns false'. Refute it at one input. -/
def coverServesWrong : ChangeSpec := { name := "coverServes", fn := fun _ => fun
  | [d1, d2] => { results := [.lit (.bool false)], args := [d1, d2] }
  | _ => none }
def CoverServesWrongFalsely : Prop := coverServesRow.holds Try.pinned (OpenSpec.ofChange coverServesWrong)

/-- 'soriteslaw12.CoverOrders': WHATEVER THE INPUT: true; the input reads as it did. -/
def coverOrdersSpec : ChangeSpec := { name := "coverOrders", fn := fun _ => fun
  | [d1, d2] => { results := [.lit (.bool true)], args := [d1, d2] }
  | _ => none }
def coverOrdersRow : OpenClaim := { program := "ytpjkphcfkpcfgaa", sum := "016b4fcc4349036732bd47c827495994d2b49484fe724264b9104ccdc6a5905a", func := "sorites/soriteslaw12.CoverOrders", spec := "coverOrders", unfollowed := true, recurses := true, apart := false }
def CoverOrdersSaid : Prop := coverOrdersRow.holds Try.pinned (OpenSpec.ofChange coverOrdersSpec)

/-- ITS FALSE NEIGHBOUR: 'it returns false'. Refute it at one input. -/
def coverOrdersWrong : ChangeSpec := { name := "coverOrders", fn := fun _ => fun
  | [d1, d2] => { results := [.lit (.bool false)], args := [d1, d2] }
  | _ => none }
def CoverOrdersWrongFalsely : Prop := coverOrdersRow.holds Try.pinned (OpenSpec.ofChange coverOrdersWrong)

/- THE SECOND FORM. 'bulk': how many values and letters a reading holds, each counted each time it is reached (what is shared counts as often as it is met; a slice's spare places count too). A statement '..UptoSaid' is the law's where the arguments, and the package variables that the reading takes, are together of bulk at most 1048576: NARROWER than '..Said'. Prove '..Said' where nothing that the law and all that it calls make is longer than what came in: it says more and counts as full. Else prove '..UptoSaid'. A law counts once. -/
mutual
def uptoBulk {H : Type} : DataW H → Nat
  | .lit (.string bytes) => bytes.length + 1
  | .lit _ => 1
  | .nil => 1
  | .ptr d => uptoBulk d + 1
  | .slice elems spare => uptoBulkAll elems + uptoBulkAll spare + 1
  | .agg parts => uptoBulkAll parts + 1
  | .iface _ d => uptoBulk d + 1
  | .map entries => uptoBulkEntries entries + 1
  | .held _ => 1
def uptoBulkAll {H : Type} : List (DataW H) → Nat
  | [] => 0
  | d :: r => uptoBulk d + uptoBulkAll r
def uptoBulkEntries {H : Type} : List (Lit × DataW H) → Nat
  | [] => 0
  | x :: r => uptoBulkEntry x + uptoBulkEntries r
def uptoBulkEntry {H : Type} : Lit × DataW H → Nat
  | (.string bytes, d) => bytes.length + uptoBulk d + 1
  | (_, d) => uptoBulk d + 1
 end
def uptoSmall : (H : Type) → List (DataW H) → Bool := fun _ ds => decide (uptoBulkAll ds ≤ 1048576)
def OpenSpec.upto (s : _root_.Go.ChangeSpec) : _root_.Go.OpenSpec := { _root_.Go.OpenSpec.ofChange s with cond := some uptoSmall }

/-- 'soriteslaw12.CoverLeast', WHERE WHAT IT READS IS OF BULK AT MOST 1048576: true; the input reads as it did. -/
def coverLeastUptoRow : OpenClaim := { program := "ytpjkphcfkpcfgaa", sum := "016b4fcc4349036732bd47c827495994d2b49484fe724264b9104ccdc6a5905a", func := "sorites/soriteslaw12.CoverLeast", spec := "coverLeast", unfollowed := true, recurses := true, apart := false, narrowed := true }
def CoverLeastUptoSaid : Prop := coverLeastUptoRow.holds Try.pinned (OpenSpec.upto coverLeastSpec)

/-- 'soriteslaw12.CoverDual', WHERE WHAT IT READS IS OF BULK AT MOST 1048576: true; the input reads as it did. -/
def coverDualUptoRow : OpenClaim := { program := "ytpjkphcfkpcfgaa", sum := "016b4fcc4349036732bd47c827495994d2b49484fe724264b9104ccdc6a5905a", func := "sorites/soriteslaw12.CoverDual", spec := "coverDual", unfollowed := true, recurses := true, apart := false, narrowed := true }
def CoverDualUptoSaid : Prop := coverDualUptoRow.holds Try.pinned (OpenSpec.upto coverDualSpec)

/-- 'soriteslaw12.CoverGrows', WHERE WHAT IT READS IS OF BULK AT MOST 1048576: true; the input reads as it did. -/
def coverGrowsUptoRow : OpenClaim := { program := "ytpjkphcfkpcfgaa", sum := "016b4fcc4349036732bd47c827495994d2b49484fe724264b9104ccdc6a5905a", func := "sorites/soriteslaw12.CoverGrows", spec := "coverGrows", unfollowed := true, recurses := true, apart := false, narrowed := true }
def CoverGrowsUptoSaid : Prop := coverGrowsUptoRow.holds Try.pinned (OpenSpec.upto coverGrowsSpec)

/-- 'soriteslaw12.CoverChain', WHERE WHAT IT READS IS OF BULK AT MOST 1048576: true; the input reads as it did. -/
def coverChainUptoRow : OpenClaim := { program := "ytpjkphcfkpcfgaa", sum := "016b4fcc4349036732bd47c827495994d2b49484fe724264b9104ccdc6a5905a", func := "sorites/soriteslaw12.CoverChain", spec := "coverChain", unfollowed := true, recurses := true, apart := false, narrowed := true }
def CoverChainUptoSaid : Prop := coverChainUptoRow.holds Try.pinned (OpenSpec.upto coverChainSpec)

/-- 'soriteslaw12.CoverServes', WHERE WHAT IT READS IS OF BULK AT MOST 1048576: true; the input reads as it did. -/
def coverServesUptoRow : OpenClaim := { program := "ytpjkphcfkpcfgaa", sum := "016b4fcc4349036732bd47c827495994d2b49484fe724264b9104ccdc6a5905a", func := "sorites/soriteslaw12.CoverServes", spec := "coverServes", unfollowed := true, recurses := true, apart := false, narrowed := true }
def CoverServesUptoSaid : Prop := coverServesUptoRow.holds Try.pinned (OpenSpec.upto coverServesSpec)

/-- 'soriteslaw12.CoverOrders', WHERE WHAT IT READS IS OF BULK AT MOST 1048576: true; the input reads as it did. -/
def coverOrdersUptoRow : OpenClaim := { program := "ytpjkphcfkpcfgaa", sum := "016b4fcc4349036732bd47c827495994d2b49484fe724264b9104ccdc6a5905a", func := "sorites/soriteslaw12.CoverOrders", spec := "coverOrders", unfollowed := true, recurses := true, apart := false, narrowed := true }
def CoverOrdersUptoSaid : Prop := coverOrdersUptoRow.holds Try.pinned (OpenSpec.upto coverOrdersSpec)

end Rows
end Go.Proofs.Ytpjkphcfkpcfgaa
