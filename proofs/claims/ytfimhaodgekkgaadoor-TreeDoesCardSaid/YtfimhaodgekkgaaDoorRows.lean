/-
  NARROWER THAN 'FOR EVERY INPUT', by the rows' own cells (each row's printed sentence says how): TreeSpans: laid · TreeSays: laid · TreeForgets: laid · TreeDoes: laid.
  DERIVED. THE GIVEN ROWS OF THIS SEAT. 4 by the template 'for every input the law returns true; each argument reads behind the call as it read before'; 0 by the template 'total and deterministic' (their statements: YtfimhaodgekkgaaDoorTotals.lean).
  GIVEN WITH THE SEED: the statements are not yours to turn. If you find one false, say at which input.
  Laid BY PROGRAM, IN A SANDBOX (cutbox-rows.mjs): the forced cells as the released guide's own fill.sh prints them over the translation 13de09007a919f5b… (all of the seat's roots in one cut). By AI agents, Wed Nov 11 2026. No macro, syntax, notation, axiom, sorry.
-/
import Derived.Test.YtfimhaodgekkgaaDoorChecked
import GoSem.Claim
import GoSem.ClaimJoined
import GoSem.ClaimMapViews
import Derived.JoinedTies
import Derived.KernelRfl
namespace Go.Proofs.YtfimhaodgekkgaaDoor
/- THE CELL 'sum', in the pinned program and in every row, IS THE sha256 OF THE DUMP (.gsa) THAT YtfimhaodgekkgaaDoorProg.lean LOADS. Nothing in Lean hashes anything: it is a label: what it is worth is what the hold of that sum in a sandbox is worth. -/
noncomputable def Tryd.pinned : Pinned := { name := "ytfimhaodgekkgaadoor", sum := "13de09007a919f5bd280c9495b912416d726fea299449308132485366f3d39d0", checked := Tryd.checked }
namespace Rows
def none {H : Type} : Left H := { results := [], args := [] }

/- WHAT THE LISTED PACKAGE-LEVEL VARIABLES READ AS WHEN THE CALL BEGINS. Each datum BY PROGRAM (the guide's laid-datum.mjs) off the statement by which the dump's own 'gosem.cut.vars' lays the variable. In a bare row this is a premise. The card (YtfimhaodgekkgaaDoorCards.lean) ties it to the program's text. -/
def laid_kissgate_tree_none {H : Type} : DataW H := .agg [.agg [.lit (.int .i64 0), .lit (.int .i64 0), .lit (.int .i64 0), .lit (.int .i64 0)], .lit (.int .i64 0), .lit (.int .i64 0), .lit (.bool true)]

/-- 'kissgatelaw12.TreeSpans': WHATEVER THE INPUT: true; the input reads as it did. -/
def treeSpansSpec : ChangeSpec := { name := "treeSpans", fn := fun _ => fun
  | [d1, d2] => { results := [.lit (.bool true)], args := [d1, d2] }
  | _ => none }
def treeSpansRow : OpenClaim := { program := "ytfimhaodgekkgaadoor", sum := "13de09007a919f5bd280c9495b912416d726fea299449308132485366f3d39d0", func := "kissgate/kissgatelaw12.TreeSpans", spec := "treeSpans", named := ["kissgate/tree.none"], apart := false, laid := [("kissgate/tree.none", laid_kissgate_tree_none)] }
def TreeSpansSaid : Prop := treeSpansRow.holds Tryd.pinned (OpenSpec.ofChange treeSpansSpec)

/-- ITS FALSE NEIGHBOUR: 'it returns false'. Refute it at one input. -/
def treeSpansWrong : ChangeSpec := { name := "treeSpans", fn := fun _ => fun
  | [d1, d2] => { results := [.lit (.bool false)], args := [d1, d2] }
  | _ => none }
def TreeSpansWrongFalsely : Prop := treeSpansRow.holds Tryd.pinned (OpenSpec.ofChange treeSpansWrong)

/-- 'kissgatelaw12.TreeSays': WHATEVER THE INPUT: true; the input reads as it did. -/
def treeSaysSpec : ChangeSpec := { name := "treeSays", fn := fun _ => fun
  | [d1, d2, d3] => { results := [.lit (.bool true)], args := [d1, d2, d3] }
  | _ => none }
def treeSaysRow : OpenClaim := { program := "ytfimhaodgekkgaadoor", sum := "13de09007a919f5bd280c9495b912416d726fea299449308132485366f3d39d0", func := "kissgate/kissgatelaw12.TreeSays", spec := "treeSays", named := ["kissgate/tree.none"], apart := false, laid := [("kissgate/tree.none", laid_kissgate_tree_none)] }
def TreeSaysSaid : Prop := treeSaysRow.holds Tryd.pinned (OpenSpec.ofChange treeSaysSpec)

/-- ITS FALSE NEIGHBOUR: 'it returns false'. Refute it at one input. -/
def treeSaysWrong : ChangeSpec := { name := "treeSays", fn := fun _ => fun
  | [d1, d2, d3] => { results := [.lit (.bool false)], args := [d1, d2, d3] }
  | _ => none }
def TreeSaysWrongFalsely : Prop := treeSaysRow.holds Tryd.pinned (OpenSpec.ofChange treeSaysWrong)

/-- 'kissgatelaw12.TreeForgets': WHATEVER THE INPUT: true; the input reads as it did. -/
def treeForgetsSpec : ChangeSpec := { name := "treeForgets", fn := fun _ => fun
  | [d1, d2, d3] => { results := [.lit (.bool true)], args := [d1, d2, d3] }
  | _ => none }
def treeForgetsRow : OpenClaim := { program := "ytfimhaodgekkgaadoor", sum := "13de09007a919f5bd280c9495b912416d726fea299449308132485366f3d39d0", func := "kissgate/kissgatelaw12.TreeForgets", spec := "treeForgets", named := ["kissgate/tree.none"], apart := false, laid := [("kissgate/tree.none", laid_kissgate_tree_none)] }
def TreeForgetsSaid : Prop := treeForgetsRow.holds Tryd.pinned (OpenSpec.ofChange treeForgetsSpec)

/-- ITS FALSE NEIGHBOUR: 'it returns false'. Refute it at one input. -/
def treeForgetsWrong : ChangeSpec := { name := "treeForgets", fn := fun _ => fun
  | [d1, d2, d3] => { results := [.lit (.bool false)], args := [d1, d2, d3] }
  | _ => none }
def TreeForgetsWrongFalsely : Prop := treeForgetsRow.holds Tryd.pinned (OpenSpec.ofChange treeForgetsWrong)

/-- 'kissgatelaw12.TreeDoes': WHATEVER THE INPUT: true; the input reads as it did. -/
def treeDoesSpec : ChangeSpec := { name := "treeDoes", fn := fun _ => fun
  | [d1, d2, d3] => { results := [.lit (.bool true)], args := [d1, d2, d3] }
  | _ => none }
def treeDoesRow : OpenClaim := { program := "ytfimhaodgekkgaadoor", sum := "13de09007a919f5bd280c9495b912416d726fea299449308132485366f3d39d0", func := "kissgate/kissgatelaw12.TreeDoes", spec := "treeDoes", named := ["kissgate/tree.none"], apart := false, laid := [("kissgate/tree.none", laid_kissgate_tree_none)] }
def TreeDoesSaid : Prop := treeDoesRow.holds Tryd.pinned (OpenSpec.ofChange treeDoesSpec)

/-- ITS FALSE NEIGHBOUR: 'it returns false'. Refute it at one input. -/
def treeDoesWrong : ChangeSpec := { name := "treeDoes", fn := fun _ => fun
  | [d1, d2, d3] => { results := [.lit (.bool false)], args := [d1, d2, d3] }
  | _ => none }
def TreeDoesWrongFalsely : Prop := treeDoesRow.holds Tryd.pinned (OpenSpec.ofChange treeDoesWrong)

/- THE SECOND FORM. 'bulk': how many values and letters a reading holds, each counted each time it is reached (what is shared counts as often as it is met; a slice's spare places count too). A statement '..UptoSaid' is the law's where the arguments, and the package variables that the reading takes, are together of bulk at most 1048576: NARROWER than '..Said'. Prove '..Said' where nothing that the law and all that it calls make is longer than what came in: it says more and counts as full. Else prove '..UptoSaid'. A law counts once. -/
mutual
def uptoBulk {H : Type} : DataW H → Nat
  | .lit (.string bytes) => bytes.length + 1
  | .lit _ => 1
  | .nil => 1
  | .ptr d => uptoBulk d + 1
  | .slice elems spare => uptoBulkAll elems + uptoBulkAll spare + 1
  | .agg parts => uptoBulkAll parts + 1
  | .iface _ d => uptoBulk d + 1
  | .map entries => uptoBulkEntries entries + 1
  | .held _ => 1
def uptoBulkAll {H : Type} : List (DataW H) → Nat
  | [] => 0
  | d :: r => uptoBulk d + uptoBulkAll r
def uptoBulkEntries {H : Type} : List (Lit × DataW H) → Nat
  | [] => 0
  | x :: r => uptoBulkEntry x + uptoBulkEntries r
def uptoBulkEntry {H : Type} : Lit × DataW H → Nat
  | (.string bytes, d) => bytes.length + uptoBulk d + 1
  | (_, d) => uptoBulk d + 1
 end
def uptoSmall : (H : Type) → List (DataW H) → Bool := fun _ ds => decide (uptoBulkAll ds ≤ 1048576)
def OpenSpec.upto (s : _root_.Go.ChangeSpec) : _root_.Go.OpenSpec := { _root_.Go.OpenSpec.ofChange s with cond := some uptoSmall }

/-- 'kissgatelaw12.TreeSpans', WHERE WHAT IT READS IS OF BULK AT MOST 1048576: true; the input reads as it did. -/
def treeSpansUptoRow : OpenClaim := { program := "ytfimhaodgekkgaadoor", sum := "13de09007a919f5bd280c9495b912416d726fea299449308132485366f3d39d0", func := "kissgate/kissgatelaw12.TreeSpans", spec := "treeSpans", named := ["kissgate/tree.none"], apart := false, laid := [("kissgate/tree.none", laid_kissgate_tree_none)], narrowed := true }
def TreeSpansUptoSaid : Prop := treeSpansUptoRow.holds Tryd.pinned (OpenSpec.upto treeSpansSpec)

/-- 'kissgatelaw12.TreeSays', WHERE WHAT IT READS IS OF BULK AT MOST 1048576: true; the input reads as it did. -/
def treeSaysUptoRow : OpenClaim := { program := "ytfimhaodgekkgaadoor", sum := "13de09007a919f5bd280c9495b912416d726fea299449308132485366f3d39d0", func := "kissgate/kissgatelaw12.TreeSays", spec := "treeSays", named := ["kissgate/tree.none"], apart := false, laid := [("kissgate/tree.none", laid_kissgate_tree_none)], narrowed := true }
def TreeSaysUptoSaid : Prop := treeSaysUptoRow.holds Tryd.pinned (OpenSpec.upto treeSaysSpec)

/-- 'kissgatelaw12.TreeForgets', WHERE WHAT IT READS IS OF BULK AT MOST 1048576: true; the input reads as it did. -/
def treeForgetsUptoRow : OpenClaim := { program := "ytfimhaodgekkgaadoor", sum := "13de09007a919f5bd280c9495b912416d726fea299449308132485366f3d39d0", func := "kissgate/kissgatelaw12.TreeForgets", spec := "treeForgets", named := ["kissgate/tree.none"], apart := false, laid := [("kissgate/tree.none", laid_kissgate_tree_none)], narrowed := true }
def TreeForgetsUptoSaid : Prop := treeForgetsUptoRow.holds Tryd.pinned (OpenSpec.upto treeForgetsSpec)

/-- 'kissgatelaw12.TreeDoes', WHERE WHAT IT READS IS OF BULK AT MOST 1048576: true; the input reads as it did. -/
def treeDoesUptoRow : OpenClaim := { program := "ytfimhaodgekkgaadoor", sum := "13de09007a919f5bd280c9495b912416d726fea299449308132485366f3d39d0", func := "kissgate/kissgatelaw12.TreeDoes", spec := "treeDoes", named := ["kissgate/tree.none"], apart := false, laid := [("kissgate/tree.none", laid_kissgate_tree_none)], narrowed := true }
def TreeDoesUptoSaid : Prop := treeDoesUptoRow.holds Tryd.pinned (OpenSpec.upto treeDoesSpec)

end Rows
end Go.Proofs.YtfimhaodgekkgaaDoor
