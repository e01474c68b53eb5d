/-
  No cell of these rows narrows 'for every input' (looked for: loops, veiled, ifaces, maps, wideKeys, modest, calm, conditions, laid).
  DERIVED. THE GIVEN ROWS OF THIS SEAT. 11 by the template 'for every input the law returns true; each argument reads behind the call as it read before'; 0 by the template 'total and deterministic' (their statements: YtbcngajkokjfjaaTotals.lean).
  GIVEN WITH THE SEED: the statements are not yours to turn. If you find one false, say at which input.
  Laid BY PROGRAM, IN A SANDBOX (cutbox-rows.mjs): the forced cells as the released guide's own fill.sh prints them over the translation d78b7eadce761e05… (all of the seat's roots in one cut). By AI agents, Wed Nov 11 2026. No macro, syntax, notation, axiom, sorry.
-/
import Derived.Test.YtbcngajkokjfjaaChecked
import GoSem.Claim
import GoSem.ClaimJoined
import GoSem.ClaimMapViews
import Derived.JoinedTies
import Derived.KernelRfl
namespace Go.Proofs.Ytbcngajkokjfjaa
/- THE CELL 'sum', in the pinned program and in every row, IS THE sha256 OF THE DUMP (.gsa) THAT YtbcngajkokjfjaaProg.lean LOADS. Nothing in Lean hashes anything: it is a label: what it is worth is what the hold of that sum in a sandbox is worth. -/
noncomputable def Try.pinned : Pinned := { name := "ytbcngajkokjfjaa", sum := "d78b7eadce761e05db48ba1808fe50cfd6fba1179be91888a888a71007292bd8", checked := Try.checked }
namespace Rows
def none {H : Type} : Left H := { results := [], args := [] }

/-- 'kissgatelaw13.TableRuns': WHATEVER THE INPUT: true; the input reads as it did. -/
def tableRunsSpec : ChangeSpec := { name := "tableRuns", fn := fun _ => fun
  | [d1, d2, d3, d4] => { results := [.lit (.bool true)], args := [d1, d2, d3, d4] }
  | _ => none }
def tableRunsRow : OpenClaim := { program := "ytbcngajkokjfjaa", sum := "d78b7eadce761e05db48ba1808fe50cfd6fba1179be91888a888a71007292bd8", func := "kissgate/kissgatelaw13.TableRuns", spec := "tableRuns", apart := false }
def TableRunsSaid : Prop := tableRunsRow.holds Try.pinned (OpenSpec.ofChange tableRunsSpec)

/-- ITS FALSE NEIGHBOUR: 'it returns false'. Refute it at one input. -/
def tableRunsWrong : ChangeSpec := { name := "tableRuns", fn := fun _ => fun
  | [d1, d2, d3, d4] => { results := [.lit (.bool false)], args := [d1, d2, d3, d4] }
  | _ => none }
def TableRunsWrongFalsely : Prop := tableRunsRow.holds Try.pinned (OpenSpec.ofChange tableRunsWrong)

/-- 'kissgatelaw13.TableEnds': WHATEVER THE INPUT: true; the input reads as it did. -/
def tableEndsSpec : ChangeSpec := { name := "tableEnds", fn := fun _ => fun
  | [d] => { results := [.lit (.bool true)], args := [d] }
  | _ => none }
def tableEndsRow : OpenClaim := { program := "ytbcngajkokjfjaa", sum := "d78b7eadce761e05db48ba1808fe50cfd6fba1179be91888a888a71007292bd8", func := "kissgate/kissgatelaw13.TableEnds", spec := "tableEnds", apart := false }
def TableEndsSaid : Prop := tableEndsRow.holds Try.pinned (OpenSpec.ofChange tableEndsSpec)

/-- ITS FALSE NEIGHBOUR: 'it returns false'. Refute it at one input. -/
def tableEndsWrong : ChangeSpec := { name := "tableEnds", fn := fun _ => fun
  | [d] => { results := [.lit (.bool false)], args := [d] }
  | _ => none }
def TableEndsWrongFalsely : Prop := tableEndsRow.holds Try.pinned (OpenSpec.ofChange tableEndsWrong)

/-- 'kissgatelaw17.SpreadWants': WHATEVER THE INPUT: true; the input reads as it did. -/
def spreadWantsSpec : ChangeSpec := { name := "spreadWants", fn := fun _ => fun
  | [d1, d2, d3] => { results := [.lit (.bool true)], args := [d1, d2, d3] }
  | _ => none }
def spreadWantsRow : OpenClaim := { program := "ytbcngajkokjfjaa", sum := "d78b7eadce761e05db48ba1808fe50cfd6fba1179be91888a888a71007292bd8", func := "kissgate/kissgatelaw17.SpreadWants", spec := "spreadWants", apart := false }
def SpreadWantsSaid : Prop := spreadWantsRow.holds Try.pinned (OpenSpec.ofChange spreadWantsSpec)

/-- ITS FALSE NEIGHBOUR: 'it returns false'. Refute it at one input. -/
def spreadWantsWrong : ChangeSpec := { name := "spreadWants", fn := fun _ => fun
  | [d1, d2, d3] => { results := [.lit (.bool false)], args := [d1, d2, d3] }
  | _ => none }
def SpreadWantsWrongFalsely : Prop := spreadWantsRow.holds Try.pinned (OpenSpec.ofChange spreadWantsWrong)

/-- 'kissgatelaw17.SpreadBack': WHATEVER THE INPUT: true; the input reads as it did. -/
def spreadBackSpec : ChangeSpec := { name := "spreadBack", fn := fun _ => fun
  | [d1, d2, d3] => { results := [.lit (.bool true)], args := [d1, d2, d3] }
  | _ => none }
def spreadBackRow : OpenClaim := { program := "ytbcngajkokjfjaa", sum := "d78b7eadce761e05db48ba1808fe50cfd6fba1179be91888a888a71007292bd8", func := "kissgate/kissgatelaw17.SpreadBack", spec := "spreadBack", apart := false }
def SpreadBackSaid : Prop := spreadBackRow.holds Try.pinned (OpenSpec.ofChange spreadBackSpec)

/-- ITS FALSE NEIGHBOUR: 'it returns false'. Refute it at one input. -/
def spreadBackWrong : ChangeSpec := { name := "spreadBack", fn := fun _ => fun
  | [d1, d2, d3] => { results := [.lit (.bool false)], args := [d1, d2, d3] }
  | _ => none }
def SpreadBackWrongFalsely : Prop := spreadBackRow.holds Try.pinned (OpenSpec.ofChange spreadBackWrong)

/-- 'kissgatelaw17.SpreadClosed': WHATEVER THE INPUT: true; the input reads as it did. -/
def spreadClosedSpec : ChangeSpec := { name := "spreadClosed", fn := fun _ => fun
  | [d1, d2, d3, d4] => { results := [.lit (.bool true)], args := [d1, d2, d3, d4] }
  | _ => none }
def spreadClosedRow : OpenClaim := { program := "ytbcngajkokjfjaa", sum := "d78b7eadce761e05db48ba1808fe50cfd6fba1179be91888a888a71007292bd8", func := "kissgate/kissgatelaw17.SpreadClosed", spec := "spreadClosed", apart := false }
def SpreadClosedSaid : Prop := spreadClosedRow.holds Try.pinned (OpenSpec.ofChange spreadClosedSpec)

/-- ITS FALSE NEIGHBOUR: 'it returns false'. Refute it at one input. -/
def spreadClosedWrong : ChangeSpec := { name := "spreadClosed", fn := fun _ => fun
  | [d1, d2, d3, d4] => { results := [.lit (.bool false)], args := [d1, d2, d3, d4] }
  | _ => none }
def SpreadClosedWrongFalsely : Prop := spreadClosedRow.holds Try.pinned (OpenSpec.ofChange spreadClosedWrong)

/-- 'kissgatelaw17.SpreadUp': WHATEVER THE INPUT: true; the input reads as it did. -/
def spreadUpSpec : ChangeSpec := { name := "spreadUp", fn := fun _ => fun
  | [d1, d2, d3, d4, d5] => { results := [.lit (.bool true)], args := [d1, d2, d3, d4, d5] }
  | _ => none }
def spreadUpRow : OpenClaim := { program := "ytbcngajkokjfjaa", sum := "d78b7eadce761e05db48ba1808fe50cfd6fba1179be91888a888a71007292bd8", func := "kissgate/kissgatelaw17.SpreadUp", spec := "spreadUp", apart := false }
def SpreadUpSaid : Prop := spreadUpRow.holds Try.pinned (OpenSpec.ofChange spreadUpSpec)

/-- ITS FALSE NEIGHBOUR: 'it returns false'. Refute it at one input. -/
def spreadUpWrong : ChangeSpec := { name := "spreadUp", fn := fun _ => fun
  | [d1, d2, d3, d4, d5] => { results := [.lit (.bool false)], args := [d1, d2, d3, d4, d5] }
  | _ => none }
def SpreadUpWrongFalsely : Prop := spreadUpRow.holds Try.pinned (OpenSpec.ofChange spreadUpWrong)

/-- 'kissgatelaw13.TableLeaves': WHATEVER THE INPUT: true; the input reads as it did. -/
def tableLeavesSpec : ChangeSpec := { name := "tableLeaves", fn := fun _ => fun
  | [d] => { results := [.lit (.bool true)], args := [d] }
  | _ => none }
def tableLeavesRow : OpenClaim := { program := "ytbcngajkokjfjaa", sum := "d78b7eadce761e05db48ba1808fe50cfd6fba1179be91888a888a71007292bd8", func := "kissgate/kissgatelaw13.TableLeaves", spec := "tableLeaves", apart := false }
def TableLeavesSaid : Prop := tableLeavesRow.holds Try.pinned (OpenSpec.ofChange tableLeavesSpec)

/-- ITS FALSE NEIGHBOUR: 'it returns false'. Refute it at one input. -/
def tableLeavesWrong : ChangeSpec := { name := "tableLeaves", fn := fun _ => fun
  | [d] => { results := [.lit (.bool false)], args := [d] }
  | _ => none }
def TableLeavesWrongFalsely : Prop := tableLeavesRow.holds Try.pinned (OpenSpec.ofChange tableLeavesWrong)

/-- 'kissgatelaw13.TableGood': WHATEVER THE INPUT: true; the input reads as it did. -/
def tableGoodSpec : ChangeSpec := { name := "tableGood", fn := fun _ => fun
  | [d1, d2, d3] => { results := [.lit (.bool true)], args := [d1, d2, d3] }
  | _ => none }
def tableGoodRow : OpenClaim := { program := "ytbcngajkokjfjaa", sum := "d78b7eadce761e05db48ba1808fe50cfd6fba1179be91888a888a71007292bd8", func := "kissgate/kissgatelaw13.TableGood", spec := "tableGood", apart := false }
def TableGoodSaid : Prop := tableGoodRow.holds Try.pinned (OpenSpec.ofChange tableGoodSpec)

/-- ITS FALSE NEIGHBOUR: 'it returns false'. Refute it at one input. -/
def tableGoodWrong : ChangeSpec := { name := "tableGood", fn := fun _ => fun
  | [d1, d2, d3] => { results := [.lit (.bool false)], args := [d1, d2, d3] }
  | _ => none }
def TableGoodWrongFalsely : Prop := tableGoodRow.holds Try.pinned (OpenSpec.ofChange tableGoodWrong)

/-- 'kissgatelaw13.TableIs': WHATEVER THE INPUT: true; the input reads as it did. -/
def tableIsSpec : ChangeSpec := { name := "tableIs", fn := fun _ => fun
  | [d1, d2, d3] => { results := [.lit (.bool true)], args := [d1, d2, d3] }
  | _ => none }
def tableIsRow : OpenClaim := { program := "ytbcngajkokjfjaa", sum := "d78b7eadce761e05db48ba1808fe50cfd6fba1179be91888a888a71007292bd8", func := "kissgate/kissgatelaw13.TableIs", spec := "tableIs", apart := false }
def TableIsSaid : Prop := tableIsRow.holds Try.pinned (OpenSpec.ofChange tableIsSpec)

/-- ITS FALSE NEIGHBOUR: 'it returns false'. Refute it at one input. -/
def tableIsWrong : ChangeSpec := { name := "tableIs", fn := fun _ => fun
  | [d1, d2, d3] => { results := [.lit (.bool false)], args := [d1, d2, d3] }
  | _ => none }
def TableIsWrongFalsely : Prop := tableIsRow.holds Try.pinned (OpenSpec.ofChange tableIsWrong)

/-- 'kissgatelaw13.TableReach': WHATEVER THE INPUT: true; the input reads as it did. -/
def tableReachSpec : ChangeSpec := { name := "tableReach", fn := fun _ => fun
  | [d1, d2] => { results := [.lit (.bool true)], args := [d1, d2] }
  | _ => none }
def tableReachRow : OpenClaim := { program := "ytbcngajkokjfjaa", sum := "d78b7eadce761e05db48ba1808fe50cfd6fba1179be91888a888a71007292bd8", func := "kissgate/kissgatelaw13.TableReach", spec := "tableReach", recurses := true, apart := false }
def TableReachSaid : Prop := tableReachRow.holds Try.pinned (OpenSpec.ofChange tableReachSpec)

/-- ITS FALSE NEIGHBOUR: 'it returns false'. Refute it at one input. -/
def tableReachWrong : ChangeSpec := { name := "tableReach", fn := fun _ => fun
  | [d1, d2] => { results := [.lit (.bool false)], args := [d1, d2] }
  | _ => none }
def TableReachWrongFalsely : Prop := tableReachRow.holds Try.pinned (OpenSpec.ofChange tableReachWrong)

/-- 'kissgatelaw17.SpreadAll': WHATEVER THE INPUT: true; the input reads as it did. -/
def spreadAllSpec : ChangeSpec := { name := "spreadAll", fn := fun _ => fun
  | [d1, d2, d3] => { results := [.lit (.bool true)], args := [d1, d2, d3] }
  | _ => none }
def spreadAllRow : OpenClaim := { program := "ytbcngajkokjfjaa", sum := "d78b7eadce761e05db48ba1808fe50cfd6fba1179be91888a888a71007292bd8", func := "kissgate/kissgatelaw17.SpreadAll", spec := "spreadAll", unfollowed := true, recurses := true, apart := false }
def SpreadAllSaid : Prop := spreadAllRow.holds Try.pinned (OpenSpec.ofChange spreadAllSpec)

/-- ITS FALSE NEIGHBOUR: 'it returns false'. Refute it at one input. -/
def spreadAllWrong : ChangeSpec := { name := "spreadAll", fn := fun _ => fun
  | [d1, d2, d3] => { results := [.lit (.bool false)], args := [d1, d2, d3] }
  | _ => none }
def SpreadAllWrongFalsely : Prop := spreadAllRow.holds Try.pinned (OpenSpec.ofChange spreadAllWrong)

/- THE SECOND FORM. 'bulk': how many values and letters a reading holds, each counted each time it is reached (what is shared counts as often as it is met; a slice's spare places count too). A statement '..UptoSaid' is the law's where the arguments, and the package variables that the reading takes, are together of bulk at most 1048576: NARROWER than '..Said'. Prove '..Said' where nothing that the law and all that it calls make is longer than what came in: it says more and counts as full. Else prove '..UptoSaid'. A law counts once. -/
mutual
def uptoBulk {H : Type} : DataW H → Nat
  | .lit (.string bytes) => bytes.length + 1
  | .lit _ => 1
  | .nil => 1
  | .ptr d => uptoBulk d + 1
  | .slice elems spare => uptoBulkAll elems + uptoBulkAll spare + 1
  | .agg parts => uptoBulkAll parts + 1
  | .iface _ d => uptoBulk d + 1
  | .map entries => uptoBulkEntries entries + 1
  | .held _ => 1
def uptoBulkAll {H : Type} : List (DataW H) → Nat
  | [] => 0
  | d :: r => uptoBulk d + uptoBulkAll r
def uptoBulkEntries {H : Type} : List (Lit × DataW H) → Nat
  | [] => 0
  | x :: r => uptoBulkEntry x + uptoBulkEntries r
def uptoBulkEntry {H : Type} : Lit × DataW H → Nat
  | (.string bytes, d) => bytes.length + uptoBulk d + 1
  | (_, d) => uptoBulk d + 1
 end
def uptoSmall : (H : Type) → List (DataW H) → Bool := fun _ ds => decide (uptoBulkAll ds ≤ 1048576)
def OpenSpec.upto (s : _root_.Go.ChangeSpec) : _root_.Go.OpenSpec := { _root_.Go.OpenSpec.ofChange s with cond := some uptoSmall }

/-- 'kissgatelaw13.TableRuns', WHERE WHAT IT READS IS OF BULK AT MOST 1048576: true; the input reads as it did. -/
def tableRunsUptoRow : OpenClaim := { program := "ytbcngajkokjfjaa", sum := "d78b7eadce761e05db48ba1808fe50cfd6fba1179be91888a888a71007292bd8", func := "kissgate/kissgatelaw13.TableRuns", spec := "tableRuns", apart := false, narrowed := true }
def TableRunsUptoSaid : Prop := tableRunsUptoRow.holds Try.pinned (OpenSpec.upto tableRunsSpec)

/-- 'kissgatelaw13.TableEnds', WHERE WHAT IT READS IS OF BULK AT MOST 1048576: true; the input reads as it did. -/
def tableEndsUptoRow : OpenClaim := { program := "ytbcngajkokjfjaa", sum := "d78b7eadce761e05db48ba1808fe50cfd6fba1179be91888a888a71007292bd8", func := "kissgate/kissgatelaw13.TableEnds", spec := "tableEnds", apart := false, narrowed := true }
def TableEndsUptoSaid : Prop := tableEndsUptoRow.holds Try.pinned (OpenSpec.upto tableEndsSpec)

/-- 'kissgatelaw17.SpreadWants', WHERE WHAT IT READS IS OF BULK AT MOST 1048576: true; the input reads as it did. -/
def spreadWantsUptoRow : OpenClaim := { program := "ytbcngajkokjfjaa", sum := "d78b7eadce761e05db48ba1808fe50cfd6fba1179be91888a888a71007292bd8", func := "kissgate/kissgatelaw17.SpreadWants", spec := "spreadWants", apart := false, narrowed := true }
def SpreadWantsUptoSaid : Prop := spreadWantsUptoRow.holds Try.pinned (OpenSpec.upto spreadWantsSpec)

/-- 'kissgatelaw17.SpreadBack', WHERE WHAT IT READS IS OF BULK AT MOST 1048576: true; the input reads as it did. -/
def spreadBackUptoRow : OpenClaim := { program := "ytbcngajkokjfjaa", sum := "d78b7eadce761e05db48ba1808fe50cfd6fba1179be91888a888a71007292bd8", func := "kissgate/kissgatelaw17.SpreadBack", spec := "spreadBack", apart := false, narrowed := true }
def SpreadBackUptoSaid : Prop := spreadBackUptoRow.holds Try.pinned (OpenSpec.upto spreadBackSpec)

/-- 'kissgatelaw17.SpreadClosed', WHERE WHAT IT READS IS OF BULK AT MOST 1048576: true; the input reads as it did. -/
def spreadClosedUptoRow : OpenClaim := { program := "ytbcngajkokjfjaa", sum := "d78b7eadce761e05db48ba1808fe50cfd6fba1179be91888a888a71007292bd8", func := "kissgate/kissgatelaw17.SpreadClosed", spec := "spreadClosed", apart := false, narrowed := true }
def SpreadClosedUptoSaid : Prop := spreadClosedUptoRow.holds Try.pinned (OpenSpec.upto spreadClosedSpec)

/-- 'kissgatelaw17.SpreadUp', WHERE WHAT IT READS IS OF BULK AT MOST 1048576: true; the input reads as it did. -/
def spreadUpUptoRow : OpenClaim := { program := "ytbcngajkokjfjaa", sum := "d78b7eadce761e05db48ba1808fe50cfd6fba1179be91888a888a71007292bd8", func := "kissgate/kissgatelaw17.SpreadUp", spec := "spreadUp", apart := false, narrowed := true }
def SpreadUpUptoSaid : Prop := spreadUpUptoRow.holds Try.pinned (OpenSpec.upto spreadUpSpec)

/-- 'kissgatelaw13.TableLeaves', WHERE WHAT IT READS IS OF BULK AT MOST 1048576: true; the input reads as it did. -/
def tableLeavesUptoRow : OpenClaim := { program := "ytbcngajkokjfjaa", sum := "d78b7eadce761e05db48ba1808fe50cfd6fba1179be91888a888a71007292bd8", func := "kissgate/kissgatelaw13.TableLeaves", spec := "tableLeaves", apart := false, narrowed := true }
def TableLeavesUptoSaid : Prop := tableLeavesUptoRow.holds Try.pinned (OpenSpec.upto tableLeavesSpec)

/-- 'kissgatelaw13.TableGood', WHERE WHAT IT READS IS OF BULK AT MOST 1048576: true; the input reads as it did. -/
def tableGoodUptoRow : OpenClaim := { program := "ytbcngajkokjfjaa", sum := "d78b7eadce761e05db48ba1808fe50cfd6fba1179be91888a888a71007292bd8", func := "kissgate/kissgatelaw13.TableGood", spec := "tableGood", apart := false, narrowed := true }
def TableGoodUptoSaid : Prop := tableGoodUptoRow.holds Try.pinned (OpenSpec.upto tableGoodSpec)

/-- 'kissgatelaw13.TableIs', WHERE WHAT IT READS IS OF BULK AT MOST 1048576: true; the input reads as it did. -/
def tableIsUptoRow : OpenClaim := { program := "ytbcngajkokjfjaa", sum := "d78b7eadce761e05db48ba1808fe50cfd6fba1179be91888a888a71007292bd8", func := "kissgate/kissgatelaw13.TableIs", spec := "tableIs", apart := false, narrowed := true }
def TableIsUptoSaid : Prop := tableIsUptoRow.holds Try.pinned (OpenSpec.upto tableIsSpec)

/-- 'kissgatelaw13.TableReach', WHERE WHAT IT READS IS OF BULK AT MOST 1048576: true; the input reads as it did. -/
def tableReachUptoRow : OpenClaim := { program := "ytbcngajkokjfjaa", sum := "d78b7eadce761e05db48ba1808fe50cfd6fba1179be91888a888a71007292bd8", func := "kissgate/kissgatelaw13.TableReach", spec := "tableReach", recurses := true, apart := false, narrowed := true }
def TableReachUptoSaid : Prop := tableReachUptoRow.holds Try.pinned (OpenSpec.upto tableReachSpec)

/-- 'kissgatelaw17.SpreadAll', WHERE WHAT IT READS IS OF BULK AT MOST 1048576: true; the input reads as it did. -/
def spreadAllUptoRow : OpenClaim := { program := "ytbcngajkokjfjaa", sum := "d78b7eadce761e05db48ba1808fe50cfd6fba1179be91888a888a71007292bd8", func := "kissgate/kissgatelaw17.SpreadAll", spec := "spreadAll", unfollowed := true, recurses := true, apart := false, narrowed := true }
def SpreadAllUptoSaid : Prop := spreadAllUptoRow.holds Try.pinned (OpenSpec.upto spreadAllSpec)

end Rows
end Go.Proofs.Ytbcngajkokjfjaa
