/-
  NARROWER THAN 'FOR EVERY INPUT', by the rows' own cells (each row's printed sentence says how): PartyTalks: laid · PartyApart: laid · PartyBound: laid.
  DERIVED. THE GIVEN ROWS OF THIS SEAT. 3 by the template 'for every input the law returns true; each argument reads behind the call as it read before'; 0 by the template 'total and deterministic' (their statements: YtkahciadkgjbbaaDoorTotals.lean).
  GIVEN WITH THE SEED: the statements are not yours to turn. If you find one false, say at which input.
  Laid BY PROGRAM, IN A SANDBOX (cutbox-rows.mjs): the forced cells as the released guide's own fill.sh prints them over the translation 9ff60ce699c13341… (all of the seat's roots in one cut). By AI agents, Wed Nov 11 2026. No macro, syntax, notation, axiom, sorry.
-/
import Derived.Test.YtkahciadkgjbbaaDoorChecked
import GoSem.Claim
import GoSem.ClaimJoined
import GoSem.ClaimMapViews
import Derived.JoinedTies
import Derived.KernelRfl
namespace Go.Proofs.YtkahciadkgjbbaaDoor
/- THE CELL 'sum', in the pinned program and in every row, IS THE sha256 OF THE DUMP (.gsa) THAT YtkahciadkgjbbaaDoorProg.lean LOADS. Nothing in Lean hashes anything: it is a label: what it is worth is what the hold of that sum in a sandbox is worth. -/
noncomputable def Tryd.pinned : Pinned := { name := "ytkahciadkgjbbaadoor", sum := "9ff60ce699c1334171ccaa8226e9d839264136dc8f912b81b5dba18ab7f6156e", checked := Tryd.checked }
namespace Rows
def none {H : Type} : Left H := { results := [], args := [] }

/- WHAT THE LISTED PACKAGE-LEVEL VARIABLES READ AS WHEN THE CALL BEGINS. Each datum BY PROGRAM (the guide's laid-datum.mjs) off the statement by which the dump's own 'gosem.cut.vars' lays the variable. In a bare row this is a premise. The card (YtkahciadkgjbbaaDoorCards.lean) ties it to the program's text. -/
def laid_kissgate_appli_events {H : Type} : DataW H := .agg [.lit (.int .i64 0), .lit (.int .i64 0), .lit (.int .i64 1), .lit (.int .i64 5)]

/-- 'kissgatelaw16.PartyTalks': WHATEVER THE INPUT: true; the input reads as it did. -/
def partyTalksSpec : ChangeSpec := { name := "partyTalks", fn := fun _ => fun
  | [d1, d2, d3, d4] => { results := [.lit (.bool true)], args := [d1, d2, d3, d4] }
  | _ => none }
def partyTalksRow : OpenClaim := { program := "ytkahciadkgjbbaadoor", sum := "9ff60ce699c1334171ccaa8226e9d839264136dc8f912b81b5dba18ab7f6156e", func := "kissgate/kissgatelaw16.PartyTalks", spec := "partyTalks", inPlace := ["slices.overlaps[*kissgate/party.slot]"], unfollowed := true, recurses := true, named := ["kissgate/appli.events"], apart := false, laid := [("kissgate/appli.events", laid_kissgate_appli_events)] }
def PartyTalksSaid : Prop := partyTalksRow.holds Tryd.pinned (OpenSpec.ofChange partyTalksSpec)

/-- ITS FALSE NEIGHBOUR: 'it returns false'. Refute it at one input. -/
def partyTalksWrong : ChangeSpec := { name := "partyTalks", fn := fun _ => fun
  | [d1, d2, d3, d4] => { results := [.lit (.bool false)], args := [d1, d2, d3, d4] }
  | _ => none }
def PartyTalksWrongFalsely : Prop := partyTalksRow.holds Tryd.pinned (OpenSpec.ofChange partyTalksWrong)

/-- 'kissgatelaw16.PartyApart': WHATEVER THE INPUT: true; the input reads as it did. -/
def partyApartSpec : ChangeSpec := { name := "partyApart", fn := fun _ => fun
  | [d1, d2, d3] => { results := [.lit (.bool true)], args := [d1, d2, d3] }
  | _ => none }
def partyApartRow : OpenClaim := { program := "ytkahciadkgjbbaadoor", sum := "9ff60ce699c1334171ccaa8226e9d839264136dc8f912b81b5dba18ab7f6156e", func := "kissgate/kissgatelaw16.PartyApart", spec := "partyApart", inPlace := ["slices.overlaps[*kissgate/party.slot]"], unfollowed := true, recurses := true, named := ["kissgate/appli.events"], apart := false, laid := [("kissgate/appli.events", laid_kissgate_appli_events)] }
def PartyApartSaid : Prop := partyApartRow.holds Tryd.pinned (OpenSpec.ofChange partyApartSpec)

/-- ITS FALSE NEIGHBOUR: 'it returns false'. Refute it at one input. -/
def partyApartWrong : ChangeSpec := { name := "partyApart", fn := fun _ => fun
  | [d1, d2, d3] => { results := [.lit (.bool false)], args := [d1, d2, d3] }
  | _ => none }
def PartyApartWrongFalsely : Prop := partyApartRow.holds Tryd.pinned (OpenSpec.ofChange partyApartWrong)

/-- 'kissgatelaw16.PartyBound': WHATEVER THE INPUT: true; the input reads as it did. -/
def partyBoundSpec : ChangeSpec := { name := "partyBound", fn := fun _ => fun
  | [d1, d2] => { results := [.lit (.bool true)], args := [d1, d2] }
  | _ => none }
def partyBoundRow : OpenClaim := { program := "ytkahciadkgjbbaadoor", sum := "9ff60ce699c1334171ccaa8226e9d839264136dc8f912b81b5dba18ab7f6156e", func := "kissgate/kissgatelaw16.PartyBound", spec := "partyBound", inPlace := ["slices.overlaps[*kissgate/party.slot]"], unfollowed := true, recurses := true, named := ["kissgate/appli.events"], apart := false, laid := [("kissgate/appli.events", laid_kissgate_appli_events)] }
def PartyBoundSaid : Prop := partyBoundRow.holds Tryd.pinned (OpenSpec.ofChange partyBoundSpec)

/-- ITS FALSE NEIGHBOUR: 'it returns false'. Refute it at one input. -/
def partyBoundWrong : ChangeSpec := { name := "partyBound", fn := fun _ => fun
  | [d1, d2] => { results := [.lit (.bool false)], args := [d1, d2] }
  | _ => none }
def PartyBoundWrongFalsely : Prop := partyBoundRow.holds Tryd.pinned (OpenSpec.ofChange partyBoundWrong)

/- THE SECOND FORM. 'bulk': how many values and letters a reading holds, each counted each time it is reached (what is shared counts as often as it is met; a slice's spare places count too). A statement '..UptoSaid' is the law's where the arguments, and the package variables that the reading takes, are together of bulk at most 1048576: NARROWER than '..Said'. Prove '..Said' where nothing that the law and all that it calls make is longer than what came in: it says more and counts as full. Else prove '..UptoSaid'. A law counts once. -/
mutual
def uptoBulk {H : Type} : DataW H → Nat
  | .lit (.string bytes) => bytes.length + 1
  | .lit _ => 1
  | .nil => 1
  | .ptr d => uptoBulk d + 1
  | .slice elems spare => uptoBulkAll elems + uptoBulkAll spare + 1
  | .agg parts => uptoBulkAll parts + 1
  | .iface _ d => uptoBulk d + 1
  | .map entries => uptoBulkEntries entries + 1
  | .held _ => 1
def uptoBulkAll {H : Type} : List (DataW H) → Nat
  | [] => 0
  | d :: r => uptoBulk d + uptoBulkAll r
def uptoBulkEntries {H : Type} : List (Lit × DataW H) → Nat
  | [] => 0
  | x :: r => uptoBulkEntry x + uptoBulkEntries r
def uptoBulkEntry {H : Type} : Lit × DataW H → Nat
  | (.string bytes, d) => bytes.length + uptoBulk d + 1
  | (_, d) => uptoBulk d + 1
 end
def uptoSmall : (H : Type) → List (DataW H) → Bool := fun _ ds => decide (uptoBulkAll ds ≤ 1048576)
def OpenSpec.upto (s : _root_.Go.ChangeSpec) : _root_.Go.OpenSpec := { _root_.Go.OpenSpec.ofChange s with cond := some uptoSmall }

/-- 'kissgatelaw16.PartyTalks', WHERE WHAT IT READS IS OF BULK AT MOST 1048576: true; the input reads as it did. -/
def partyTalksUptoRow : OpenClaim := { program := "ytkahciadkgjbbaadoor", sum := "9ff60ce699c1334171ccaa8226e9d839264136dc8f912b81b5dba18ab7f6156e", func := "kissgate/kissgatelaw16.PartyTalks", spec := "partyTalks", inPlace := ["slices.overlaps[*kissgate/party.slot]"], unfollowed := true, recurses := true, named := ["kissgate/appli.events"], apart := false, laid := [("kissgate/appli.events", laid_kissgate_appli_events)], narrowed := true }
def PartyTalksUptoSaid : Prop := partyTalksUptoRow.holds Tryd.pinned (OpenSpec.upto partyTalksSpec)

/-- 'kissgatelaw16.PartyApart', WHERE WHAT IT READS IS OF BULK AT MOST 1048576: true; the input reads as it did. -/
def partyApartUptoRow : OpenClaim := { program := "ytkahciadkgjbbaadoor", sum := "9ff60ce699c1334171ccaa8226e9d839264136dc8f912b81b5dba18ab7f6156e", func := "kissgate/kissgatelaw16.PartyApart", spec := "partyApart", inPlace := ["slices.overlaps[*kissgate/party.slot]"], unfollowed := true, recurses := true, named := ["kissgate/appli.events"], apart := false, laid := [("kissgate/appli.events", laid_kissgate_appli_events)], narrowed := true }
def PartyApartUptoSaid : Prop := partyApartUptoRow.holds Tryd.pinned (OpenSpec.upto partyApartSpec)

/-- 'kissgatelaw16.PartyBound', WHERE WHAT IT READS IS OF BULK AT MOST 1048576: true; the input reads as it did. -/
def partyBoundUptoRow : OpenClaim := { program := "ytkahciadkgjbbaadoor", sum := "9ff60ce699c1334171ccaa8226e9d839264136dc8f912b81b5dba18ab7f6156e", func := "kissgate/kissgatelaw16.PartyBound", spec := "partyBound", inPlace := ["slices.overlaps[*kissgate/party.slot]"], unfollowed := true, recurses := true, named := ["kissgate/appli.events"], apart := false, laid := [("kissgate/appli.events", laid_kissgate_appli_events)], narrowed := true }
def PartyBoundUptoSaid : Prop := partyBoundUptoRow.holds Tryd.pinned (OpenSpec.upto partyBoundSpec)

end Rows
end Go.Proofs.YtkahciadkgjbbaaDoor
