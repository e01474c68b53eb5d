/-
  No cell of these rows narrows 'for every input' (looked for: loops, veiled, ifaces, maps, wideKeys, modest, calm, conditions, laid).
  DERIVED. THE GIVEN ROWS OF THIS SEAT. 3 by the template 'for every input the law returns true; each argument reads behind the call as it read before'; 0 by the template 'total and deterministic' (their statements: YtlehkobakddgbaaTotals.lean).
  GIVEN WITH THE SEED: the statements are not yours to turn. If you find one false, say at which input.
  Laid BY PROGRAM, IN A SANDBOX (cutbox-rows.mjs): the forced cells as the released guide's own fill.sh prints them over the translation bab8c79f9a88972b… (all of the seat's roots in one cut). By AI agents, Wed Nov 11 2026. No macro, syntax, notation, axiom, sorry.
-/
import Derived.Test.YtlehkobakddgbaaChecked
import GoSem.Claim
import GoSem.ClaimJoined
import GoSem.ClaimMapViews
import Derived.JoinedTies
import Derived.KernelRfl
namespace Go.Proofs.Ytlehkobakddgbaa
/- THE CELL 'sum', in the pinned program and in every row, IS THE sha256 OF THE DUMP (.gsa) THAT YtlehkobakddgbaaProg.lean LOADS. Nothing in Lean hashes anything: it is a label: what it is worth is what the hold of that sum in a sandbox is worth. -/
noncomputable def Try.pinned : Pinned := { name := "ytlehkobakddgbaa", sum := "bab8c79f9a88972b90b5a8d1f95ab8c49f522abf600d68858f36bb215fc72a4b", checked := Try.checked }
namespace Rows
def none {H : Type} : Left H := { results := [], args := [] }

/-- 'kissgatelaw18.FdbApart': WHATEVER THE INPUT: true; the input reads as it did. -/
def fdbApartSpec : ChangeSpec := { name := "fdbApart", fn := fun _ => fun
  | [d1, d2] => { results := [.lit (.bool true)], args := [d1, d2] }
  | _ => none }
def fdbApartRow : OpenClaim := { program := "ytlehkobakddgbaa", sum := "bab8c79f9a88972b90b5a8d1f95ab8c49f522abf600d68858f36bb215fc72a4b", func := "kissgate/kissgatelaw18.FdbApart", spec := "fdbApart", inPlace := ["slices.overlaps[kissgate/fdb.Place]"], unfollowed := true, recurses := true, apart := false }
def FdbApartSaid : Prop := fdbApartRow.holds Try.pinned (OpenSpec.ofChange fdbApartSpec)

/-- ITS FALSE NEIGHBOUR: 'it returns false'. Refute it at one input. -/
def fdbApartWrong : ChangeSpec := { name := "fdbApart", fn := fun _ => fun
  | [d1, d2] => { results := [.lit (.bool false)], args := [d1, d2] }
  | _ => none }
def FdbApartWrongFalsely : Prop := fdbApartRow.holds Try.pinned (OpenSpec.ofChange fdbApartWrong)

/-- 'kissgatelaw18.FdbBound': WHATEVER THE INPUT: true; the input reads as it did. -/
def fdbBoundSpec : ChangeSpec := { name := "fdbBound", fn := fun _ => fun
  | [d1, d2, d3] => { results := [.lit (.bool true)], args := [d1, d2, d3] }
  | _ => none }
def fdbBoundRow : OpenClaim := { program := "ytlehkobakddgbaa", sum := "bab8c79f9a88972b90b5a8d1f95ab8c49f522abf600d68858f36bb215fc72a4b", func := "kissgate/kissgatelaw18.FdbBound", spec := "fdbBound", inPlace := ["slices.overlaps[kissgate/fdb.Place]"], unfollowed := true, recurses := true, apart := false }
def FdbBoundSaid : Prop := fdbBoundRow.holds Try.pinned (OpenSpec.ofChange fdbBoundSpec)

/-- ITS FALSE NEIGHBOUR: 'it returns false'. Refute it at one input. -/
def fdbBoundWrong : ChangeSpec := { name := "fdbBound", fn := fun _ => fun
  | [d1, d2, d3] => { results := [.lit (.bool false)], args := [d1, d2, d3] }
  | _ => none }
def FdbBoundWrongFalsely : Prop := fdbBoundRow.holds Try.pinned (OpenSpec.ofChange fdbBoundWrong)

/-- 'kissgatelaw18.FdbDoes': WHATEVER THE INPUT: true; the input reads as it did. -/
def fdbDoesSpec : ChangeSpec := { name := "fdbDoes", fn := fun _ => fun
  | [d] => { results := [.lit (.bool true)], args := [d] }
  | _ => none }
def fdbDoesRow : OpenClaim := { program := "ytlehkobakddgbaa", sum := "bab8c79f9a88972b90b5a8d1f95ab8c49f522abf600d68858f36bb215fc72a4b", func := "kissgate/kissgatelaw18.FdbDoes", spec := "fdbDoes", inPlace := ["slices.overlaps[kissgate/fdb.Place]"], unfollowed := true, recurses := true, apart := false }
def FdbDoesSaid : Prop := fdbDoesRow.holds Try.pinned (OpenSpec.ofChange fdbDoesSpec)

/-- ITS FALSE NEIGHBOUR: 'it returns false'. Refute it at one input. -/
def fdbDoesWrong : ChangeSpec := { name := "fdbDoes", fn := fun _ => fun
  | [d] => { results := [.lit (.bool false)], args := [d] }
  | _ => none }
def FdbDoesWrongFalsely : Prop := fdbDoesRow.holds Try.pinned (OpenSpec.ofChange fdbDoesWrong)

/- THE SECOND FORM. 'bulk': how many values and letters a reading holds, each counted each time it is reached (what is shared counts as often as it is met; a slice's spare places count too). A statement '..UptoSaid' is the law's where the arguments, and the package variables that the reading takes, are together of bulk at most 1048576: NARROWER than '..Said'. Prove '..Said' where nothing that the law and all that it calls make is longer than what came in: it says more and counts as full. Else prove '..UptoSaid'. A law counts once. -/
mutual
def uptoBulk {H : Type} : DataW H → Nat
  | .lit (.string bytes) => bytes.length + 1
  | .lit _ => 1
  | .nil => 1
  | .ptr d => uptoBulk d + 1
  | .slice elems spare => uptoBulkAll elems + uptoBulkAll spare + 1
  | .agg parts => uptoBulkAll parts + 1
  | .iface _ d => uptoBulk d + 1
  | .map entries => uptoBulkEntries entries + 1
  | .held _ => 1
def uptoBulkAll {H : Type} : List (DataW H) → Nat
  | [] => 0
  | d :: r => uptoBulk d + uptoBulkAll r
def uptoBulkEntries {H : Type} : List (Lit × DataW H) → Nat
  | [] => 0
  | x :: r => uptoBulkEntry x + uptoBulkEntries r
def uptoBulkEntry {H : Type} : Lit × DataW H → Nat
  | (.string bytes, d) => bytes.length + uptoBulk d + 1
  | (_, d) => uptoBulk d + 1
 end
def uptoSmall : (H : Type) → List (DataW H) → Bool := fun _ ds => decide (uptoBulkAll ds ≤ 1048576)
def OpenSpec.upto (s : _root_.Go.ChangeSpec) : _root_.Go.OpenSpec := { _root_.Go.OpenSpec.ofChange s with cond := some uptoSmall }

/-- 'kissgatelaw18.FdbApart', WHERE WHAT IT READS IS OF BULK AT MOST 1048576: true; the input reads as it did. -/
def fdbApartUptoRow : OpenClaim := { program := "ytlehkobakddgbaa", sum := "bab8c79f9a88972b90b5a8d1f95ab8c49f522abf600d68858f36bb215fc72a4b", func := "kissgate/kissgatelaw18.FdbApart", spec := "fdbApart", inPlace := ["slices.overlaps[kissgate/fdb.Place]"], unfollowed := true, recurses := true, apart := false, narrowed := true }
def FdbApartUptoSaid : Prop := fdbApartUptoRow.holds Try.pinned (OpenSpec.upto fdbApartSpec)

/-- 'kissgatelaw18.FdbBound', WHERE WHAT IT READS IS OF BULK AT MOST 1048576: true; the input reads as it did. -/
def fdbBoundUptoRow : OpenClaim := { program := "ytlehkobakddgbaa", sum := "bab8c79f9a88972b90b5a8d1f95ab8c49f522abf600d68858f36bb215fc72a4b", func := "kissgate/kissgatelaw18.FdbBound", spec := "fdbBound", inPlace := ["slices.overlaps[kissgate/fdb.Place]"], unfollowed := true, recurses := true, apart := false, narrowed := true }
def FdbBoundUptoSaid : Prop := fdbBoundUptoRow.holds Try.pinned (OpenSpec.upto fdbBoundSpec)

/-- 'kissgatelaw18.FdbDoes', WHERE WHAT IT READS IS OF BULK AT MOST 1048576: true; the input reads as it did. -/
def fdbDoesUptoRow : OpenClaim := { program := "ytlehkobakddgbaa", sum := "bab8c79f9a88972b90b5a8d1f95ab8c49f522abf600d68858f36bb215fc72a4b", func := "kissgate/kissgatelaw18.FdbDoes", spec := "fdbDoes", inPlace := ["slices.overlaps[kissgate/fdb.Place]"], unfollowed := true, recurses := true, apart := false, narrowed := true }
def FdbDoesUptoSaid : Prop := fdbDoesUptoRow.holds Try.pinned (OpenSpec.upto fdbDoesSpec)

end Rows
end Go.Proofs.Ytlehkobakddgbaa
