/-
  No cell of these rows narrows 'for every input' (looked for: loops, veiled, ifaces, maps, wideKeys, modest, calm, conditions, laid).
  DERIVED. THE GIVEN ROWS OF THIS SEAT. 3 by the template 'for every input the law returns true; each argument reads behind the call as it read before'; 0 by the template 'total and deterministic' (their statements: YtpcmleeiaffkeaaTotals.lean).
  GIVEN WITH THE SEED: the statements are not yours to turn. If you find one false, say at which input.
  Laid BY PROGRAM, IN A SANDBOX (cutbox-rows.mjs): the forced cells as the released guide's own fill.sh prints them over the translation c19ac60450f71f2c… (all of the seat's roots in one cut). By AI agents, Wed Nov 11 2026. No macro, syntax, notation, axiom, sorry.
-/
import Derived.Test.YtpcmleeiaffkeaaChecked
import GoSem.Claim
import GoSem.ClaimJoined
import GoSem.ClaimMapViews
import Derived.JoinedTies
import Derived.KernelRfl
namespace Go.Proofs.Ytpcmleeiaffkeaa
/- THE CELL 'sum', in the pinned program and in every row, IS THE sha256 OF THE DUMP (.gsa) THAT YtpcmleeiaffkeaaProg.lean LOADS. Nothing in Lean hashes anything: it is a label: what it is worth is what the hold of that sum in a sandbox is worth. -/
noncomputable def Try.pinned : Pinned := { name := "ytpcmleeiaffkeaa", sum := "c19ac60450f71f2cefc007310e7659a40bd5e4d9f42f5cf943d4812678b216d9", checked := Try.checked }
namespace Rows
def none {H : Type} : Left H := { results := [], args := [] }

/-- 'kissgatelaw09.WheelDraws': WHATEVER THE INPUT: true; the input reads as it did. -/
def wheelDrawsSpec : ChangeSpec := { name := "wheelDraws", fn := fun _ => fun
  | [d1, d2, d3] => { results := [.lit (.bool true)], args := [d1, d2, d3] }
  | _ => none }
def wheelDrawsRow : OpenClaim := { program := "ytpcmleeiaffkeaa", sum := "c19ac60450f71f2cefc007310e7659a40bd5e4d9f42f5cf943d4812678b216d9", func := "kissgate/kissgatelaw09.WheelDraws", spec := "wheelDraws", inPlace := ["slices.overlaps[kissgate/wheel.Timer]"], unfollowed := true, recurses := true, apart := false }
def WheelDrawsSaid : Prop := wheelDrawsRow.holds Try.pinned (OpenSpec.ofChange wheelDrawsSpec)

/-- ITS FALSE NEIGHBOUR: 'it returns false'. Refute it at one input. -/
def wheelDrawsWrong : ChangeSpec := { name := "wheelDraws", fn := fun _ => fun
  | [d1, d2, d3] => { results := [.lit (.bool false)], args := [d1, d2, d3] }
  | _ => none }
def WheelDrawsWrongFalsely : Prop := wheelDrawsRow.holds Try.pinned (OpenSpec.ofChange wheelDrawsWrong)

/-- 'kissgatelaw09.WheelPops': WHATEVER THE INPUT: true; the input reads as it did. -/
def wheelPopsSpec : ChangeSpec := { name := "wheelPops", fn := fun _ => fun
  | [d1, d2] => { results := [.lit (.bool true)], args := [d1, d2] }
  | _ => none }
def wheelPopsRow : OpenClaim := { program := "ytpcmleeiaffkeaa", sum := "c19ac60450f71f2cefc007310e7659a40bd5e4d9f42f5cf943d4812678b216d9", func := "kissgate/kissgatelaw09.WheelPops", spec := "wheelPops", inPlace := ["slices.overlaps[kissgate/wheel.Timer]"], unfollowed := true, recurses := true, apart := false }
def WheelPopsSaid : Prop := wheelPopsRow.holds Try.pinned (OpenSpec.ofChange wheelPopsSpec)

/-- ITS FALSE NEIGHBOUR: 'it returns false'. Refute it at one input. -/
def wheelPopsWrong : ChangeSpec := { name := "wheelPops", fn := fun _ => fun
  | [d1, d2] => { results := [.lit (.bool false)], args := [d1, d2] }
  | _ => none }
def WheelPopsWrongFalsely : Prop := wheelPopsRow.holds Try.pinned (OpenSpec.ofChange wheelPopsWrong)

/-- 'kissgatelaw09.WheelOne': WHATEVER THE INPUT: true; the input reads as it did. -/
def wheelOneSpec : ChangeSpec := { name := "wheelOne", fn := fun _ => fun
  | [d1, d2, d3, d4] => { results := [.lit (.bool true)], args := [d1, d2, d3, d4] }
  | _ => none }
def wheelOneRow : OpenClaim := { program := "ytpcmleeiaffkeaa", sum := "c19ac60450f71f2cefc007310e7659a40bd5e4d9f42f5cf943d4812678b216d9", func := "kissgate/kissgatelaw09.WheelOne", spec := "wheelOne", inPlace := ["slices.overlaps[kissgate/wheel.Timer]"], unfollowed := true, recurses := true, apart := false }
def WheelOneSaid : Prop := wheelOneRow.holds Try.pinned (OpenSpec.ofChange wheelOneSpec)

/-- ITS FALSE NEIGHBOUR: 'it returns false'. Refute it at one input. -/
def wheelOneWrong : ChangeSpec := { name := "wheelOne", fn := fun _ => fun
  | [d1, d2, d3, d4] => { results := [.lit (.bool false)], args := [d1, d2, d3, d4] }
  | _ => none }
def WheelOneWrongFalsely : Prop := wheelOneRow.holds Try.pinned (OpenSpec.ofChange wheelOneWrong)

/- THE SECOND FORM. 'bulk': how many values and letters a reading holds, each counted each time it is reached (what is shared counts as often as it is met; a slice's spare places count too). A statement '..UptoSaid' is the law's where the arguments, and the package variables that the reading takes, are together of bulk at most 1048576: NARROWER than '..Said'. Prove '..Said' where nothing that the law and all that it calls make is longer than what came in: it says more and counts as full. Else prove '..UptoSaid'. A law counts once. -/
mutual
def uptoBulk {H : Type} : DataW H → Nat
  | .lit (.string bytes) => bytes.length + 1
  | .lit _ => 1
  | .nil => 1
  | .ptr d => uptoBulk d + 1
  | .slice elems spare => uptoBulkAll elems + uptoBulkAll spare + 1
  | .agg parts => uptoBulkAll parts + 1
  | .iface _ d => uptoBulk d + 1
  | .map entries => uptoBulkEntries entries + 1
  | .held _ => 1
def uptoBulkAll {H : Type} : List (DataW H) → Nat
  | [] => 0
  | d :: r => uptoBulk d + uptoBulkAll r
def uptoBulkEntries {H : Type} : List (Lit × DataW H) → Nat
  | [] => 0
  | x :: r => uptoBulkEntry x + uptoBulkEntries r
def uptoBulkEntry {H : Type} : Lit × DataW H → Nat
  | (.string bytes, d) => bytes.length + uptoBulk d + 1
  | (_, d) => uptoBulk d + 1
 end
def uptoSmall : (H : Type) → List (DataW H) → Bool := fun _ ds => decide (uptoBulkAll ds ≤ 1048576)
def OpenSpec.upto (s : _root_.Go.ChangeSpec) : _root_.Go.OpenSpec := { _root_.Go.OpenSpec.ofChange s with cond := some uptoSmall }

/-- 'kissgatelaw09.WheelDraws', WHERE WHAT IT READS IS OF BULK AT MOST 1048576: true; the input reads as it did. -/
def wheelDrawsUptoRow : OpenClaim := { program := "ytpcmleeiaffkeaa", sum := "c19ac60450f71f2cefc007310e7659a40bd5e4d9f42f5cf943d4812678b216d9", func := "kissgate/kissgatelaw09.WheelDraws", spec := "wheelDraws", inPlace := ["slices.overlaps[kissgate/wheel.Timer]"], unfollowed := true, recurses := true, apart := false, narrowed := true }
def WheelDrawsUptoSaid : Prop := wheelDrawsUptoRow.holds Try.pinned (OpenSpec.upto wheelDrawsSpec)

/-- 'kissgatelaw09.WheelPops', WHERE WHAT IT READS IS OF BULK AT MOST 1048576: true; the input reads as it did. -/
def wheelPopsUptoRow : OpenClaim := { program := "ytpcmleeiaffkeaa", sum := "c19ac60450f71f2cefc007310e7659a40bd5e4d9f42f5cf943d4812678b216d9", func := "kissgate/kissgatelaw09.WheelPops", spec := "wheelPops", inPlace := ["slices.overlaps[kissgate/wheel.Timer]"], unfollowed := true, recurses := true, apart := false, narrowed := true }
def WheelPopsUptoSaid : Prop := wheelPopsUptoRow.holds Try.pinned (OpenSpec.upto wheelPopsSpec)

/-- 'kissgatelaw09.WheelOne', WHERE WHAT IT READS IS OF BULK AT MOST 1048576: true; the input reads as it did. -/
def wheelOneUptoRow : OpenClaim := { program := "ytpcmleeiaffkeaa", sum := "c19ac60450f71f2cefc007310e7659a40bd5e4d9f42f5cf943d4812678b216d9", func := "kissgate/kissgatelaw09.WheelOne", spec := "wheelOne", inPlace := ["slices.overlaps[kissgate/wheel.Timer]"], unfollowed := true, recurses := true, apart := false, narrowed := true }
def WheelOneUptoSaid : Prop := wheelOneUptoRow.holds Try.pinned (OpenSpec.upto wheelOneSpec)

end Rows
end Go.Proofs.Ytpcmleeiaffkeaa
