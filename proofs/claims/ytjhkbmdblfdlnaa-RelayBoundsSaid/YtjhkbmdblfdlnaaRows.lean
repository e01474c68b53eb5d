/-
  No cell of these rows narrows 'for every input' (looked for: loops, veiled, ifaces, maps, wideKeys, modest, calm, conditions, laid).
  DERIVED. THE GIVEN ROWS OF THIS SEAT. 9 by the template 'for every input the law returns true; each argument reads behind the call as it read before'; 0 by the template 'total and deterministic' (their statements: YtjhkbmdblfdlnaaTotals.lean).
  GIVEN WITH THE SEED: the statements are not yours to turn. If you find one false, say at which input.
  Laid BY PROGRAM, IN A SANDBOX (cutbox-rows.mjs): the forced cells as the released guide's own fill.sh prints them over the translation f20f896d11263ddf… (all of the seat's roots in one cut). By AI agents, Wed Nov 11 2026. No macro, syntax, notation, axiom, sorry.
-/
import Derived.Test.YtjhkbmdblfdlnaaChecked
import GoSem.Claim
import GoSem.ClaimJoined
import GoSem.ClaimMapViews
import Derived.JoinedTies
import Derived.KernelRfl
namespace Go.Proofs.Ytjhkbmdblfdlnaa
/- THE CELL 'sum', in the pinned program and in every row, IS THE sha256 OF THE DUMP (.gsa) THAT YtjhkbmdblfdlnaaProg.lean LOADS. Nothing in Lean hashes anything: it is a label: what it is worth is what the hold of that sum in a sandbox is worth. -/
noncomputable def Try.pinned : Pinned := { name := "ytjhkbmdblfdlnaa", sum := "f20f896d11263ddf5ab70e26bc22b295da626206fe5035e97e107e69d85aeef1", checked := Try.checked }
namespace Rows
def none {H : Type} : Left H := { results := [], args := [] }

/-- 'kissgatelaw10.PrioOrder': WHATEVER THE INPUT: true; the input reads as it did. -/
def prioOrderSpec : ChangeSpec := { name := "prioOrder", fn := fun _ => fun
  | [d1, d2, d3] => { results := [.lit (.bool true)], args := [d1, d2, d3] }
  | _ => none }
def prioOrderRow : OpenClaim := { program := "ytjhkbmdblfdlnaa", sum := "f20f896d11263ddf5ab70e26bc22b295da626206fe5035e97e107e69d85aeef1", func := "kissgate/kissgatelaw10.PrioOrder", spec := "prioOrder", apart := false }
def PrioOrderSaid : Prop := prioOrderRow.holds Try.pinned (OpenSpec.ofChange prioOrderSpec)

/-- ITS FALSE NEIGHBOUR: 'it returns false'. Refute it at one input. -/
def prioOrderWrong : ChangeSpec := { name := "prioOrder", fn := fun _ => fun
  | [d1, d2, d3] => { results := [.lit (.bool false)], args := [d1, d2, d3] }
  | _ => none }
def PrioOrderWrongFalsely : Prop := prioOrderRow.holds Try.pinned (OpenSpec.ofChange prioOrderWrong)

/-- 'kissgatelaw10.PrioBest': WHATEVER THE INPUT: true; the input reads as it did. -/
def prioBestSpec : ChangeSpec := { name := "prioBest", fn := fun _ => fun
  | [d1, d2] => { results := [.lit (.bool true)], args := [d1, d2] }
  | _ => none }
def prioBestRow : OpenClaim := { program := "ytjhkbmdblfdlnaa", sum := "f20f896d11263ddf5ab70e26bc22b295da626206fe5035e97e107e69d85aeef1", func := "kissgate/kissgatelaw10.PrioBest", spec := "prioBest", apart := false }
def PrioBestSaid : Prop := prioBestRow.holds Try.pinned (OpenSpec.ofChange prioBestSpec)

/-- ITS FALSE NEIGHBOUR: 'it returns false'. Refute it at one input. -/
def prioBestWrong : ChangeSpec := { name := "prioBest", fn := fun _ => fun
  | [d1, d2] => { results := [.lit (.bool false)], args := [d1, d2] }
  | _ => none }
def PrioBestWrongFalsely : Prop := prioBestRow.holds Try.pinned (OpenSpec.ofChange prioBestWrong)

/-- 'kissgatelaw10.PrioWays': WHATEVER THE INPUT: true; the input reads as it did. -/
def prioWaysSpec : ChangeSpec := { name := "prioWays", fn := fun _ => fun
  | [d1, d2, d3, d4] => { results := [.lit (.bool true)], args := [d1, d2, d3, d4] }
  | _ => none }
def prioWaysRow : OpenClaim := { program := "ytjhkbmdblfdlnaa", sum := "f20f896d11263ddf5ab70e26bc22b295da626206fe5035e97e107e69d85aeef1", func := "kissgate/kissgatelaw10.PrioWays", spec := "prioWays", apart := false }
def PrioWaysSaid : Prop := prioWaysRow.holds Try.pinned (OpenSpec.ofChange prioWaysSpec)

/-- ITS FALSE NEIGHBOUR: 'it returns false'. Refute it at one input. -/
def prioWaysWrong : ChangeSpec := { name := "prioWays", fn := fun _ => fun
  | [d1, d2, d3, d4] => { results := [.lit (.bool false)], args := [d1, d2, d3, d4] }
  | _ => none }
def PrioWaysWrongFalsely : Prop := prioWaysRow.holds Try.pinned (OpenSpec.ofChange prioWaysWrong)

/-- 'kissgatelaw10.PrioRoles': WHATEVER THE INPUT: true; the input reads as it did. -/
def prioRolesSpec : ChangeSpec := { name := "prioRoles", fn := fun _ => fun
  | [d1, d2] => { results := [.lit (.bool true)], args := [d1, d2] }
  | _ => none }
def prioRolesRow : OpenClaim := { program := "ytjhkbmdblfdlnaa", sum := "f20f896d11263ddf5ab70e26bc22b295da626206fe5035e97e107e69d85aeef1", func := "kissgate/kissgatelaw10.PrioRoles", spec := "prioRoles", apart := false }
def PrioRolesSaid : Prop := prioRolesRow.holds Try.pinned (OpenSpec.ofChange prioRolesSpec)

/-- ITS FALSE NEIGHBOUR: 'it returns false'. Refute it at one input. -/
def prioRolesWrong : ChangeSpec := { name := "prioRoles", fn := fun _ => fun
  | [d1, d2] => { results := [.lit (.bool false)], args := [d1, d2] }
  | _ => none }
def PrioRolesWrongFalsely : Prop := prioRolesRow.holds Try.pinned (OpenSpec.ofChange prioRolesWrong)

/-- 'kissgatelaw10.PrioAlone': WHATEVER THE INPUT: true; the input reads as it did. -/
def prioAloneSpec : ChangeSpec := { name := "prioAlone", fn := fun _ => fun
  | [d1, d2] => { results := [.lit (.bool true)], args := [d1, d2] }
  | _ => none }
def prioAloneRow : OpenClaim := { program := "ytjhkbmdblfdlnaa", sum := "f20f896d11263ddf5ab70e26bc22b295da626206fe5035e97e107e69d85aeef1", func := "kissgate/kissgatelaw10.PrioAlone", spec := "prioAlone", apart := false }
def PrioAloneSaid : Prop := prioAloneRow.holds Try.pinned (OpenSpec.ofChange prioAloneSpec)

/-- ITS FALSE NEIGHBOUR: 'it returns false'. Refute it at one input. -/
def prioAloneWrong : ChangeSpec := { name := "prioAlone", fn := fun _ => fun
  | [d1, d2] => { results := [.lit (.bool false)], args := [d1, d2] }
  | _ => none }
def PrioAloneWrongFalsely : Prop := prioAloneRow.holds Try.pinned (OpenSpec.ofChange prioAloneWrong)

/-- 'kissgatelaw10.PrioWorse': WHATEVER THE INPUT: true; the input reads as it did. -/
def prioWorseSpec : ChangeSpec := { name := "prioWorse", fn := fun _ => fun
  | [d1, d2, d3, d4] => { results := [.lit (.bool true)], args := [d1, d2, d3, d4] }
  | _ => none }
def prioWorseRow : OpenClaim := { program := "ytjhkbmdblfdlnaa", sum := "f20f896d11263ddf5ab70e26bc22b295da626206fe5035e97e107e69d85aeef1", func := "kissgate/kissgatelaw10.PrioWorse", spec := "prioWorse", apart := false }
def PrioWorseSaid : Prop := prioWorseRow.holds Try.pinned (OpenSpec.ofChange prioWorseSpec)

/-- ITS FALSE NEIGHBOUR: 'it returns false'. Refute it at one input. -/
def prioWorseWrong : ChangeSpec := { name := "prioWorse", fn := fun _ => fun
  | [d1, d2, d3, d4] => { results := [.lit (.bool false)], args := [d1, d2, d3, d4] }
  | _ => none }
def PrioWorseWrongFalsely : Prop := prioWorseRow.holds Try.pinned (OpenSpec.ofChange prioWorseWrong)

/-- 'kissgatelaw19.RelayQuiet': WHATEVER THE INPUT: true; the input reads as it did. -/
def relayQuietSpec : ChangeSpec := { name := "relayQuiet", fn := fun _ => fun
  | [d1, d2, d3, d4] => { results := [.lit (.bool true)], args := [d1, d2, d3, d4] }
  | _ => none }
def relayQuietRow : OpenClaim := { program := "ytjhkbmdblfdlnaa", sum := "f20f896d11263ddf5ab70e26bc22b295da626206fe5035e97e107e69d85aeef1", func := "kissgate/kissgatelaw19.RelayQuiet", spec := "relayQuiet", unfollowed := true, recurses := true, apart := false }
def RelayQuietSaid : Prop := relayQuietRow.holds Try.pinned (OpenSpec.ofChange relayQuietSpec)

/-- ITS FALSE NEIGHBOUR: 'it returns false'. Refute it at one input. -/
def relayQuietWrong : ChangeSpec := { name := "relayQuiet", fn := fun _ => fun
  | [d1, d2, d3, d4] => { results := [.lit (.bool false)], args := [d1, d2, d3, d4] }
  | _ => none }
def RelayQuietWrongFalsely : Prop := relayQuietRow.holds Try.pinned (OpenSpec.ofChange relayQuietWrong)

/-- 'kissgatelaw19.RelayBounds': WHATEVER THE INPUT: true; the input reads as it did. -/
def relayBoundsSpec : ChangeSpec := { name := "relayBounds", fn := fun _ => fun
  | [d1, d2, d3, d4] => { results := [.lit (.bool true)], args := [d1, d2, d3, d4] }
  | _ => none }
def relayBoundsRow : OpenClaim := { program := "ytjhkbmdblfdlnaa", sum := "f20f896d11263ddf5ab70e26bc22b295da626206fe5035e97e107e69d85aeef1", func := "kissgate/kissgatelaw19.RelayBounds", spec := "relayBounds", inPlace := ["slices.overlaps[kissgate/fdb.Place]"], unfollowed := true, recurses := true, apart := false }
def RelayBoundsSaid : Prop := relayBoundsRow.holds Try.pinned (OpenSpec.ofChange relayBoundsSpec)

/-- ITS FALSE NEIGHBOUR: 'it returns false'. Refute it at one input. -/
def relayBoundsWrong : ChangeSpec := { name := "relayBounds", fn := fun _ => fun
  | [d1, d2, d3, d4] => { results := [.lit (.bool false)], args := [d1, d2, d3, d4] }
  | _ => none }
def RelayBoundsWrongFalsely : Prop := relayBoundsRow.holds Try.pinned (OpenSpec.ofChange relayBoundsWrong)

/-- 'kissgatelaw10.PrioSorted': WHATEVER THE INPUT: true; the input reads as it did. -/
def prioSortedSpec : ChangeSpec := { name := "prioSorted", fn := fun _ => fun
  | [d1, d2] => { results := [.lit (.bool true)], args := [d1, d2] }
  | _ => none }
def prioSortedRow : OpenClaim := { program := "ytjhkbmdblfdlnaa", sum := "f20f896d11263ddf5ab70e26bc22b295da626206fe5035e97e107e69d85aeef1", func := "kissgate/kissgatelaw10.PrioSorted", spec := "prioSorted", unfollowed := true, recurses := true, apart := false }
def PrioSortedSaid : Prop := prioSortedRow.holds Try.pinned (OpenSpec.ofChange prioSortedSpec)

/-- ITS FALSE NEIGHBOUR: 'it returns false'. Refute it at one input. -/
def prioSortedWrong : ChangeSpec := { name := "prioSorted", fn := fun _ => fun
  | [d1, d2] => { results := [.lit (.bool false)], args := [d1, d2] }
  | _ => none }
def PrioSortedWrongFalsely : Prop := prioSortedRow.holds Try.pinned (OpenSpec.ofChange prioSortedWrong)

/- THE SECOND FORM. 'bulk': how many values and letters a reading holds, each counted each time it is reached (what is shared counts as often as it is met; a slice's spare places count too). A statement '..UptoSaid' is the law's where the arguments, and the package variables that the reading takes, are together of bulk at most 1048576: NARROWER than '..Said'. Prove '..Said' where nothing that the law and all that it calls make is longer than what came in: it says more and counts as full. Else prove '..UptoSaid'. A law counts once. -/
mutual
def uptoBulk {H : Type} : DataW H → Nat
  | .lit (.string bytes) => bytes.length + 1
  | .lit _ => 1
  | .nil => 1
  | .ptr d => uptoBulk d + 1
  | .slice elems spare => uptoBulkAll elems + uptoBulkAll spare + 1
  | .agg parts => uptoBulkAll parts + 1
  | .iface _ d => uptoBulk d + 1
  | .map entries => uptoBulkEntries entries + 1
  | .held _ => 1
def uptoBulkAll {H : Type} : List (DataW H) → Nat
  | [] => 0
  | d :: r => uptoBulk d + uptoBulkAll r
def uptoBulkEntries {H : Type} : List (Lit × DataW H) → Nat
  | [] => 0
  | x :: r => uptoBulkEntry x + uptoBulkEntries r
def uptoBulkEntry {H : Type} : Lit × DataW H → Nat
  | (.string bytes, d) => bytes.length + uptoBulk d + 1
  | (_, d) => uptoBulk d + 1
 end
def uptoSmall : (H : Type) → List (DataW H) → Bool := fun _ ds => decide (uptoBulkAll ds ≤ 1048576)
def OpenSpec.upto (s : _root_.Go.ChangeSpec) : _root_.Go.OpenSpec := { _root_.Go.OpenSpec.ofChange s with cond := some uptoSmall }

/-- 'kissgatelaw10.PrioOrder', WHERE WHAT IT READS IS OF BULK AT MOST 1048576: true; the input reads as it did. -/
def prioOrderUptoRow : OpenClaim := { program := "ytjhkbmdblfdlnaa", sum := "f20f896d11263ddf5ab70e26bc22b295da626206fe5035e97e107e69d85aeef1", func := "kissgate/kissgatelaw10.PrioOrder", spec := "prioOrder", apart := false, narrowed := true }
def PrioOrderUptoSaid : Prop := prioOrderUptoRow.holds Try.pinned (OpenSpec.upto prioOrderSpec)

/-- 'kissgatelaw10.PrioBest', WHERE WHAT IT READS IS OF BULK AT MOST 1048576: true; the input reads as it did. -/
def prioBestUptoRow : OpenClaim := { program := "ytjhkbmdblfdlnaa", sum := "f20f896d11263ddf5ab70e26bc22b295da626206fe5035e97e107e69d85aeef1", func := "kissgate/kissgatelaw10.PrioBest", spec := "prioBest", apart := false, narrowed := true }
def PrioBestUptoSaid : Prop := prioBestUptoRow.holds Try.pinned (OpenSpec.upto prioBestSpec)

/-- 'kissgatelaw10.PrioWays', WHERE WHAT IT READS IS OF BULK AT MOST 1048576: true; the input reads as it did. -/
def prioWaysUptoRow : OpenClaim := { program := "ytjhkbmdblfdlnaa", sum := "f20f896d11263ddf5ab70e26bc22b295da626206fe5035e97e107e69d85aeef1", func := "kissgate/kissgatelaw10.PrioWays", spec := "prioWays", apart := false, narrowed := true }
def PrioWaysUptoSaid : Prop := prioWaysUptoRow.holds Try.pinned (OpenSpec.upto prioWaysSpec)

/-- 'kissgatelaw10.PrioRoles', WHERE WHAT IT READS IS OF BULK AT MOST 1048576: true; the input reads as it did. -/
def prioRolesUptoRow : OpenClaim := { program := "ytjhkbmdblfdlnaa", sum := "f20f896d11263ddf5ab70e26bc22b295da626206fe5035e97e107e69d85aeef1", func := "kissgate/kissgatelaw10.PrioRoles", spec := "prioRoles", apart := false, narrowed := true }
def PrioRolesUptoSaid : Prop := prioRolesUptoRow.holds Try.pinned (OpenSpec.upto prioRolesSpec)

/-- 'kissgatelaw10.PrioAlone', WHERE WHAT IT READS IS OF BULK AT MOST 1048576: true; the input reads as it did. -/
def prioAloneUptoRow : OpenClaim := { program := "ytjhkbmdblfdlnaa", sum := "f20f896d11263ddf5ab70e26bc22b295da626206fe5035e97e107e69d85aeef1", func := "kissgate/kissgatelaw10.PrioAlone", spec := "prioAlone", apart := false, narrowed := true }
def PrioAloneUptoSaid : Prop := prioAloneUptoRow.holds Try.pinned (OpenSpec.upto prioAloneSpec)

/-- 'kissgatelaw10.PrioWorse', WHERE WHAT IT READS IS OF BULK AT MOST 1048576: true; the input reads as it did. -/
def prioWorseUptoRow : OpenClaim := { program := "ytjhkbmdblfdlnaa", sum := "f20f896d11263ddf5ab70e26bc22b295da626206fe5035e97e107e69d85aeef1", func := "kissgate/kissgatelaw10.PrioWorse", spec := "prioWorse", apart := false, narrowed := true }
def PrioWorseUptoSaid : Prop := prioWorseUptoRow.holds Try.pinned (OpenSpec.upto prioWorseSpec)

/-- 'kissgatelaw19.RelayQuiet', WHERE WHAT IT READS IS OF BULK AT MOST 1048576: true; the input reads as it did. -/
def relayQuietUptoRow : OpenClaim := { program := "ytjhkbmdblfdlnaa", sum := "f20f896d11263ddf5ab70e26bc22b295da626206fe5035e97e107e69d85aeef1", func := "kissgate/kissgatelaw19.RelayQuiet", spec := "relayQuiet", unfollowed := true, recurses := true, apart := false, narrowed := true }
def RelayQuietUptoSaid : Prop := relayQuietUptoRow.holds Try.pinned (OpenSpec.upto relayQuietSpec)

/-- 'kissgatelaw19.RelayBounds', WHERE WHAT IT READS IS OF BULK AT MOST 1048576: true; the input reads as it did. -/
def relayBoundsUptoRow : OpenClaim := { program := "ytjhkbmdblfdlnaa", sum := "f20f896d11263ddf5ab70e26bc22b295da626206fe5035e97e107e69d85aeef1", func := "kissgate/kissgatelaw19.RelayBounds", spec := "relayBounds", inPlace := ["slices.overlaps[kissgate/fdb.Place]"], unfollowed := true, recurses := true, apart := false, narrowed := true }
def RelayBoundsUptoSaid : Prop := relayBoundsUptoRow.holds Try.pinned (OpenSpec.upto relayBoundsSpec)

/-- 'kissgatelaw10.PrioSorted', WHERE WHAT IT READS IS OF BULK AT MOST 1048576: true; the input reads as it did. -/
def prioSortedUptoRow : OpenClaim := { program := "ytjhkbmdblfdlnaa", sum := "f20f896d11263ddf5ab70e26bc22b295da626206fe5035e97e107e69d85aeef1", func := "kissgate/kissgatelaw10.PrioSorted", spec := "prioSorted", unfollowed := true, recurses := true, apart := false, narrowed := true }
def PrioSortedUptoSaid : Prop := prioSortedUptoRow.holds Try.pinned (OpenSpec.upto prioSortedSpec)

end Rows
end Go.Proofs.Ytjhkbmdblfdlnaa
