/-
  DERIVED. GIVEN WITH THE SEED: THE CARDS: each row of YtfimhaodgekkgaaDoorRows.lean that lists a variable, with what it lists TIED to the program's text (the seventh form; the later family's looks); each row that meets fmt, with fmt's text TOLD by the authors' own Lean function (tested against real Go, not proved from fmt's source: count such statements apart). THE CARD IS WHAT COUNTS. Prove the row's statement (the work); the ties are given (YtfimhaodgekkgaaDoorTie.lean); close each card by the builder's one call (the guide's Derived/Test/ToyasCard.lean, 'card_holds'). Laid BY PROGRAM, IN A SANDBOX (cutbox-door.mjs). By AI agents, Wed Nov 11 2026. No macro, syntax, notation, axiom, sorry.
-/
import Derived.Test.YtfimhaodgekkgaaDoorRows
import GoSem.ClaimSeven
namespace Go.Proofs.YtfimhaodgekkgaaDoor
namespace Rows

/-- THE TIED CARD OF 'kissgatelaw12.TreeSpans'. -/
def treeSpansCard : Claim7 := { stood := { row := treeSpansRow, standIns := [], harness := (true, "fdf82fe035afffc7a157394c16ed2f1f327e12299de0c0fd487c5ca54040f60a"), looks := false }, kinds := [], alts := [], laidByText := true, laidKinds := [.data], laidTests := true, laidLooks := .later }
def TreeSpansCardSaid : Prop := Claim7.holds Tryd.pinned (.plain (OpenSpec.ofChange treeSpansSpec)) treeSpansCard

/-- THE TIED CARD OF 'kissgatelaw12.TreeSays'. -/
def treeSaysCard : Claim7 := { stood := { row := treeSaysRow, standIns := [], harness := (true, "fdf82fe035afffc7a157394c16ed2f1f327e12299de0c0fd487c5ca54040f60a"), looks := false }, kinds := [], alts := [], laidByText := true, laidKinds := [.data], laidTests := true, laidLooks := .later }
def TreeSaysCardSaid : Prop := Claim7.holds Tryd.pinned (.plain (OpenSpec.ofChange treeSaysSpec)) treeSaysCard

/-- THE TIED CARD OF 'kissgatelaw12.TreeForgets'. -/
def treeForgetsCard : Claim7 := { stood := { row := treeForgetsRow, standIns := [], harness := (true, "fdf82fe035afffc7a157394c16ed2f1f327e12299de0c0fd487c5ca54040f60a"), looks := false }, kinds := [], alts := [], laidByText := true, laidKinds := [.data], laidTests := true, laidLooks := .later }
def TreeForgetsCardSaid : Prop := Claim7.holds Tryd.pinned (.plain (OpenSpec.ofChange treeForgetsSpec)) treeForgetsCard

/-- THE TIED CARD OF 'kissgatelaw12.TreeDoes'. -/
def treeDoesCard : Claim7 := { stood := { row := treeDoesRow, standIns := [], harness := (true, "fdf82fe035afffc7a157394c16ed2f1f327e12299de0c0fd487c5ca54040f60a"), looks := false }, kinds := [], alts := [], laidByText := true, laidKinds := [.data], laidTests := true, laidLooks := .later }
def TreeDoesCardSaid : Prop := Claim7.holds Tryd.pinned (.plain (OpenSpec.ofChange treeDoesSpec)) treeDoesCard

/-- THE SECOND FORM's CARD OF 'kissgatelaw12.TreeSpans'. -/
def treeSpansUptoCard : Claim7 := { stood := { row := treeSpansUptoRow, standIns := [], harness := (true, "fdf82fe035afffc7a157394c16ed2f1f327e12299de0c0fd487c5ca54040f60a"), looks := false }, kinds := [], alts := [], laidByText := true, laidKinds := [.data], laidTests := true, laidLooks := .later }
def TreeSpansUptoCardSaid : Prop := Claim7.holds Tryd.pinned (.plain (OpenSpec.upto treeSpansSpec)) treeSpansUptoCard

/-- THE SECOND FORM's CARD OF 'kissgatelaw12.TreeSays'. -/
def treeSaysUptoCard : Claim7 := { stood := { row := treeSaysUptoRow, standIns := [], harness := (true, "fdf82fe035afffc7a157394c16ed2f1f327e12299de0c0fd487c5ca54040f60a"), looks := false }, kinds := [], alts := [], laidByText := true, laidKinds := [.data], laidTests := true, laidLooks := .later }
def TreeSaysUptoCardSaid : Prop := Claim7.holds Tryd.pinned (.plain (OpenSpec.upto treeSaysSpec)) treeSaysUptoCard

/-- THE SECOND FORM's CARD OF 'kissgatelaw12.TreeForgets'. -/
def treeForgetsUptoCard : Claim7 := { stood := { row := treeForgetsUptoRow, standIns := [], harness := (true, "fdf82fe035afffc7a157394c16ed2f1f327e12299de0c0fd487c5ca54040f60a"), looks := false }, kinds := [], alts := [], laidByText := true, laidKinds := [.data], laidTests := true, laidLooks := .later }
def TreeForgetsUptoCardSaid : Prop := Claim7.holds Tryd.pinned (.plain (OpenSpec.upto treeForgetsSpec)) treeForgetsUptoCard

/-- THE SECOND FORM's CARD OF 'kissgatelaw12.TreeDoes'. -/
def treeDoesUptoCard : Claim7 := { stood := { row := treeDoesUptoRow, standIns := [], harness := (true, "fdf82fe035afffc7a157394c16ed2f1f327e12299de0c0fd487c5ca54040f60a"), looks := false }, kinds := [], alts := [], laidByText := true, laidKinds := [.data], laidTests := true, laidLooks := .later }
def TreeDoesUptoCardSaid : Prop := Claim7.holds Tryd.pinned (.plain (OpenSpec.upto treeDoesSpec)) treeDoesUptoCard
end Rows
end Go.Proofs.YtfimhaodgekkgaaDoor
