/-
  DERIVED. GIVEN WITH THE SEED: THE CARDS: each row of YtkahciadkgjbbaaDoorRows.lean that lists a variable, with what it lists TIED to the program's text (the seventh form; the later family's looks); each row that meets fmt, with fmt's text TOLD by the authors' own Lean function (tested against real Go, not proved from fmt's source: count such statements apart). THE CARD IS WHAT COUNTS. Prove the row's statement (the work); the ties are given (YtkahciadkgjbbaaDoorTie.lean); close each card by the builder's one call (the guide's Derived/Test/ToyasCard.lean, 'card_holds'). Laid BY PROGRAM, IN A SANDBOX (cutbox-door.mjs). By AI agents, Wed Nov 11 2026. No macro, syntax, notation, axiom, sorry.
-/
import Derived.Test.YtkahciadkgjbbaaDoorRows
import GoSem.ClaimSeven
namespace Go.Proofs.YtkahciadkgjbbaaDoor
namespace Rows

/-- THE TIED CARD OF 'kissgatelaw16.PartyTalks'. -/
def partyTalksCard : Claim7 := { stood := { row := partyTalksRow, standIns := [], harness := (true, "8cfaa93f9d392f4901681be310a7aca5a32dea5467a69abb40a382f5053edf79"), looks := false }, kinds := [], alts := [], laidByText := true, laidKinds := [.data], laidTests := true, laidLooks := .later }
def PartyTalksCardSaid : Prop := Claim7.holds Tryd.pinned (.plain (OpenSpec.ofChange partyTalksSpec)) partyTalksCard

/-- THE TIED CARD OF 'kissgatelaw16.PartyApart'. -/
def partyApartCard : Claim7 := { stood := { row := partyApartRow, standIns := [], harness := (true, "8cfaa93f9d392f4901681be310a7aca5a32dea5467a69abb40a382f5053edf79"), looks := false }, kinds := [], alts := [], laidByText := true, laidKinds := [.data], laidTests := true, laidLooks := .later }
def PartyApartCardSaid : Prop := Claim7.holds Tryd.pinned (.plain (OpenSpec.ofChange partyApartSpec)) partyApartCard

/-- THE TIED CARD OF 'kissgatelaw16.PartyBound'. -/
def partyBoundCard : Claim7 := { stood := { row := partyBoundRow, standIns := [], harness := (true, "8cfaa93f9d392f4901681be310a7aca5a32dea5467a69abb40a382f5053edf79"), looks := false }, kinds := [], alts := [], laidByText := true, laidKinds := [.data], laidTests := true, laidLooks := .later }
def PartyBoundCardSaid : Prop := Claim7.holds Tryd.pinned (.plain (OpenSpec.ofChange partyBoundSpec)) partyBoundCard

/-- THE SECOND FORM's CARD OF 'kissgatelaw16.PartyTalks'. -/
def partyTalksUptoCard : Claim7 := { stood := { row := partyTalksUptoRow, standIns := [], harness := (true, "8cfaa93f9d392f4901681be310a7aca5a32dea5467a69abb40a382f5053edf79"), looks := false }, kinds := [], alts := [], laidByText := true, laidKinds := [.data], laidTests := true, laidLooks := .later }
def PartyTalksUptoCardSaid : Prop := Claim7.holds Tryd.pinned (.plain (OpenSpec.upto partyTalksSpec)) partyTalksUptoCard

/-- THE SECOND FORM's CARD OF 'kissgatelaw16.PartyApart'. -/
def partyApartUptoCard : Claim7 := { stood := { row := partyApartUptoRow, standIns := [], harness := (true, "8cfaa93f9d392f4901681be310a7aca5a32dea5467a69abb40a382f5053edf79"), looks := false }, kinds := [], alts := [], laidByText := true, laidKinds := [.data], laidTests := true, laidLooks := .later }
def PartyApartUptoCardSaid : Prop := Claim7.holds Tryd.pinned (.plain (OpenSpec.upto partyApartSpec)) partyApartUptoCard

/-- THE SECOND FORM's CARD OF 'kissgatelaw16.PartyBound'. -/
def partyBoundUptoCard : Claim7 := { stood := { row := partyBoundUptoRow, standIns := [], harness := (true, "8cfaa93f9d392f4901681be310a7aca5a32dea5467a69abb40a382f5053edf79"), looks := false }, kinds := [], alts := [], laidByText := true, laidKinds := [.data], laidTests := true, laidLooks := .later }
def PartyBoundUptoCardSaid : Prop := Claim7.holds Tryd.pinned (.plain (OpenSpec.upto partyBoundSpec)) partyBoundUptoCard
end Rows
end Go.Proofs.YtkahciadkgjbbaaDoor
