/-
  DERIVED. GIVEN WITH THE SEED: THE CARDS: each row of YtndgbfpcnkmihaaGreatDoorRows.lean that lists a variable, with what it lists TIED to the program's text (the seventh form; the later family's looks); each row that meets fmt, with fmt's text TOLD by the authors' own Lean function (tested against real Go, not proved from fmt's source: count such statements apart). THE CARD IS WHAT COUNTS. Prove the row's statement (the work); the ties are given (YtndgbfpcnkmihaaGreatDoorTie.lean); close each card by the builder's one call (the guide's Derived/Test/ToyasCard.lean, 'card_holds'). Laid BY PROGRAM, IN A SANDBOX (cutbox-door.mjs). By AI agents, Wed Nov 11 2026. No macro, syntax, notation, axiom, sorry.
-/
import Derived.Test.YtndgbfpcnkmihaaGreatDoorRows
import GoSem.ClaimSeven
namespace Go.Proofs.YtndgbfpcnkmihaaGreatDoor
namespace Rows

/-- THE TIED CARD OF 'millstreamlaw29.InspectTells'. -/
def inspectTellsCard : Claim7 := { stood := { row := inspectTellsRow, standIns := [], harness := (true, "aca9039ed721b4102ade47d63b3c2bc1211cbeaee7d3aa3e921936a3d5b534b4"), looks := true }, kinds := [], alts := [], laidByText := true, laidKinds := [.data], laidTests := true, laidLooks := .later }
def InspectTellsCardSaid : Prop := Claim7.holds Tryz.pinned (.plain (OpenSpec.ofChange inspectTellsSpec)) inspectTellsCard

/-- THE TIED CARD OF 'millstreamlaw29.InspectCounts'. -/
def inspectCountsCard : Claim7 := { stood := { row := inspectCountsRow, standIns := [], harness := (true, "aca9039ed721b4102ade47d63b3c2bc1211cbeaee7d3aa3e921936a3d5b534b4"), looks := true }, kinds := [], alts := [], laidByText := true, laidKinds := [.data], laidTests := true, laidLooks := .later }
def InspectCountsCardSaid : Prop := Claim7.holds Tryz.pinned (.plain (OpenSpec.ofChange inspectCountsSpec)) inspectCountsCard

/-- THE SECOND FORM's CARD OF 'millstreamlaw29.InspectTells'. -/
def inspectTellsUptoCard : Claim7 := { stood := { row := inspectTellsUptoRow, standIns := [], harness := (true, "aca9039ed721b4102ade47d63b3c2bc1211cbeaee7d3aa3e921936a3d5b534b4"), looks := true }, kinds := [], alts := [], laidByText := true, laidKinds := [.data], laidTests := true, laidLooks := .later }
def InspectTellsUptoCardSaid : Prop := Claim7.holds Tryz.pinned (.plain (OpenSpec.upto inspectTellsSpec)) inspectTellsUptoCard

/-- THE SECOND FORM's CARD OF 'millstreamlaw29.InspectCounts'. -/
def inspectCountsUptoCard : Claim7 := { stood := { row := inspectCountsUptoRow, standIns := [], harness := (true, "aca9039ed721b4102ade47d63b3c2bc1211cbeaee7d3aa3e921936a3d5b534b4"), looks := true }, kinds := [], alts := [], laidByText := true, laidKinds := [.data], laidTests := true, laidLooks := .later }
def InspectCountsUptoCardSaid : Prop := Claim7.holds Tryz.pinned (.plain (OpenSpec.upto inspectCountsSpec)) inspectCountsUptoCard
end Rows
end Go.Proofs.YtndgbfpcnkmihaaGreatDoor
