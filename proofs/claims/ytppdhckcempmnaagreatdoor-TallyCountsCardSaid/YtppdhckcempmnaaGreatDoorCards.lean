/-
  DERIVED. GIVEN WITH THE SEED: THE CARDS: each row of YtppdhckcempmnaaGreatDoorRows.lean that lists a variable, with what it lists TIED to the program's text (the seventh form; the later family's looks); each row that meets fmt, with fmt's text TOLD by the authors' own Lean function (tested against real Go, not proved from fmt's source: count such statements apart). THE CARD IS WHAT COUNTS. Prove the row's statement (the work); the ties are given (YtppdhckcempmnaaGreatDoorTie.lean); close each card by the builder's one call (the guide's Derived/Test/ToyasCard.lean, 'card_holds'). Laid BY PROGRAM, IN A SANDBOX (cutbox-door.mjs). By AI agents, Wed Nov 11 2026. No macro, syntax, notation, axiom, sorry.
-/
import Derived.Test.YtppdhckcempmnaaGreatDoorRows
import GoSem.ClaimSeven
namespace Go.Proofs.YtppdhckcempmnaaGreatDoor
namespace Rows

/-- THE TIED CARD OF 'millstreamlaw40.TallyCounts'. -/
def tallyCountsCard : Claim7 := { stood := { row := tallyCountsRow, standIns := [], harness := (true, "e28ae1c7c6053cf316d05371c969d5fa8f0faba86c2982fd845e9bfb776960e8"), looks := true }, kinds := [], alts := [], laidByText := true, laidKinds := [.data], laidTests := true, laidLooks := .later }
def TallyCountsCardSaid : Prop := Claim7.holds Tryz.pinned (.plain (OpenSpec.ofChange tallyCountsSpec)) tallyCountsCard

/-- THE SECOND FORM's CARD OF 'millstreamlaw40.TallyCounts'. -/
def tallyCountsUptoCard : Claim7 := { stood := { row := tallyCountsUptoRow, standIns := [], harness := (true, "e28ae1c7c6053cf316d05371c969d5fa8f0faba86c2982fd845e9bfb776960e8"), looks := true }, kinds := [], alts := [], laidByText := true, laidKinds := [.data], laidTests := true, laidLooks := .later }
def TallyCountsUptoCardSaid : Prop := Claim7.holds Tryz.pinned (.plain (OpenSpec.upto tallyCountsSpec)) tallyCountsUptoCard
end Rows
end Go.Proofs.YtppdhckcempmnaaGreatDoor
