/-
  DERIVED. GIVEN WITH THE SEED: THE CARDS: each row of YtpbhfckefmboaaaGreatDoorRows.lean that lists a variable, with what it lists TIED to the program's text (the seventh form; the later family's looks); each row that meets fmt, with fmt's text TOLD by the authors' own Lean function (tested against real Go, not proved from fmt's source: count such statements apart). THE CARD IS WHAT COUNTS. Prove the row's statement (the work); the ties are given (YtpbhfckefmboaaaGreatDoorTie.lean); close each card by the builder's one call (the guide's Derived/Test/ToyasCard.lean, 'card_holds'). Laid BY PROGRAM, IN A SANDBOX (cutbox-door.mjs). By AI agents, Wed Nov 11 2026. No macro, syntax, notation, axiom, sorry.
-/
import Derived.Test.YtpbhfckefmboaaaGreatDoorRows
import GoSem.ClaimSeven
namespace Go.Proofs.YtpbhfckefmboaaaGreatDoor
namespace Rows

/-- THE TIED CARD OF 'millstreamlaw24.WorldDead'. -/
def worldDeadCard : Claim7 := { stood := { row := worldDeadRow, standIns := [], harness := (true, "545ae11b4fad61cac5b9eedd119f1b4d48477f4400b885050413c7915dd8fccb"), looks := true }, kinds := [], alts := [], laidByText := true, laidKinds := [.data], laidTests := true, laidLooks := .later }
def WorldDeadCardSaid : Prop := Claim7.holds Tryz.pinned (.plain (OpenSpec.ofChange worldDeadSpec)) worldDeadCard

/-- THE TIED CARD OF 'millstreamlaw26.BoundRounds'. -/
def boundRoundsCard : Claim7 := { stood := { row := boundRoundsRow, standIns := [], harness := (true, "545ae11b4fad61cac5b9eedd119f1b4d48477f4400b885050413c7915dd8fccb"), looks := true }, kinds := [], alts := [], laidByText := true, laidKinds := [.data], laidTests := true, laidLooks := .later }
def BoundRoundsCardSaid : Prop := Claim7.holds Tryz.pinned (.plain (OpenSpec.ofChange boundRoundsSpec)) boundRoundsCard

/-- THE TIED CARD OF 'millstreamlaw26.BoundLeft'. -/
def boundLeftCard : Claim7 := { stood := { row := boundLeftRow, standIns := [], harness := (true, "545ae11b4fad61cac5b9eedd119f1b4d48477f4400b885050413c7915dd8fccb"), looks := true }, kinds := [], alts := [], laidByText := true, laidKinds := [.data], laidTests := true, laidLooks := .later }
def BoundLeftCardSaid : Prop := Claim7.holds Tryz.pinned (.plain (OpenSpec.ofChange boundLeftSpec)) boundLeftCard

/-- THE SECOND FORM's CARD OF 'millstreamlaw24.WorldDead'. -/
def worldDeadUptoCard : Claim7 := { stood := { row := worldDeadUptoRow, standIns := [], harness := (true, "545ae11b4fad61cac5b9eedd119f1b4d48477f4400b885050413c7915dd8fccb"), looks := true }, kinds := [], alts := [], laidByText := true, laidKinds := [.data], laidTests := true, laidLooks := .later }
def WorldDeadUptoCardSaid : Prop := Claim7.holds Tryz.pinned (.plain (OpenSpec.upto worldDeadSpec)) worldDeadUptoCard

/-- THE SECOND FORM's CARD OF 'millstreamlaw26.BoundRounds'. -/
def boundRoundsUptoCard : Claim7 := { stood := { row := boundRoundsUptoRow, standIns := [], harness := (true, "545ae11b4fad61cac5b9eedd119f1b4d48477f4400b885050413c7915dd8fccb"), looks := true }, kinds := [], alts := [], laidByText := true, laidKinds := [.data], laidTests := true, laidLooks := .later }
def BoundRoundsUptoCardSaid : Prop := Claim7.holds Tryz.pinned (.plain (OpenSpec.upto boundRoundsSpec)) boundRoundsUptoCard

/-- THE SECOND FORM's CARD OF 'millstreamlaw26.BoundLeft'. -/
def boundLeftUptoCard : Claim7 := { stood := { row := boundLeftUptoRow, standIns := [], harness := (true, "545ae11b4fad61cac5b9eedd119f1b4d48477f4400b885050413c7915dd8fccb"), looks := true }, kinds := [], alts := [], laidByText := true, laidKinds := [.data], laidTests := true, laidLooks := .later }
def BoundLeftUptoCardSaid : Prop := Claim7.holds Tryz.pinned (.plain (OpenSpec.upto boundLeftSpec)) boundLeftUptoCard
end Rows
end Go.Proofs.YtpbhfckefmboaaaGreatDoor
