/-
  DERIVED. GIVEN WITH THE SEED: THE CARDS: each row of YtmnfphgobahleaaGreatDoorRows.lean that lists a variable, with what it lists TIED to the program's text (the seventh form; the later family's looks); each row that meets fmt, with fmt's text TOLD by the authors' own Lean function (tested against real Go, not proved from fmt's source: count such statements apart). THE CARD IS WHAT COUNTS. Prove the row's statement (the work); the ties are given (YtmnfphgobahleaaGreatDoorTie.lean); close each card by the builder's one call (the guide's Derived/Test/ToyasCard.lean, 'card_holds'). Laid BY PROGRAM, IN A SANDBOX (cutbox-door.mjs). By AI agents, Wed Nov 11 2026. No macro, syntax, notation, axiom, sorry.
-/
import Derived.Test.YtmnfphgobahleaaGreatDoorRows
import GoSem.ClaimSeven
namespace Go.Proofs.YtmnfphgobahleaaGreatDoor
namespace Rows

/-- THE TIED CARD OF 'millstreamlaw23.ActorNil'. -/
def actorNilCard : Claim7 := { stood := { row := actorNilRow, standIns := [], harness := (true, "9c2bb35c51df74aaf293a2df693ac51d8da097dc9715c095a3729eb86a93658a"), looks := true }, kinds := [], alts := [], laidByText := true, laidKinds := [.data], laidTests := true, laidLooks := .later }
def ActorNilCardSaid : Prop := Claim7.holds Tryz.pinned (.plain (OpenSpec.ofChange actorNilSpec)) actorNilCard

/-- THE SECOND FORM's CARD OF 'millstreamlaw23.ActorNil'. -/
def actorNilUptoCard : Claim7 := { stood := { row := actorNilUptoRow, standIns := [], harness := (true, "9c2bb35c51df74aaf293a2df693ac51d8da097dc9715c095a3729eb86a93658a"), looks := true }, kinds := [], alts := [], laidByText := true, laidKinds := [.data], laidTests := true, laidLooks := .later }
def ActorNilUptoCardSaid : Prop := Claim7.holds Tryz.pinned (.plain (OpenSpec.upto actorNilSpec)) actorNilUptoCard
end Rows
end Go.Proofs.YtmnfphgobahleaaGreatDoor
