/-
  DERIVED. GIVEN WITH THE SEED: THE CARDS: each row of YtlaogoehmndcjaaGreatDoorRows.lean that lists a variable, with what it lists TIED to the program's text (the seventh form; the later family's looks); each row that meets fmt, with fmt's text TOLD by the authors' own Lean function (tested against real Go, not proved from fmt's source: count such statements apart). THE CARD IS WHAT COUNTS. Prove the row's statement (the work); the ties are given (YtlaogoehmndcjaaGreatDoorTie.lean); close each card by the builder's one call (the guide's Derived/Test/ToyasCard.lean, 'card_holds'). Laid BY PROGRAM, IN A SANDBOX (cutbox-door.mjs). By AI agents, Wed Nov 11 2026. No macro, syntax, notation, axiom, sorry.
-/
import Derived.Test.YtlaogoehmndcjaaGreatDoorRows
import GoSem.ClaimSeven
namespace Go.Proofs.YtlaogoehmndcjaaGreatDoor
namespace Rows

/-- THE TIED CARD OF 'millstreamlaw23.ActorWrites'. -/
def actorWritesCard : Claim7 := { stood := { row := actorWritesRow, standIns := [], harness := (true, "6a624df83af275de2ef75d617e2127c8a292f35b59b0a59de13038a5647b5647"), looks := true }, kinds := [], alts := [], laidByText := true, laidKinds := [.data], laidTests := true, laidLooks := .later }
def ActorWritesCardSaid : Prop := Claim7.holds Tryz.pinned (.plain (OpenSpec.ofChange actorWritesSpec)) actorWritesCard

/-- THE TIED CARD OF 'millstreamlaw23.ActorWatches'. -/
def actorWatchesCard : Claim7 := { stood := { row := actorWatchesRow, standIns := [], harness := (true, "6a624df83af275de2ef75d617e2127c8a292f35b59b0a59de13038a5647b5647"), looks := true }, kinds := [], alts := [], laidByText := true, laidKinds := [.data], laidTests := true, laidLooks := .later }
def ActorWatchesCardSaid : Prop := Claim7.holds Tryz.pinned (.plain (OpenSpec.ofChange actorWatchesSpec)) actorWatchesCard

/-- THE SECOND FORM's CARD OF 'millstreamlaw23.ActorWrites'. -/
def actorWritesUptoCard : Claim7 := { stood := { row := actorWritesUptoRow, standIns := [], harness := (true, "6a624df83af275de2ef75d617e2127c8a292f35b59b0a59de13038a5647b5647"), looks := true }, kinds := [], alts := [], laidByText := true, laidKinds := [.data], laidTests := true, laidLooks := .later }
def ActorWritesUptoCardSaid : Prop := Claim7.holds Tryz.pinned (.plain (OpenSpec.upto actorWritesSpec)) actorWritesUptoCard

/-- THE SECOND FORM's CARD OF 'millstreamlaw23.ActorWatches'. -/
def actorWatchesUptoCard : Claim7 := { stood := { row := actorWatchesUptoRow, standIns := [], harness := (true, "6a624df83af275de2ef75d617e2127c8a292f35b59b0a59de13038a5647b5647"), looks := true }, kinds := [], alts := [], laidByText := true, laidKinds := [.data], laidTests := true, laidLooks := .later }
def ActorWatchesUptoCardSaid : Prop := Claim7.holds Tryz.pinned (.plain (OpenSpec.upto actorWatchesSpec)) actorWatchesUptoCard
end Rows
end Go.Proofs.YtlaogoehmndcjaaGreatDoor
