/-
  DERIVED. GIVEN WITH THE SEED: THE CARDS: each row of YtmohflmbajfioaaGreatDoorRows.lean that lists a variable, with what it lists TIED to the program's text (the seventh form; the later family's looks); each row that meets fmt, with fmt's text TOLD by the authors' own Lean function (tested against real Go, not proved from fmt's source: count such statements apart). THE CARD IS WHAT COUNTS. Prove the row's statement (the work); the ties are given (YtmohflmbajfioaaGreatDoorTie.lean); close each card by the builder's one call (the guide's Derived/Test/ToyasCard.lean, 'card_holds'). Laid BY PROGRAM, IN A SANDBOX (cutbox-door.mjs). By AI agents, Wed Nov 11 2026. No macro, syntax, notation, axiom, sorry.
-/
import Derived.Test.YtmohflmbajfioaaGreatDoorRows
import GoSem.ClaimSeven
namespace Go.Proofs.YtmohflmbajfioaaGreatDoor
namespace Rows

/-- THE TIED CARD OF 'millstreamlaw28.SessionMany'. -/
def sessionManyCard : Claim7 := { stood := { row := sessionManyRow, standIns := [], harness := (true, "951dd764ce760048b857a401ea0b83ba247e8dbb0b9e11a3b5624abe2d763554"), looks := true }, kinds := [], alts := [], laidByText := true, laidKinds := [.data], laidTests := true, laidLooks := .later }
def SessionManyCardSaid : Prop := Claim7.holds Tryz.pinned (.plain (OpenSpec.ofChange sessionManySpec)) sessionManyCard

/-- THE TIED CARD OF 'millstreamlaw28.SessionNil'. -/
def sessionNilCard : Claim7 := { stood := { row := sessionNilRow, standIns := [], harness := (true, "951dd764ce760048b857a401ea0b83ba247e8dbb0b9e11a3b5624abe2d763554"), looks := true }, kinds := [], alts := [], laidByText := true, laidKinds := [.data], laidTests := true, laidLooks := .later }
def SessionNilCardSaid : Prop := Claim7.holds Tryz.pinned (.plain (OpenSpec.ofChange sessionNilSpec)) sessionNilCard

/-- THE SECOND FORM's CARD OF 'millstreamlaw28.SessionMany'. -/
def sessionManyUptoCard : Claim7 := { stood := { row := sessionManyUptoRow, standIns := [], harness := (true, "951dd764ce760048b857a401ea0b83ba247e8dbb0b9e11a3b5624abe2d763554"), looks := true }, kinds := [], alts := [], laidByText := true, laidKinds := [.data], laidTests := true, laidLooks := .later }
def SessionManyUptoCardSaid : Prop := Claim7.holds Tryz.pinned (.plain (OpenSpec.upto sessionManySpec)) sessionManyUptoCard

/-- THE SECOND FORM's CARD OF 'millstreamlaw28.SessionNil'. -/
def sessionNilUptoCard : Claim7 := { stood := { row := sessionNilUptoRow, standIns := [], harness := (true, "951dd764ce760048b857a401ea0b83ba247e8dbb0b9e11a3b5624abe2d763554"), looks := true }, kinds := [], alts := [], laidByText := true, laidKinds := [.data], laidTests := true, laidLooks := .later }
def SessionNilUptoCardSaid : Prop := Claim7.holds Tryz.pinned (.plain (OpenSpec.upto sessionNilSpec)) sessionNilUptoCard
end Rows
end Go.Proofs.YtmohflmbajfioaaGreatDoor
