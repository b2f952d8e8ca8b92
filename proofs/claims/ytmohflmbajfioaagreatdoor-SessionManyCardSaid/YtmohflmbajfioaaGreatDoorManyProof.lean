/- SessionMany: for every two numbers: so many keys are opened, and no more, and one that is closed lets another one in: the law returns true, and the arguments read as they did. The library's variables that the row lists are as their text lays them (tied). -/
import Derived.Test.YtmohflmbajfioaaGreatDoorRows
import Derived.Test.YtmohflmbajfioaaGreatDoorTie
import Derived.Test.YtmohflmbajfioaaGreatDoorCards
import Derived.Test.YtmohflmbajfioaaGreatDoorManyRow
import Derived.ProofKit
import Derived.LaidMore
import Derived.OpenShut
import Derived.Stop.Joined
import Derived.SevenTiedAt
namespace Go.Proofs.YtmohflmbajfioaaGreatDoor
open Go Go.ChangeShapes Go.WideShapes Go.ChangeAt Go.RowKit Go.Joins
set_option linter.unusedVariables false
theorem many_wf : Rows.sessionManyRow.wfByText (OpenSpec.ofChange Rows.sessionManySpec) = true := by kernel_rfl
theorem main_is : Tryz.pinned.checked.prog.mainIs = some (true, "951dd764ce760048b857a401ea0b83ba247e8dbb0b9e11a3b5624abe2d763554".toList) := by kernel_rfl
theorem looks_are : true = Tryz.pinned.checked.prog.looks [] := by kernel_rfl
theorem many_goes : false = Rows.sessionManyRow.goesBy Tryz.pinned.checked.prog := by kernel_rfl
theorem key_plain : Tryz.pinned.checked.prog.wantsStandIn 5 = false := by kernel_rfl
theorem card_holds : Rows.SessionManyCardSaid :=
  Claim7.holds_tied_plain_at .later [] [.data] true (true, "951dd764ce760048b857a401ea0b83ba247e8dbb0b9e11a3b5624abe2d763554") true
    row_holds (fun _ h => by cases h) many_wf (fun _ h => by cases h) sessionMany_row_tie rfl ⟨rfl, rfl⟩ main_is rfl
    (fun f fn hf hfn => by
      obtain rfl : f = 3 := Option.some.inj (many_named4.symm.trans hf) |>.symm
      obtain rfl : fn = Tryz.f3 := (Option.some.inj (Tryz.func3.symm.trans hfn)).symm
      exact ⟨looks_are, fun j t ht => by
        rw [Tryz.params3] at ht
        have hm : t ∈ [5, 5] := by simpa using Array.mem_of_getElem? ht
        obtain rfl : t = 5 := by simpa using hm
        exact key_plain⟩)
    many_goes
#print axioms card_holds
end Go.Proofs.YtmohflmbajfioaaGreatDoor
