/- SessionNil: for every key a nil registry has nothing: the law returns true, and the argument reads as it did. The library's variables that the row lists are as their text lays them (tied). -/
import Derived.Test.YtmohflmbajfioaaGreatDoorRows
import Derived.Test.YtmohflmbajfioaaGreatDoorTie
import Derived.Test.YtmohflmbajfioaaGreatDoorCards
import Derived.Test.YtmohflmbajfioaaGreatDoorNilRow
import Derived.ProofKit
import Derived.LaidMore
import Derived.OpenShut
import Derived.Stop.Joined
import Derived.SevenTiedAt
namespace Go.Proofs.YtmohflmbajfioaaGreatDoor
open Go Go.ChangeShapes Go.WideShapes Go.ChangeAt Go.RowKit Go.Joins
set_option linter.unusedVariables false
theorem nil_wf : Rows.sessionNilRow.wfByText (OpenSpec.ofChange Rows.sessionNilSpec) = true := by kernel_rfl
theorem main_is : Tryz.pinned.checked.prog.mainIs = some (true, "951dd764ce760048b857a401ea0b83ba247e8dbb0b9e11a3b5624abe2d763554".toList) := by kernel_rfl
theorem looks_are : true = Tryz.pinned.checked.prog.looks [] := by kernel_rfl
theorem nil_goes : false = Rows.sessionNilRow.goesBy Tryz.pinned.checked.prog := by kernel_rfl
theorem key_plain : Tryz.pinned.checked.prog.wantsStandIn 36 = false := by kernel_rfl
theorem card_holds : Rows.SessionNilCardSaid :=
  Claim7.holds_tied_plain_at .later [] [.data] true (true, "951dd764ce760048b857a401ea0b83ba247e8dbb0b9e11a3b5624abe2d763554") true
    row_holds (fun _ h => by cases h) nil_wf (fun _ h => by cases h) sessionNil_row_tie rfl ⟨rfl, rfl⟩ main_is rfl
    (fun f fn hf hfn => by
      obtain rfl : f = 4 := Option.some.inj (nil_named4.symm.trans hf) |>.symm
      obtain rfl : fn = Tryz.f4 := (Option.some.inj (Tryz.func4.symm.trans hfn)).symm
      exact ⟨looks_are, fun j t ht => by
        rw [Tryz.params4] at ht
        have hm : t ∈ [36] := by simpa using Array.mem_of_getElem? ht
        obtain rfl := List.mem_singleton.1 hm
        exact key_plain⟩)
    nil_goes
#print axioms card_holds
end Go.Proofs.YtmohflmbajfioaaGreatDoor
