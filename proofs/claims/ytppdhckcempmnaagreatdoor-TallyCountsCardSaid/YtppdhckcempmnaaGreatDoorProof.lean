/- TallyCounts: for every trace and every actor the law returns true, and the arguments read as they did. The library's table of trailing zeros is as its text lays it (tied). -/
import Derived.Test.YtppdhckcempmnaaGreatDoorRows
import Derived.Test.YtppdhckcempmnaaGreatDoorTie
import Derived.Test.YtppdhckcempmnaaGreatDoorCards
import Derived.Test.YtppdhckcempmnaaGreatDoorRow
import Derived.ProofKit
import Derived.LaidMore
import Derived.OpenShut
import Derived.Stop.Joined
import Derived.SevenTiedAt
namespace Go.Proofs.YtppdhckcempmnaaGreatDoor
open Go Go.ChangeShapes Go.WideShapes Go.ChangeAt Go.RowKit Go.Joins
set_option linter.unusedVariables false
theorem tc_wf : Rows.tallyCountsRow.wfByText (OpenSpec.ofChange Rows.tallyCountsSpec) = true := by kernel_rfl
theorem main_is : Tryz.pinned.checked.prog.mainIs = some (true, "e28ae1c7c6053cf316d05371c969d5fa8f0faba86c2982fd845e9bfb776960e8".toList) := by kernel_rfl
theorem looks_are : true = Tryz.pinned.checked.prog.looks [] := by kernel_rfl
theorem tc_goes : false = Rows.tallyCountsRow.goesBy Tryz.pinned.checked.prog := by kernel_rfl
theorem plain_all : ([22, 3].all fun u => !Tryz.pinned.checked.prog.wantsStandIn u) = true := by kernel_rfl
theorem card_holds : Rows.TallyCountsCardSaid :=
  Claim7.holds_tied_plain_at .later [] [.data] true (true, "e28ae1c7c6053cf316d05371c969d5fa8f0faba86c2982fd845e9bfb776960e8") true
    row_holds (fun _ h => by cases h) tc_wf (fun _ h => by cases h) tallyCounts_row_tie rfl ⟨rfl, rfl⟩ main_is rfl
    (fun f fn hf hfn => by
      obtain rfl : f = 3 := Option.some.inj (tc_named4.symm.trans hf) |>.symm
      obtain rfl : fn = Tryz.f3 := (Option.some.inj (Tryz.func3.symm.trans hfn)).symm
      exact ⟨looks_are, fun j t ht => by
        rw [Tryz.params3] at ht
        have hm : t ∈ [22, 3] := by simpa using Array.mem_of_getElem? ht
        exact (show Tryz.pinned.checked.prog.wantsStandIn t = false by simpa using List.all_eq_true.1 plain_all t hm)⟩)
    tc_goes
#print axioms card_holds
end Go.Proofs.YtppdhckcempmnaaGreatDoor
