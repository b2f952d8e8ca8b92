/- The row of TallyCounts: its closed cells are what the program forces. -/
import Derived.Test.YtppdhckcempmnaaGreatDoorFacts
import Derived.LaidMore
import Derived.OpenShut
import Derived.Stop.Joined
namespace Go.Proofs.YtppdhckcempmnaaGreatDoor
open Go Go.ChangeShapes Go.WideShapes Go.ChangeAt
theorem tc_facts : joinedFacts Tryz.pinned.checked.prog 3 Tryz.f3 Rows.tallyCountsSpec Rows.tallyCountsRow = true := by
  unfold joinedFacts
  rw [tc_inPlace, tc_unfollowed, tc_recurses, tc_varsNamed]
  kernel_rfl
end Go.Proofs.YtppdhckcempmnaaGreatDoor
