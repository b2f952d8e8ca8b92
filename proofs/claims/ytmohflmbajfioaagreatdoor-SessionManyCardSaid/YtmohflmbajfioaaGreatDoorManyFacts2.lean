/- The row of SessionMany: its closed cells are what the program forces. -/
import Derived.Test.YtmohflmbajfioaaGreatDoorManyFacts
import Derived.LaidMore
import Derived.OpenShut
import Derived.Stop.Joined
namespace Go.Proofs.YtmohflmbajfioaaGreatDoor
open Go Go.ChangeShapes Go.WideShapes Go.ChangeAt
theorem many_facts : joinedFacts Tryz.pinned.checked.prog 3 Tryz.f3 Rows.sessionManySpec Rows.sessionManyRow = true := by
  unfold joinedFacts
  rw [many_inPlace, many_unfollowed, many_recurses, many_named]
  kernel_rfl
end Go.Proofs.YtmohflmbajfioaaGreatDoor
