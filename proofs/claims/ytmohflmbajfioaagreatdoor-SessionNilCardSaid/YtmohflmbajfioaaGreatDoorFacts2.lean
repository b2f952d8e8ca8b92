/- The row of SessionNil: its closed cells are what the program forces. -/
import Derived.Test.YtmohflmbajfioaaGreatDoorFacts
import Derived.LaidMore
import Derived.OpenShut
import Derived.Stop.Joined
namespace Go.Proofs.YtmohflmbajfioaaGreatDoor
open Go Go.ChangeShapes Go.WideShapes Go.ChangeAt
theorem nil_facts : joinedFacts Tryz.pinned.checked.prog 4 Tryz.f4 Rows.sessionNilSpec Rows.sessionNilRow = true := by
  unfold joinedFacts
  rw [nil_inPlace, nil_unfollowed, nil_recurses, nil_named]
  kernel_rfl
end Go.Proofs.YtmohflmbajfioaaGreatDoor
