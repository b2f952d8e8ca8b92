/- The row of SessionMany: what it says of the program, each reckoned by itself in the kernel. -/
import Derived.Test.YtmohflmbajfioaaGreatDoorRows
import Derived.Test.YtmohflmbajfioaaGreatDoorChecked
import Derived.ProofKit
namespace Go.Proofs.YtmohflmbajfioaaGreatDoor
open Go Go.ChangeShapes Go.WideShapes Go.ChangeAt
theorem many_inPlace : (Rows.sessionManyRow.inPlace == Tryz.pinned.checked.prog.inPlace 3) = true := by kernel_rfl
theorem many_unfollowed : (Rows.sessionManyRow.unfollowed == Tryz.pinned.checked.prog.unfollowed 3) = true := by kernel_rfl
theorem many_recurses : (Rows.sessionManyRow.recurses == Tryz.pinned.checked.prog.recurses 3) = true := by kernel_rfl
theorem many_named : (Rows.sessionManyRow.named == Tryz.pinned.checked.prog.varsNamed 3) = true := by kernel_rfl
end Go.Proofs.YtmohflmbajfioaaGreatDoor
