/- What the rows of this seat say of the program, each reckoned by itself in the kernel. -/
import Derived.Test.YtmohflmbajfioaaGreatDoorRows
import Derived.Test.YtmohflmbajfioaaGreatDoorChecked
import Derived.ProofKit
namespace Go.Proofs.YtmohflmbajfioaaGreatDoor
open Go Go.ChangeShapes Go.WideShapes Go.ChangeAt
theorem nil_inPlace : (Rows.sessionNilRow.inPlace == Tryz.pinned.checked.prog.inPlace 4) = true := by kernel_rfl
theorem nil_unfollowed : (Rows.sessionNilRow.unfollowed == Tryz.pinned.checked.prog.unfollowed 4) = true := by kernel_rfl
theorem nil_recurses : (Rows.sessionNilRow.recurses == Tryz.pinned.checked.prog.recurses 4) = true := by kernel_rfl
theorem nil_named : (Rows.sessionNilRow.named == Tryz.pinned.checked.prog.varsNamed 4) = true := by kernel_rfl
end Go.Proofs.YtmohflmbajfioaaGreatDoor
