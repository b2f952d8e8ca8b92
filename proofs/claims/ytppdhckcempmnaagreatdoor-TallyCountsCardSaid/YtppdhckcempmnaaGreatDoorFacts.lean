/- The row of TallyCounts: what it says of the program, each reckoned by itself in the kernel. -/
import Derived.Test.YtppdhckcempmnaaGreatDoorRows
import Derived.Test.YtppdhckcempmnaaGreatDoorChecked
import Derived.ProofKit
namespace Go.Proofs.YtppdhckcempmnaaGreatDoor
open Go Go.ChangeShapes Go.WideShapes Go.ChangeAt
theorem tc_inPlace : (Rows.tallyCountsRow.inPlace == Tryz.pinned.checked.prog.inPlace 3) = true := by kernel_rfl
theorem tc_unfollowed : (Rows.tallyCountsRow.unfollowed == Tryz.pinned.checked.prog.unfollowed 3) = true := by kernel_rfl
theorem tc_recurses : (Rows.tallyCountsRow.recurses == Tryz.pinned.checked.prog.recurses 3) = true := by kernel_rfl
theorem tc_varsNamed : (Rows.tallyCountsRow.named == Tryz.pinned.checked.prog.varsNamed 3) = true := by kernel_rfl
end Go.Proofs.YtppdhckcempmnaaGreatDoor
