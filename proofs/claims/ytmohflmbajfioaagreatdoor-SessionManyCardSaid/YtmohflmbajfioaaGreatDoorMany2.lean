/- SessionMany: closing a key, and one more key: reckoned in the kernel, part 2. -/
import Derived.Test.YtmohflmbajfioaaGreatDoorMany0
namespace Go.Proofs.YtmohflmbajfioaaGreatDoor
set_option maxRecDepth 1000000
theorem closes5 : allB 25 (okClose 5) = true := by kernel_rfl
theorem closes6 : allB 25 (okClose 6) = true := by kernel_rfl
theorem closes7 : allB 25 (okClose 7) = true := by kernel_rfl
theorem closes8 : allB 25 (okClose 8) = true := by kernel_rfl
theorem closes9 : allB 25 (okClose 9) = true := by kernel_rfl
end Go.Proofs.YtmohflmbajfioaaGreatDoor
