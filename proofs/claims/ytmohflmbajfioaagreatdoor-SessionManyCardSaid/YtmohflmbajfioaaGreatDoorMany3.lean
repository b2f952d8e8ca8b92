/- SessionMany: closing a key, and one more key: reckoned in the kernel, part 3. -/
import Derived.Test.YtmohflmbajfioaaGreatDoorMany0
namespace Go.Proofs.YtmohflmbajfioaaGreatDoor
set_option maxRecDepth 1000000
theorem closes10 : allB 25 (okClose 10) = true := by kernel_rfl
theorem closes11 : allB 25 (okClose 11) = true := by kernel_rfl
theorem closes12 : allB 25 (okClose 12) = true := by kernel_rfl
theorem closes13 : allB 25 (okClose 13) = true := by kernel_rfl
theorem closes14 : allB 25 (okClose 14) = true := by kernel_rfl
end Go.Proofs.YtmohflmbajfioaaGreatDoor
