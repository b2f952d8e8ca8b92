/- SessionMany: closing a key, and one more key: reckoned in the kernel, part 5. -/
import Derived.Test.YtmohflmbajfioaaGreatDoorMany0
namespace Go.Proofs.YtmohflmbajfioaaGreatDoor
set_option maxRecDepth 1000000
theorem closes20 : allB 25 (okClose 20) = true := by kernel_rfl
theorem closes21 : allB 25 (okClose 21) = true := by kernel_rfl
theorem closes22 : allB 25 (okClose 22) = true := by kernel_rfl
theorem closes23 : allB 25 (okClose 23) = true := by kernel_rfl
theorem closes24 : allB 25 (okClose 24) = true := by kernel_rfl
end Go.Proofs.YtmohflmbajfioaaGreatDoor
