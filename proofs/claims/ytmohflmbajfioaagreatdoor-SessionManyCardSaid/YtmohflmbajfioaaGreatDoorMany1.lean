/- SessionMany: closing a key, and one more key: reckoned in the kernel, part 1. -/
import Derived.Test.YtmohflmbajfioaaGreatDoorMany0
namespace Go.Proofs.YtmohflmbajfioaaGreatDoor
set_option maxRecDepth 1000000
theorem closes0 : allB 25 (okClose 0) = true := by kernel_rfl
theorem closes1 : allB 25 (okClose 1) = true := by kernel_rfl
theorem closes2 : allB 25 (okClose 2) = true := by kernel_rfl
theorem closes3 : allB 25 (okClose 3) = true := by kernel_rfl
theorem closes4 : allB 25 (okClose 4) = true := by kernel_rfl
end Go.Proofs.YtmohflmbajfioaaGreatDoor
