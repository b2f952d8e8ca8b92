/- SessionMany: closing a key, and one more key: reckoned in the kernel, part 4. -/
import Derived.Test.YtmohflmbajfioaaGreatDoorMany0
namespace Go.Proofs.YtmohflmbajfioaaGreatDoor
set_option maxRecDepth 1000000
theorem closes15 : allB 25 (okClose 15) = true := by kernel_rfl
theorem closes16 : allB 25 (okClose 16) = true := by kernel_rfl
theorem closes17 : allB 25 (okClose 17) = true := by kernel_rfl
theorem closes18 : allB 25 (okClose 18) = true := by kernel_rfl
theorem closes19 : allB 25 (okClose 19) = true := by kernel_rfl
end Go.Proofs.YtmohflmbajfioaaGreatDoor
