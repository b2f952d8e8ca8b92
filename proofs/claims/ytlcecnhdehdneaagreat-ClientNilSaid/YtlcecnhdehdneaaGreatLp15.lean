/- Printed by a program of mine: the loop, piece by piece. -/
import Derived.Test.YtlcecnhdehdneaaGreatLp
set_option maxRecDepth 10000000
set_option maxHeartbeats 0
namespace YtlcecnhdehdneaaGreatL
open Go Go.AE Go.RowKit Go.Proofs
theorem c28 : chunkOK EC callC 49 20000 robC 42 kt28 kM28 kt29 kM29 = true := by kernel_rfl
theorem cE : lastOK EC callC 49 20000 robC 2 kt29 kM29 (.exit 0) ktE kME = true := by kernel_rfl
end YtlcecnhdehdneaaGreatL
