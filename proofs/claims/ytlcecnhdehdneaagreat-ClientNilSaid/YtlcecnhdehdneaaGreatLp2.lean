/- Printed by a program of mine: the loop, piece by piece. -/
import Derived.Test.YtlcecnhdehdneaaGreatLp
set_option maxRecDepth 10000000
set_option maxHeartbeats 0
namespace YtlcecnhdehdneaaGreatL
open Go Go.AE Go.RowKit Go.Proofs
theorem c2 : chunkOK EC callC 49 20000 robC 10 kt2 kM2 kt3 kM3 = true := by kernel_rfl
theorem c3 : chunkOK EC callC 49 20000 robC 10 kt3 kM3 kt4 kM4 = true := by kernel_rfl
end YtlcecnhdehdneaaGreatL
