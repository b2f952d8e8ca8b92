/- Printed by a program of mine: the loop, piece by piece. -/
import Derived.Test.YtlcecnhdehdneaaGreatLp
set_option maxRecDepth 10000000
set_option maxHeartbeats 0
namespace YtlcecnhdehdneaaGreatL
open Go Go.AE Go.RowKit Go.Proofs
theorem c20 : chunkOK EC callC 49 20000 robC 42 kt20 kM20 kt21 kM21 = true := by kernel_rfl
theorem c21 : chunkOK EC callC 49 20000 robC 42 kt21 kM21 kt22 kM22 = true := by kernel_rfl
end YtlcecnhdehdneaaGreatL
