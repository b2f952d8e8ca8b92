/- Printed by a program of mine: the loop, piece by piece. -/
import Derived.Test.YtlcecnhdehdneaaGreatLp
set_option maxRecDepth 10000000
set_option maxHeartbeats 0
namespace YtlcecnhdehdneaaGreatL
open Go Go.AE Go.RowKit Go.Proofs
theorem c0 : chunkOK EC callC 49 20000 robC 2 kt0 kM0 kt1 kM1 = true := by kernel_rfl
theorem c1 : chunkOK EC callC 49 20000 robC 10 kt1 kM1 kt2 kM2 = true := by kernel_rfl
end YtlcecnhdehdneaaGreatL
