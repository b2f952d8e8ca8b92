/- Printed by a program of mine: the loop, piece by piece. -/
import Derived.Test.YtlcecnhdehdneaaGreatLp
set_option maxRecDepth 10000000
set_option maxHeartbeats 0
namespace YtlcecnhdehdneaaGreatL
open Go Go.AE Go.RowKit Go.Proofs
theorem c4 : chunkOK EC callC 49 20000 robC 10 kt4 kM4 kt5 kM5 = true := by kernel_rfl
theorem c5 : chunkOK EC callC 49 20000 robC 10 kt5 kM5 kt6 kM6 = true := by kernel_rfl
end YtlcecnhdehdneaaGreatL
