/- Printed by a program of mine: the loop, piece by piece. -/
import Derived.Test.YtlcecnhdehdneaaGreatLp
set_option maxRecDepth 10000000
set_option maxHeartbeats 0
namespace YtlcecnhdehdneaaGreatL
open Go Go.AE Go.RowKit Go.Proofs
theorem c6 : chunkOK EC callC 49 20000 robC 42 kt6 kM6 kt7 kM7 = true := by kernel_rfl
theorem c7 : chunkOK EC callC 49 20000 robC 42 kt7 kM7 kt8 kM8 = true := by kernel_rfl
end YtlcecnhdehdneaaGreatL
