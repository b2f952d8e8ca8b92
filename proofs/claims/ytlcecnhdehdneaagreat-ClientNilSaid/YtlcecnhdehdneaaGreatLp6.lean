/- Printed by a program of mine: the loop, piece by piece. -/
import Derived.Test.YtlcecnhdehdneaaGreatLp
set_option maxRecDepth 10000000
set_option maxHeartbeats 0
namespace YtlcecnhdehdneaaGreatL
open Go Go.AE Go.RowKit Go.Proofs
theorem c10 : chunkOK EC callC 49 20000 robC 42 kt10 kM10 kt11 kM11 = true := by kernel_rfl
theorem c11 : chunkOK EC callC 49 20000 robC 42 kt11 kM11 kt12 kM12 = true := by kernel_rfl
end YtlcecnhdehdneaaGreatL
