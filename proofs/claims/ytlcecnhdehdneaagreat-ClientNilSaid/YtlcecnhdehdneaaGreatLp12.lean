/- Printed by a program of mine: the loop, piece by piece. -/
import Derived.Test.YtlcecnhdehdneaaGreatLp
set_option maxRecDepth 10000000
set_option maxHeartbeats 0
namespace YtlcecnhdehdneaaGreatL
open Go Go.AE Go.RowKit Go.Proofs
theorem c22 : chunkOK EC callC 49 20000 robC 42 kt22 kM22 kt23 kM23 = true := by kernel_rfl
theorem c23 : chunkOK EC callC 49 20000 robC 42 kt23 kM23 kt24 kM24 = true := by kernel_rfl
end YtlcecnhdehdneaaGreatL
