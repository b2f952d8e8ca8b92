/- Printed by a program of mine: the loop, piece by piece. -/
import Derived.Test.YtlcecnhdehdneaaGreatLp
set_option maxRecDepth 10000000
set_option maxHeartbeats 0
namespace YtlcecnhdehdneaaGreatL
open Go Go.AE Go.RowKit Go.Proofs
theorem c8 : chunkOK EC callC 49 20000 robC 42 kt8 kM8 kt9 kM9 = true := by kernel_rfl
theorem c9 : chunkOK EC callC 49 20000 robC 42 kt9 kM9 kt10 kM10 = true := by kernel_rfl
end YtlcecnhdehdneaaGreatL
