/- Printed by a program of mine: the loop, piece by piece. -/
import Derived.Test.YtlcecnhdehdneaaGreatLp
set_option maxRecDepth 10000000
set_option maxHeartbeats 0
namespace YtlcecnhdehdneaaGreatL
open Go Go.AE Go.RowKit Go.Proofs
theorem c18 : chunkOK EC callC 49 20000 robC 42 kt18 kM18 kt19 kM19 = true := by kernel_rfl
theorem c19 : chunkOK EC callC 49 20000 robC 42 kt19 kM19 kt20 kM20 = true := by kernel_rfl
end YtlcecnhdehdneaaGreatL
