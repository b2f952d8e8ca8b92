/- Printed by a program of mine: the loop, piece by piece. -/
import Derived.Test.YtlcecnhdehdneaaGreatLp
set_option maxRecDepth 10000000
set_option maxHeartbeats 0
namespace YtlcecnhdehdneaaGreatL
open Go Go.AE Go.RowKit Go.Proofs
theorem c12 : chunkOK EC callC 49 20000 robC 42 kt12 kM12 kt13 kM13 = true := by kernel_rfl
theorem c13 : chunkOK EC callC 49 20000 robC 42 kt13 kM13 kt14 kM14 = true := by kernel_rfl
end YtlcecnhdehdneaaGreatL
