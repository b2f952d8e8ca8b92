/- Printed by a program of mine: the loop, piece by piece. -/
import Derived.Test.YtlcecnhdehdneaaGreatLp
set_option maxRecDepth 10000000
set_option maxHeartbeats 0
namespace YtlcecnhdehdneaaGreatL
open Go Go.AE Go.RowKit Go.Proofs
theorem c26 : chunkOK EC callC 49 20000 robC 42 kt26 kM26 kt27 kM27 = true := by kernel_rfl
theorem c27 : chunkOK EC callC 49 20000 robC 42 kt27 kM27 kt28 kM28 = true := by kernel_rfl
end YtlcecnhdehdneaaGreatL
