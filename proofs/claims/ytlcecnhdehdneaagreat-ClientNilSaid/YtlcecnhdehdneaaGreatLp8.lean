/- Printed by a program of mine: the loop, piece by piece. -/
import Derived.Test.YtlcecnhdehdneaaGreatLp
set_option maxRecDepth 10000000
set_option maxHeartbeats 0
namespace YtlcecnhdehdneaaGreatL
open Go Go.AE Go.RowKit Go.Proofs
theorem c14 : chunkOK EC callC 49 20000 robC 42 kt14 kM14 kt15 kM15 = true := by kernel_rfl
theorem c15 : chunkOK EC callC 49 20000 robC 42 kt15 kM15 kt16 kM16 = true := by kernel_rfl
end YtlcecnhdehdneaaGreatL
