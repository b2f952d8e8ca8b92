/- Printed by a program of mine: the loop, piece by piece. -/
import Derived.Test.YtlcecnhdehdneaaGreatLp
set_option maxRecDepth 10000000
set_option maxHeartbeats 0
namespace YtlcecnhdehdneaaGreatL
open Go Go.AE Go.RowKit Go.Proofs
theorem c16 : chunkOK EC callC 49 20000 robC 42 kt16 kM16 kt17 kM17 = true := by kernel_rfl
theorem c17 : chunkOK EC callC 49 20000 robC 42 kt17 kM17 kt18 kM18 = true := by kernel_rfl
end YtlcecnhdehdneaaGreatL
