/- Printed by a program of mine: the loop, piece by piece. -/
import Derived.Test.YtlcecnhdehdneaaGreatLp
set_option maxRecDepth 10000000
set_option maxHeartbeats 0
namespace YtlcecnhdehdneaaGreatL
open Go Go.AE Go.RowKit Go.Proofs
theorem c24 : chunkOK EC callC 49 20000 robC 42 kt24 kM24 kt25 kM25 = true := by kernel_rfl
theorem c25 : chunkOK EC callC 49 20000 robC 42 kt25 kM25 kt26 kM26 = true := by kernel_rfl
end YtlcecnhdehdneaaGreatL
