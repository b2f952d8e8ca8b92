/- ActorNil, reckoned in the kernel. -/
import Derived.Test.YtmnfphgobahleaaGreatDoorFix
namespace Go.Proofs.YtmnfphgobahleaaGreatDoor
open Go Go.AE Go.RowKit
set_option maxRecDepth 1000000 in
theorem runs : isTrue (evCall (mkEnv Tryz.prog) S 20000 60 3 [.agg #[topI .u64, topB, topS], topI .i64] ⟨0, .nil⟩) = true := by kernel_rfl
end Go.Proofs.YtmnfphgobahleaaGreatDoor
