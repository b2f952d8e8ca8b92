/- DriverNil, reckoned in the kernel. -/
import Derived.Test.YtekpndfghedlpaaGreatProg
import Derived.Test.YtekpndfghedlpaaGreatAETop
namespace Go.Proofs.YtekpndfghedlpaaGreat
open Go Go.AE Go.RowKit
theorem mixed : Tryz.prog.follows .mixedOrders = true := by kernel_rfl
set_option maxRecDepth 1000000 in
theorem runs : isTrue (evCall (mkEnv Tryz.prog) noSums 2000 40 (.fn 3) [.agg #[topI .i32, topI .i32, topI .i32, topI .i32, topI .i64, topI .i64], .agg #[topI .u64, topB, topS], topI .i64] ⟨0, .nil⟩) = true := by kernel_rfl
end Go.Proofs.YtekpndfghedlpaaGreat
