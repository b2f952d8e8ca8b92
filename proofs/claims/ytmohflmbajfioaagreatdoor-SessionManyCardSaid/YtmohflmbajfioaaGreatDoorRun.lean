/- SessionNil, reckoned in the kernel. -/
import Derived.Test.YtmohflmbajfioaaGreatDoorProg
import Derived.Test.YtmohflmbajfioaaGreatDoorAEDefer
namespace Go.Proofs.YtmohflmbajfioaaGreatDoor
open Go Go.AE Go.RowKit
theorem mixed : Tryz.prog.follows .mixedOrders = true := by kernel_rfl
def isSlow (f : FuncId) : Bool := Nat.beq f 39
set_option maxRecDepth 1000000 in
theorem nil_runs : isTrue (evCallF (mkEnvL Tryz.prog) (defS (mkEnvL Tryz.prog) 2000 40 isSlow noSums 2) 2000 40 (.fn 4) [.agg #[topI .i32, topI .i32]] ⟨0, .nil⟩) = true := by kernel_rfl
theorem key_args (a b : Int) : VRL (fun _ => none) [.agg #[topI .i32, topI .i32]] (#[.agg #[.int .i32 a, .int .i32 b]] : Array Value).toList := by
  refine .cons (.agg rfl fun i hi => ?_) (.nil _)
  match i, hi with
  | 0, _ => exact .topI _ _
  | 1, _ => exact .topI _ _
theorem S_ok (w : World) : SOK (mkEnvL Tryz.prog) Tryz.prog w (defS (mkEnvL Tryz.prog) 2000 40 isSlow noSums 2) := defS_ok (mkEnvL_ok _) mixed 2000 40 isSlow (noSums_ok _ _ _) 2
theorem nil_law (a b : Int) (w : World) : Calls Tryz.prog 4 #[.agg #[.int .i32 a, .int .i32 b]] w fun e w' => e = .returned (.bool true) ∧ Below w.heap.size w w' :=
  ae_fast_with mixed (key_args a b) nil_runs w (S_ok w)
end Go.Proofs.YtmohflmbajfioaaGreatDoor
