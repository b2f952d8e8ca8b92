/- linear's fixed(): by the evaluator. -/
import Derived.Test.YtkbbpjknakajeaaChecked
import Derived.Test.YtkbbpjknakajeaaAEFast2
namespace Go.Proofs.Ytkbbpjknakajeaa
open Go Go.AE Go.RowKit
theorem mixed : Try.prog.follows .mixedOrders = true := by kernel_rfl
set_option maxRecDepth 100000 in
theorem fixed_runs : isTrue (evCallF (mkEnvL Try.prog) noSums 1000 30 (.fn 8) [] ⟨0, .nil⟩) = true := by kernel_rfl
theorem fixed_ok (w : World) : Calls Try.prog 8 #[] w fun e w' => e = .returned (.bool true) ∧ Below w.heap.size w w' :=
  ae_fast mixed (VRL.nil _) fixed_runs w
end Go.Proofs.Ytkbbpjknakajeaa
