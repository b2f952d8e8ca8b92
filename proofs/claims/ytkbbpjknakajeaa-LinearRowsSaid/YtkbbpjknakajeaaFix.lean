/- linear's fixed(): by the evaluator. -/
import Derived.Test.YtkbbpjknakajeaaChecked
import Derived.Test.YtkbbpjknakajeaaAETop
namespace Go.Proofs.Ytkbbpjknakajeaa
open Go Go.AE Go.RowKit
theorem mixed : Try.prog.follows .mixedOrders = true := by kernel_rfl
set_option maxRecDepth 100000 in
theorem fixed_runs : isTrue (evCall (mkEnv Try.prog) noSums 1000 30 8 [] ⟨0, .nil⟩) = true := by kernel_rfl
theorem fixed_ok (w : World) : Calls Try.prog 8 #[] w fun e w' => e = .returned (.bool true) ∧ Below w.heap.size w w' :=
  ae_true mixed (VRL.nil _) fixed_runs w
#print axioms fixed_ok
end Go.Proofs.Ytkbbpjknakajeaa
