import Derived.Test.YtiapphhldedckaaChecked
import Derived.Test.YtiapphhldedckaaAETop
namespace Go.Proofs.Ytiapphhldedckaa
open Go Go.AE Go.RowKit
theorem mixed : Try.prog.follows .mixedOrders = true := by kernel_rfl
set_option maxRecDepth 100000 in
theorem fixed_runs : isTrue (evCall (mkEnv Try.prog) 1000 30 6 [] ⟨0, .nil⟩) = true := by kernel_rfl
theorem fixed_ok (w : World) : Calls Try.prog 6 #[] w fun e w' => e = .returned (.bool true) ∧ Below w.heap.size w w' :=
  ae_true mixed (VRL.nil _) fixed_runs w
#print axioms fixed_ok
end Go.Proofs.Ytiapphhldedckaa
