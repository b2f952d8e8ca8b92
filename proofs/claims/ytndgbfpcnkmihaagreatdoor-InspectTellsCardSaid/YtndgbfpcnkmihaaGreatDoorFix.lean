/- The fixed facts, evaluated. -/
import Derived.Test.YtndgbfpcnkmihaaGreatDoorStTop
open Go Go.AS Go.RowKit Go.Proofs
set_option maxHeartbeats 0
namespace YtndgbfpcnkmihaaGreatDoorS
set_option maxRecDepth 10000000 in
theorem fixR : isTrue (evCallF (mkEnvL Tryz.prog) (sumsOf stL) (nat_lit 20000) (nat_lit 60) (.fn (nat_lit 5)) [] ⟨0, .nil⟩) = true := by kernel_rfl
theorem fixed (w : World) : Calls Tryz.prog 5 #[] w fun e w' => e = .returned (.bool true) ∧ Below w.heap.size w w' :=
  letI : Rho := ⟨fun _ => .bool true⟩
  ae_fast_with (args := []) (args' := #[]) (by kernel_rfl) ⟨rfl, fun i h => absurd h (by simp)⟩ fixR w (sumsOf_ok stL_ok w)
end YtndgbfpcnkmihaaGreatDoorS
