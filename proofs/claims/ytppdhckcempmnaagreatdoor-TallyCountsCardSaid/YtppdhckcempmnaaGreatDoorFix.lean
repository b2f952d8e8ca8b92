/- The fixed facts, evaluated. -/
import Derived.Test.YtppdhckcempmnaaGreatDoorStTop
open Go Go.AE Go.RowKit Go.Proofs
set_option maxHeartbeats 0
namespace YtppdhckcempmnaaGreatDoorS
set_option maxRecDepth 10000000 in
theorem fixR : isTrue (evCallF (mkEnvL Tryz.prog) (sumsOf stL) (nat_lit 20000) (nat_lit 60) (.fn (nat_lit 4)) [] ⟨0, .nil⟩) = true := by kernel_rfl
theorem fixed (w : World) : Calls Tryz.prog 4 #[] w fun e w' => e = .returned (.bool true) ∧ Below w.heap.size w w' :=
  ae_fast_with (args := []) (args' := #[]) (by kernel_rfl) ⟨rfl, fun i h => absurd h (by simp)⟩ fixR w (sumsOf_ok stL_ok w)
end YtppdhckcempmnaaGreatDoorS
