/- The document's Same at two rows of events that hold nothing but an actor's number, alike in both. -/
import Derived.Test.YtiapphhldedckaaPicks
import Derived.Test.YtiapphhldedckaaFix
import Derived.Deep.RegionHeld3
import Derived.Deep.QuietTactic
import Derived.BigQuiet
namespace Go.Proofs.Ytiapphhldedckaa
open Go.RowKit
def acc0 : Value := .agg #[.int .i64 0, .int .i64 0, .int .i64 0, .int .u64 0, .int .u64 0, .slice none 0 0]
def ans0 : Value := .agg #[.int .u64 0, .bool false, .slice none 0 0]
set_option maxRecDepth 100000 in
theorem acc_runs : AE.isTrue (AE.evCall (AE.mkEnv Try.prog) 10 5 27 [acc0, acc0] ⟨0, .nil⟩) = true := by kernel_rfl
set_option maxRecDepth 100000 in
theorem ans_runs : AE.isTrue (AE.evCall (AE.mkEnv Try.prog) 10 5 28 [ans0, ans0] ⟨0, .nil⟩) = true := by kernel_rfl
theorem acc_vr : AE.VR (fun _ => none) acc0 acc0 := .agg_of (.simple (by intro v hv; simp at hv; rcases hv with rfl | rfl | rfl <;> rfl))
theorem ans_vr : AE.VR (fun _ => none) ans0 ans0 := .agg_of (.simple (by intro v hv; simp at hv; rcases hv with rfl | rfl | rfl <;> rfl))
theorem acc_ok (w : World) : Calls Try.prog 27 #[.agg #[.int .i64 0, .int .i64 0, .int .i64 0, .int .u64 0, .int .u64 0, .slice none 0 0], .agg #[.int .i64 0, .int .i64 0, .int .i64 0, .int .u64 0, .int .u64 0, .slice none 0 0]] w fun e w' => e = .returned (.bool true) ∧ Below w.heap.size w w' :=
  AE.ae_true mixed (.cons acc_vr (.cons acc_vr (.nil _))) acc_runs w
theorem ans_ok (w : World) : Calls Try.prog 28 #[.agg #[.int .u64 0, .bool false, .slice none 0 0], .agg #[.int .u64 0, .bool false, .slice none 0 0]] w fun e w' => e = .returned (.bool true) ∧ Below w.heap.size w w' :=
  AE.ae_true mixed (.cons ans_vr (.cons ans_vr (.nil _))) ans_runs w
end Go.Proofs.Ytiapphhldedckaa
