/- A frame's header: the program's reckoning. -/
import Derived.Test.YtlaogoehmndcjaaGreatDoorPlaceA
set_option linter.unusedVariables false
namespace Go.Proofs.YtlaogoehmndcjaaGreatDoor.Ba
open Go Go.RowKit Go.Lib Go.Base
/-- the nine numbers of the frame that four words tell -/
def frameV (a b c d : Int) : Value := .agg #[.int .i32 (s32 (a % 4294967296)), .int .u8 (a / 4294967296 % 256), .int .u8 (a / 1099511627776 % 256), .int .u16 (a / 281474976710656), .int .i32 (s32 (b % 4294967296)), .int .i32 (s32 (b / 4294967296)), .int .i32 (s32 (c % 4294967296)), .int .i32 (s32 (c / 4294967296)), .int .u64 d]
set_option maxRecDepth 1000000 in
set_option maxHeartbeats 3200000 in
theorem frame_any (a b c d : Int) (ha : 0 ≤ a ∧ a < 18446744073709551616) (hb : 0 ≤ b ∧ b < 18446744073709551616) (hc : 0 ≤ c ∧ c < 18446744073709551616) (w : World) :
    Calls Tryz.prog 173 #[.agg #[.int .u64 a, .int .u64 b, .int .u64 c, .int .u64 d]] w fun e w' => e = .returned (frameV a b c d) ∧ Below w.heap.size w w' := by
  have c1 := fun W => split_any b hb.1 hb.2 W
  have c2 := fun W => split_any c hc.1 hc.2 W
  obtain ⟨ha0, ha1⟩ := ha
  clear hb hc
  unfold frameV
  go_enter Tryz.func173, Tryz.ntmps173
  go_wp2_with (first | (go_at_call 206; refine (c1 _).mono ?_; clear c1; rintro e w1 ⟨rfl, rfl⟩) | (go_at_call 206; refine (c2 _).mono ?_; clear c2; rintro e w1 ⟨rfl, rfl⟩))
  refine bodyPost_ret (v := .agg _) (by simp [results, Tryz.results173, go_sem]; rfl) rfl ⟨?_, ?_⟩
  · simp only [s32_eq]
  · repeat first | exact Below.refl _ _ | refine Below.drew ?_ | refine Below.alloc ?_ (by first | (simp; done) | (simp; omega)) _
end Go.Proofs.YtlaogoehmndcjaaGreatDoor.Ba
