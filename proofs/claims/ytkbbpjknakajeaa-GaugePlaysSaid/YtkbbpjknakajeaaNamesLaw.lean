/- GaugeNames answers true, for every text and every number. -/
import Derived.Test.YtkbbpjknakajeaaNames
import Derived.Test.YtkbbpjknakajeaaAEDefer
namespace Go.Proofs.Ytkbbpjknakajeaa
open Go Go.AE Go.RowKit
theorem mixedG : Try.prog.follows .mixedOrders = true := by kernel_rfl
def isSlow (f : FuncId) : Bool := Nat.beq f 63
set_option maxRecDepth 100000 in
theorem gauge_runs : isTrue (evCallF (mkEnvL Try.prog) (defS (mkEnvL Try.prog) 1000 40 isSlow noSums 1) 1000 40 (.fn 16) [] ⟨0, .nil⟩) = true := by kernel_rfl
theorem gauge_fixed (w : World) : Calls Try.prog 16 #[] w fun e w' => e = .returned (.bool true) ∧ Below w.heap.size w w' :=
  ae_fast_with mixedG (VRL.nil _) gauge_runs w (defS_ok (mkEnvL_ok _) mixedG 1000 40 isSlow (noSums_ok _ _ _) 1)
theorem counter_nil (s : ByteArray) (w : World) : Calls Try.prog 18 #[.pointer none, .string s] w fun e w' => e = .returned (.tuple #[.pointer none, .int .i64 1]) ∧ w' = w := by
  go_enter Try.func18, Try.ntmps18
  go_wp2
  go_ret2
  exact ⟨rfl, rfl⟩
theorem all_nil (w : World) : Calls Try.prog 21 #[.pointer none] w fun e w' => e = .returned (.slice none 0 0) ∧ w' = w := by
  go_enter Try.func21, Try.ntmps21
  go_wp2
  go_ret
  exact ⟨rfl, rfl⟩
theorem sum_nil (w : World) : Calls Try.prog 25 #[.pointer none] w fun e w' => e = .returned (.int .i64 0) ∧ w' = w := by
  go_enter Try.func25, Try.ntmps25
  go_wp2_with (go_at_call 21; refine (all_nil _).mono ?_; rintro e w' ⟨rfl, rfl⟩)
  refine wp_loop_rounds 1 ?_
  rw [rounds_succ]
  go_wp2
  go_ret
  exact ⟨rfl, rfl⟩
theorem add_nil (n : Int) (w : World) : Calls Try.prog 19 #[.pointer none, .int .i64 n] w fun e w' => e = .returned (.int .i64 0) ∧ w' = w := by
  go_enter Try.func19, Try.ntmps19
  go_wp2
  go_ret
  exact ⟨rfl, rfl⟩
theorem value_nil (w : World) : Calls Try.prog 20 #[.pointer none] w fun e w' => e = .returned (.int .i64 0) ∧ w' = w := by
  go_enter Try.func20, Try.ntmps20
  go_wp2
  go_ret
  exact ⟨rfl, rfl⟩
theorem max_nil (n : Int) (w : World) : Calls Try.prog 23 #[.pointer none, .int .i64 n] w fun e w' => e = .returned (.int .i64 0) ∧ w' = w := by
  go_enter Try.func23, Try.ntmps23
  go_wp2
  go_ret
  exact ⟨rfl, rfl⟩
set_option maxRecDepth 1000000 in
set_option maxHeartbeats 1600000 in
theorem names_law (s : ByteArray) (n : Int) (w : World) : Calls Try.prog 7 #[.string s, .int .i64 n] w fun e w' => e = .returned (.bool true) ∧ Below w.heap.size w w' := by
  by_cases hs : s.size ≤ 300
  · have h0 : ¬ (s.size : Int) > 300 := by omega
    have cR := fun w => isNameR_any s hs w
    go_enter Try.func7, Try.ntmps7
    go_wp2_with (go_at_call 16; refine (gauge_fixed _).mono ?_; rintro e w1 ⟨rfl, hB1⟩; have HB1 := Lib.hid hB1; clear hB1)
    go_wp2_with (first
      | (go_at_call 18; refine (counter_nil _ _).mono ?_; rintro e w' ⟨rfl, rfl⟩)
      | (go_at_call 27; refine (isName_any _ _).mono ?_; rintro e w2 ⟨⟨b1, rfl, hb1⟩, hB2⟩; have HB2 := Lib.hid (And.intro hb1 hB2); clear hb1 hB2)
      | (go_at_call 28; refine (cR _).mono ?_; rintro e w3 ⟨⟨b2, rfl, hb2⟩, rfl⟩; obtain rfl : b1 = b2 := Bool.eq_iff_iff.2 (HB2.out.1.trans hb2.symm))
      | (go_at_call 21; refine (all_nil _).mono ?_; rintro e w' ⟨rfl, rfl⟩)
      | (go_at_call 25; refine (sum_nil _).mono ?_; rintro e w' ⟨rfl, rfl⟩)
      | (go_at_call 19; refine (add_nil _ _).mono ?_; rintro e w' ⟨rfl, rfl⟩)
      | (go_at_call 20; refine (value_nil _).mono ?_; rintro e w' ⟨rfl, rfl⟩)
      | (go_at_call 23; refine (max_nil _ _).mono ?_; rintro e w' ⟨rfl, rfl⟩))
    go_ret
    exact ⟨rfl, HB1.out.trans (HB2.out.2.mono HB1.out.size)⟩
  · have h0 : (s.size : Int) > 300 := by omega
    go_enter Try.func7, Try.ntmps7
    go_wp2_with (go_at_call 16; refine (gauge_fixed _).mono ?_; rintro e w1 ⟨rfl, hB1⟩; have HB1 := Lib.hid hB1; clear hB1)
    go_ret
    exact ⟨rfl, HB1.out⟩
end Go.Proofs.Ytkbbpjknakajeaa
