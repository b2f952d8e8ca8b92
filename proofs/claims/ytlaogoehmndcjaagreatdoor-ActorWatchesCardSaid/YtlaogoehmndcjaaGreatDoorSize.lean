/- How many bytes a frame of a length takes: the program's size and the document's, and what they lean on. -/
import Derived.Test.YtlaogoehmndcjaaGreatDoorProg
import Derived.Test.YtlaogoehmndcjaaGreatDoorEvC
import Derived.Laws.DeepBits32
import Derived.WalkKit
import Derived.Deep.QuietTactic
import Derived.BigQuiet
import Derived.BigRegion
import Derived.WalkSpells
import Derived.Lib.Hide
set_option linter.unusedVariables false
namespace Go.Proofs.YtlaogoehmndcjaaGreatDoor
open Go Go.RowKit
theorem mixed : Tryz.prog.follows .mixedOrders = true := by kernel_rfl
theorem and31 (x : Nat) (hx : x < 18446744073709551616) : x &&& 18446744073709551584 = x - x % 32 := by
  apply Nat.eq_of_testBit_eq
  intro i
  rw [Nat.testBit_and]
  have e : x - x % 32 = 2 ^ 5 * (x / 2 ^ 5) := by omega
  have f : 18446744073709551584 = 2 ^ 5 * (2 ^ 59 - 1) := by decide
  rw [e, f, Nat.testBit_two_pow_mul, Nat.testBit_two_pow_mul, Nat.testBit_two_pow_sub_one, Nat.testBit_div_two_pow]
  by_cases h5 : 5 ≤ i
  · simp only [h5, decide_true, Bool.true_and]
    rw [show i - 5 + 5 = i by omega]
    by_cases h : i - 5 < 59
    · simp [h]
    · have : x.testBit i = false := Nat.testBit_lt_two_pow (Nat.lt_of_lt_of_le hx (by
        have : 2 ^ 64 ≤ 2 ^ i := Nat.pow_le_pow_right (by omega) (by omega)
        simpa using this))
      simp [this]
  · simp [h5]
theorem wrap_i64_small (n : Int) (h0 : 0 ≤ n) (h1 : n < 9223372036854775808) : IntKind.i64.wrap n = n := by
  simp [IntKind.wrap, IntKind.bits, IntKind.signed]
  split <;> omega
theorem i64_andNot31 (x : Nat) (hx : x < 9223372036854775808) : bits .andNot .i64 (x : Int) 31 = ((x - x % 32 : Nat) : Int) := by
  show IntKind.i64.wrap ((BitVec.ofInt 64 (x : Int) &&& ~~~BitVec.ofInt 64 31).toNat : Int) = _
  have h1 : (BitVec.ofInt 64 31).toNat = 31 := by decide
  rw [BitVec.toNat_and, BitVec.toNat_not, ofInt_u64 x (by omega), h1, show 2 ^ 64 - 1 - 31 = 18446744073709551584 by decide, and31 x (by omega)]
  exact wrap_i64_small _ (by omega) (by omega)
/-- the next multiple of 32 -/
def aln (n : Nat) : Nat := (n + 31) / 32 * 32
theorem pow32 (w : World) : Calls Tryz.prog 114 #[.int .i64 32] w fun e w' => e = .returned (.bool true) ∧ w' = w := by
  go_enter Tryz.func114, Tryz.ntmps114
  go_wp2
  go_ret
  exact ⟨rfl, rfl⟩
set_option maxRecDepth 100000 in
theorem pow32R_runs : AS.isTrue (AS.evCall (AS.mkEnv Tryz.prog) AS.noSums 100 10 (.fn 121) [.int .i64 32] ⟨0, .nil⟩) = true := by kernel_rfl
theorem pow32R (w : World) : Calls Tryz.prog 121 #[.int .i64 32] w fun e w' => e = .returned (.bool true) ∧ Below w.heap.size w w' :=
  letI : AS.Rho := ⟨fun _ => .bool true⟩
  AS.ae_true mixed (AS.VRL.cons (.refl rfl) (AS.VRL.nil _)) pow32R_runs w
set_option maxHeartbeats 1000000 in
theorem align (n : Nat) (hn : n ≤ 2147483648) (w : World) : Calls Tryz.prog 178 #[.int .i64 n, .int .i64 32] w fun e w' => e = .returned (.tuple #[.int .i64 (aln n : Nat), .int .i64 0]) ∧ w' = w := by
  have key := i64_andNot31 n (by omega)
  have h0 : ¬ (n : Int) < 0 := by omega
  have h1 : ¬ (n : Int) > 4611686018427387904 := by omega
  by_cases h : n % 32 = 0
  · have e : aln n = n := by unfold aln; omega
    rw [h, Nat.sub_zero] at key
    go_enter Tryz.func178, Tryz.ntmps178
    go_wp2_with (first | (go_at_call 114; refine (pow32 _).mono ?_; rintro e w' ⟨rfl, rfl⟩) | simp only)
    go_ret2
    refine ⟨?_, rfl⟩
    show Ending.returned (.tuple #[.int .i64 (n : Int), .int .i64 0]) = _
    first | rfl | rw [e]
  · have e : ((aln n : Nat) : Int) = ((n - n % 32 : Nat) : Int) + 32 := by unfold aln; omega
    have h2 : ¬ ((n - n % 32 : Nat) : Int) = (n : Int) := by omega
    have h3 : ¬ (((n - n % 32 : Nat) : Int) + 32) < 0 := by omega
    have h4 : ¬ (((n - n % 32 : Nat) : Int) + 32) > 4611686018427387904 := by omega
    go_enter Tryz.func178, Tryz.ntmps178
    go_wp2_with (first | (go_at_call 114; refine (pow32 _).mono ?_; rintro e w' ⟨rfl, rfl⟩) | simp only)
    go_ret2
    refine ⟨?_, rfl⟩
    show Ending.returned (.tuple #[.int .i64 (((n - n % 32 : Nat) : Int) + 32), .int .i64 0]) = _
    first | rfl | rw [e]
set_option maxRecDepth 100000 in
set_option maxHeartbeats 1000000 in
theorem alignR (n : Nat) (hn : n ≤ 2147483648) (w : World) : Calls Tryz.prog 73 #[.int .i64 n, .int .i64 32] w fun e w' => e = .returned (.tuple #[.int .i64 (aln n : Nat), .int .i64 0]) ∧ Below w.heap.size w w' := by
  have h0 : ¬ (n : Int) < 0 := by omega
  have h1 : ¬ (n : Int) > 4611686018427387904 := by omega
  by_cases h : n % 32 = 0
  · have e : aln n = n := by unfold aln; omega
    have h2 : (n : Int) % 32 = 0 := by omega
    go_enter Tryz.func73, Tryz.ntmps73
    go_wp2_with (go_at_call 121; refine (pow32R _).mono ?_; rintro e w' ⟨rfl, hB⟩)
    go_ret2
    refine ⟨?_, hB⟩
    show Ending.returned (.tuple #[.int .i64 (n : Int), .int .i64 0]) = _
    first | rfl | rw [e]
  · have e : ((aln n : Nat) : Int) = ((n : Int) / 32 + 1) * 32 := by unfold aln; omega
    have h2 : ¬ (n : Int) % 32 = 0 := by omega
    have h3 : ¬ ((n : Int) / 32 + 1) > 144115188075855872 := by omega
    have h4 : ((n : Int) / 32 + 1) * 32 < 9223372036854775808 := by omega
    clear h3 h4
    have hq0 : 0 ≤ (n : Int) / 32 := by omega
    have hq1 : (n : Int) / 32 ≤ 67108864 := by omega
    have He := Lib.hid e
    clear e
    go_enter Tryz.func73, Tryz.ntmps73
    iterate 30 (first | go_values | go_skip | go_guarded | go_step | go_upon | skip)
    go_at_call 121; refine (pow32R _).mono ?_; rintro e w' ⟨rfl, hB⟩
    dsimp only
    iterate 60 (first | go_values | go_skip | go_guarded | go_step | go_upon | go_back | skip)
    have e := He.out
    generalize (n : Int) / 32 = q at e hq0 hq1 ⊢
    have h3 : ¬ q + 1 > 144115188075855872 := by omega
    have He := Lib.hid e
    clear e
    go_wp2
    go_ret2
    refine ⟨?_, hB⟩
    show Ending.returned (.tuple #[.int .i64 ((q + 1) * 32), .int .i64 0]) = _
    rw [He.out]
end Go.Proofs.YtlaogoehmndcjaaGreatDoor
