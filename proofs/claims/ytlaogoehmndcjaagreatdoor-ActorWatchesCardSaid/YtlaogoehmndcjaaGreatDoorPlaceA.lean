/- YtlaogoehmndcjaaGreatDoorPlace; YtlaogoehmndcjaaGreatDoorPlace2: in one text. -/
import Derived.Test.YtlaogoehmndcjaaGreatDoorMeta
import Derived.Test.YtlaogoehmndcjaaGreatDoorPlA
set_option linter.unusedVariables false
/- Positions: the program's reckoning. -/
namespace Go.Proofs.YtlaogoehmndcjaaGreatDoor.Ba
open Go Go.RowKit Go.Lib Go.Base
theorem s32_eq (n : Int) : s32 n = wrap32 n := by unfold s32 wrap32; omega
theorem split_any (v : Int) (h0 : 0 ≤ v) (h1 : v < 18446744073709551616) (w : World) : Calls Tryz.prog 206 #[.int .u64 v] w fun e w' => e = .returned (.tuple #[.int .i32 (s32 (v % 4294967296)), .int .i32 (s32 (v / 4294967296))]) ∧ w' = w := by
  go_enter Tryz.func206, Tryz.ntmps206
  go_wp2
  go_ret2
  refine ⟨?_, rfl⟩
  simp only [s32_eq]
  rfl
theorem unpack_any (v : Int) (h0 : 0 ≤ v) (h1 : v < 18446744073709551616) (w : World) : Calls Tryz.prog 144 #[.int .u64 v] w fun e w' => e = .returned (.tuple #[.int .i32 (s32 (v / 4294967296)), .int .u32 (v % 4294967296)]) ∧ w' = w := by
  go_enter Tryz.func144, Tryz.ntmps144
  go_wp2
  go_ret2
  refine ⟨?_, rfl⟩
  simp only [s32_eq]
  rfl
theorem count_any (t i : Int) (w : World) : Calls Tryz.prog 182 #[.int .i32 t, .int .i32 i] w fun e w' => e = .returned (.int .u32 (u32 (t - i))) ∧ w' = w := by
  go_enter Tryz.func182, Tryz.ntmps182
  go_wp2
  go_ret
  refine ⟨?_, rfl⟩
  have e : u32 (t - i) = (t % 4294967296 - i % 4294967296) % 4294967296 := by unfold u32; omega
  rw [e]
  rfl
end Go.Proofs.YtlaogoehmndcjaaGreatDoor.Ba

/- Positions: parts, raw tails, frames' headers: the program's reckoning. -/
namespace Go.Proofs.YtlaogoehmndcjaaGreatDoor.Ba
open Go Go.RowKit Go.Lib Go.Base
theorem or_nat (x y : Nat) (hx : x < 4294967296) (hy : y < 4294967296) : bits .or .u64 ((x * 4294967296 : Nat) : Int) (y : Int) = ((y + 4294967296 * x : Nat) : Int) := by
  show IntKind.u64.wrap ((BitVec.ofInt 64 ((x * 4294967296 : Nat) : Int) ||| BitVec.ofInt 64 (y : Int)).toNat : Int) = _
  rw [BitVec.toNat_or, ofInt_u64 (x * 4294967296) (by omega), ofInt_u64 y (by omega)]
  have h := Nat.shiftLeft_add_eq_or_of_lt (show y < 2 ^ 32 from hy) x
  rw [Nat.shiftLeft_eq] at h
  rw [show (4294967296 : Nat) = 2 ^ 32 by decide, ← h, IntKind.wrap_u64]
  omega
theorem or_int (a b : Int) (ha : 0 ≤ a) (ha1 : a < 4294967296) (hb : 0 ≤ b) (hb1 : b < 4294967296) : bits .or .u64 (a * 4294967296) b = b + 4294967296 * a := by
  obtain ⟨x, rfl⟩ : ∃ x : Nat, a = x := ⟨a.toNat, by omega⟩
  obtain ⟨y, rfl⟩ : ∃ y : Nat, b = y := ⟨b.toNat, by omega⟩
  have := or_nat x y (by omega) (by omega)
  rw [show ((x * 4294967296 : Nat) : Int) = (x : Int) * 4294967296 by omega] at this
  rw [this]
  omega
theorem part_any (c : Int) (h0 : 0 ≤ c) (h1 : c < 4294967296) (w : World) : Calls Tryz.prog 103 #[.int .u32 c] w fun e w' => e = .returned (.int .i64 (c % 3)) ∧ w' = w := by
  have e : c.tmod 3 = c % 3 := Int.tmod_eq_emod_of_nonneg h0
  go_enter Tryz.func103, Tryz.ntmps103
  go_wp2
  go_ret
  exact ⟨rfl, rfl⟩
theorem record_any (a b : Int) (w : World) : Calls Tryz.prog 228 #[.int .i32 a, .int .i32 b] w fun e w' => e = .returned (.int .u64 (u32 a + 4294967296 * u32 b)) ∧ w' = w := by
  go_enter Tryz.func228, Tryz.ntmps228
  go_wp2
  go_ret
  refine ⟨?_, rfl⟩
  have e := or_int (b % 4294967296) (a % 4294967296) (by omega) (by omega) (by omega) (by omega)
  show Ending.returned (.int .u64 (bits BinOp.or IntKind.u64 (b % 4294967296 * 4294967296) (a % 4294967296))) = _
  rw [e]
  rfl
theorem pack_any (t o : Int) (h0 : 0 ≤ o) (h1 : o < 4294967296) (w : World) : Calls Tryz.prog 79 #[.int .i32 t, .int .u32 o] w fun e w' => e = .returned (.int .u64 (o + 4294967296 * u32 t)) ∧ w' = w := by
  go_enter Tryz.func79, Tryz.ntmps79
  go_wp2
  go_ret
  refine ⟨?_, rfl⟩
  have e := or_int (t % 4294967296) o (by omega) (by omega) h0 h1
  show Ending.returned (.int .u64 (bits BinOp.or IntKind.u64 (t % 4294967296 * 4294967296) o)) = _
  rw [e]
  rfl
end Go.Proofs.YtlaogoehmndcjaaGreatDoor.Ba
