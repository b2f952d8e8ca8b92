/- YtndgbfpcnkmihaaGreatDoorPlace; YtndgbfpcnkmihaaGreatDoorPlace2; YtndgbfpcnkmihaaGreatDoorHead: in one text. -/
import Derived.Test.YtndgbfpcnkmihaaGreatDoorMeta
import Derived.Test.YtndgbfpcnkmihaaGreatDoorPlainA
/- Positions: the program's reckoning. -/
namespace Go.Proofs.YtndgbfpcnkmihaaGreatDoor.Ba
open Go Go.RowKit Go.Lib Go.Base
theorem s32_eq (n : Int) : s32 n = wrap32 n := by unfold s32 wrap32; omega
theorem split_any (v : Int) (h0 : 0 ≤ v) (h1 : v < 18446744073709551616) (w : World) : Calls Tryz.prog 88 #[.int .u64 v] w fun e w' => e = .returned (.tuple #[.int .i32 (s32 (v % 4294967296)), .int .i32 (s32 (v / 4294967296))]) ∧ w' = w := by
  go_enter Tryz.func88, Tryz.ntmps88
  go_wp2
  go_ret2
  refine ⟨?_, rfl⟩
  simp only [s32_eq]
  rfl
theorem unpack_any (v : Int) (h0 : 0 ≤ v) (h1 : v < 18446744073709551616) (w : World) : Calls Tryz.prog 146 #[.int .u64 v] w fun e w' => e = .returned (.tuple #[.int .i32 (s32 (v / 4294967296)), .int .u32 (v % 4294967296)]) ∧ w' = w := by
  go_enter Tryz.func146, Tryz.ntmps146
  go_wp2
  go_ret2
  refine ⟨?_, rfl⟩
  simp only [s32_eq]
  rfl
theorem count_any (t i : Int) (w : World) : Calls Tryz.prog 113 #[.int .i32 t, .int .i32 i] w fun e w' => e = .returned (.int .u32 (u32 (t - i))) ∧ w' = w := by
  go_enter Tryz.func113, Tryz.ntmps113
  go_wp2
  go_ret
  refine ⟨?_, rfl⟩
  have e : u32 (t - i) = (t % 4294967296 - i % 4294967296) % 4294967296 := by unfold u32; omega
  rw [e]
  rfl
end Go.Proofs.YtndgbfpcnkmihaaGreatDoor.Ba

/- Positions: parts, raw tails, frames' headers: the program's reckoning. -/
namespace Go.Proofs.YtndgbfpcnkmihaaGreatDoor.Ba
open Go Go.RowKit Go.Lib Go.Base
theorem or_nat (x y : Nat) (hx : x < 4294967296) (hy : y < 4294967296) : bits .or .u64 ((x * 4294967296 : Nat) : Int) (y : Int) = ((y + 4294967296 * x : Nat) : Int) := by
  show IntKind.u64.wrap ((BitVec.ofInt 64 ((x * 4294967296 : Nat) : Int) ||| BitVec.ofInt 64 (y : Int)).toNat : Int) = _
  rw [BitVec.toNat_or, ofInt_u64 (x * 4294967296) (by omega), ofInt_u64 y (by omega)]
  have h := Nat.shiftLeft_add_eq_or_of_lt (show y < 2 ^ 32 from hy) x
  rw [Nat.shiftLeft_eq] at h
  rw [show (4294967296 : Nat) = 2 ^ 32 by decide, ← h, IntKind.wrap_u64]
  omega
theorem or_int (a b : Int) (ha : 0 ≤ a) (ha1 : a < 4294967296) (hb : 0 ≤ b) (hb1 : b < 4294967296) : bits .or .u64 (a * 4294967296) b = b + 4294967296 * a := by
  obtain ⟨x, rfl⟩ : ∃ x : Nat, a = x := ⟨a.toNat, by omega⟩
  obtain ⟨y, rfl⟩ : ∃ y : Nat, b = y := ⟨b.toNat, by omega⟩
  have := or_nat x y (by omega) (by omega)
  rw [show ((x * 4294967296 : Nat) : Int) = (x : Int) * 4294967296 by omega] at this
  rw [this]
  omega
theorem part_any (c : Int) (h0 : 0 ≤ c) (_h1 : c < 4294967296) (w : World) : Calls Tryz.prog 126 #[.int .u32 c] w fun e w' => e = .returned (.int .i64 (c % 3)) ∧ w' = w := by
  have e : c.tmod 3 = c % 3 := Int.tmod_eq_emod_of_nonneg h0
  go_enter Tryz.func126, Tryz.ntmps126
  go_wp2
  go_ret
  exact ⟨rfl, rfl⟩
theorem record_any (a b : Int) (w : World) : Calls Tryz.prog 230 #[.int .i32 a, .int .i32 b] w fun e w' => e = .returned (.int .u64 (u32 a + 4294967296 * u32 b)) ∧ w' = w := by
  go_enter Tryz.func230, Tryz.ntmps230
  go_wp2
  go_ret
  refine ⟨?_, rfl⟩
  have e := or_int (b % 4294967296) (a % 4294967296) (by omega) (by omega) (by omega) (by omega)
  show Ending.returned (.int .u64 (bits BinOp.or IntKind.u64 (b % 4294967296 * 4294967296) (a % 4294967296))) = _
  rw [e]
  rfl
theorem pack_any (t o : Int) (h0 : 0 ≤ o) (h1 : o < 4294967296) (w : World) : Calls Tryz.prog 63 #[.int .i32 t, .int .u32 o] w fun e w' => e = .returned (.int .u64 (o + 4294967296 * u32 t)) ∧ w' = w := by
  go_enter Tryz.func63, Tryz.ntmps63
  go_wp2
  go_ret
  refine ⟨?_, rfl⟩
  have e := or_int (t % 4294967296) o (by omega) (by omega) h0 h1
  show Ending.returned (.int .u64 (bits BinOp.or IntKind.u64 (t % 4294967296 * 4294967296) o)) = _
  rw [e]
  rfl
end Go.Proofs.YtndgbfpcnkmihaaGreatDoor.Ba

/- A frame's header: the program's reckoning. -/
namespace Go.Proofs.YtndgbfpcnkmihaaGreatDoor.Ba
open Go Go.RowKit Go.Lib Go.Base
/-- the nine numbers of the frame that four words tell -/
def frameV (a b c d : Int) : Value := .agg #[.int .i32 (s32 (a % 4294967296)), .int .u8 (a / 4294967296 % 256), .int .u8 (a / 1099511627776 % 256), .int .u16 (a / 281474976710656), .int .i32 (s32 (b % 4294967296)), .int .i32 (s32 (b / 4294967296)), .int .i32 (s32 (c % 4294967296)), .int .i32 (s32 (c / 4294967296)), .int .u64 d]
set_option maxRecDepth 1000000 in
set_option maxHeartbeats 3200000 in
theorem frame_any (a b c d : Int) (ha : 0 ≤ a ∧ a < 18446744073709551616) (hb : 0 ≤ b ∧ b < 18446744073709551616) (hc : 0 ≤ c ∧ c < 18446744073709551616) (w : World) :
    Calls Tryz.prog 56 #[.agg #[.int .u64 a, .int .u64 b, .int .u64 c, .int .u64 d]] w fun e w' => e = .returned (frameV a b c d) ∧ Below w.heap.size w w' := by
  have c1 := fun W => split_any b hb.1 hb.2 W
  have c2 := fun W => split_any c hc.1 hc.2 W
  obtain ⟨ha0, ha1⟩ := ha
  clear hb hc
  unfold frameV
  go_enter Tryz.func56, Tryz.ntmps56
  go_wp2_with (first | (go_at_call 88; refine (c1 _).mono ?_; clear c1; rintro e w1 ⟨rfl, rfl⟩) | (go_at_call 88; refine (c2 _).mono ?_; clear c2; rintro e w1 ⟨rfl, rfl⟩))
  refine bodyPost_ret (v := .agg _) (by simp [results, Tryz.results56, go_sem]; rfl) rfl ⟨?_, ?_⟩
  · simp only [s32_eq]
  · repeat first | exact Below.refl _ _ | refine Below.drew ?_ | refine Below.alloc ?_ (by first | (simp; done) | (simp; omega)) _
end Go.Proofs.YtndgbfpcnkmihaaGreatDoor.Ba
