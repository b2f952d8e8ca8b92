/- A position's term: the program's reckoning, by the library's table of trailing zeros. -/
import Derived.Test.YtlaogoehmndcjaaGreatDoorMeta2
import Derived.Test.YtlaogoehmndcjaaGreatDoorPlaceA
import Derived.Test.YtlaogoehmndcjaaGreatDoorSize
import Derived.Shelf.Spec.TrailingZeros
set_option linter.unusedVariables false
namespace Go.Proofs.YtlaogoehmndcjaaGreatDoor.Ba
open Go Go.RowKit Go.Lib Go.Base
set_option maxHeartbeats 1000000 in
theorem tz_core (x k idx : Nat) (w : World) (hx0 : ((x : Int) == 0) = false)
    (key : IntKind.u64.wrap (bits BinOp.and IntKind.u64 (x : Int) (IntKind.u64.wrap (-(x : Int))) * 285870213051353865) / 288230376151711744 = (idx : Int))
    (hi : idx < 64) (hk : k < 64) (hcell : w.cell? ⟨0, idx, none⟩ = some (.int .u8 k)) :
    Calls Tryz.prog 231 #[.int .u64 x] w fun e w' => e = .returned (.int .i64 k) ∧ w' = w := by
  go_enter Tryz.func231, Tryz.ntmps231
  go_wp2_with (simp only [key])
  go_ret
  exact ⟨rfl, rfl⟩
theorem tz (x : Nat) (hx0 : x ≠ 0) (hx : x < 18446744073709551616) (w : World) (hT : TabAt 0 Lib.deBruijn64tab w) :
    Calls Tryz.prog 231 #[.int .u64 x] w fun e w' => e = .returned (.int .i64 (Lib.ctz 64 x)) ∧ w' = w := by
  obtain ⟨hlow, hk⟩ := Lib.lowest_bit 64 x hx0 hx
  obtain ⟨hi, htab⟩ := Lib.deBruijn64_at _ hk
  have hcell := hT _ hi
  rw [htab] at hcell
  exact tz_core x _ _ w (by simp; omega) (tz64_key x _ hx hx0 hlow) hi hk hcell
/-- a term's bits -/
def bitsOf (n : Int) : Int := if n = 256 then 8 else if n = 512 then 9 else if n = 1024 then 10 else if n = 2048 then 11 else if n = 4096 then 12 else 13
theorem term_cases {n : Int} (h : TermOk n) : n = 256 ∨ n = 512 ∨ n = 1024 ∨ n = 2048 ∨ n = 4096 ∨ n = 8192 := by
  unfold TermOk at h
  omega
set_option maxRecDepth 100000 in
theorem log2_any (n : Int) (h : TermOk n) (w : World) (hT : TabAt 0 Lib.deBruijn64tab w) : Calls Tryz.prog 205 #[.int .i64 n] w fun e w' => e = .returned (.tuple #[.int .i64 (bitsOf n), .bool true]) ∧ w' = w := by
  have hp := ((isTerm_iff n).1 h).1
  have key : ∀ (m : Nat) (k : Int), n = m → m ≠ 0 → m < 10000 → (Lib.ctz 64 m : Int) = k → bitsOf n = k → Calls Tryz.prog 205 #[.int .i64 n] w fun e w' => e = .returned (.tuple #[.int .i64 (bitsOf n), .bool true]) ∧ w' = w := by
    intro m k hm h0 h1 hk hb
    have c := isPower_any n (by omega) w
    rw [hp] at c
    clear hp h
    subst hm
    have ct := tz m h0 (by omega) w hT
    rw [hk] at ct
    have e : (m : Int) % 18446744073709551616 = (m : Int) := by omega
    rw [hb]
    go_enter Tryz.func205, Tryz.ntmps205
    go_wp2_with (first | (go_at_call 114; refine c.mono ?_; rintro e w1 ⟨rfl, rfl⟩) | (go_at_call 231; (try rw [e]); refine ct.mono ?_; rintro e w1 ⟨rfl, rfl⟩))
    go_ret2
    exact ⟨rfl, rfl⟩
  rcases term_cases h with h | h | h | h | h | h
  · exact key 256 8 h (by decide) (by decide) (by kernel_rfl) (by rw [h]; simp [bitsOf])
  · exact key 512 9 h (by decide) (by decide) (by kernel_rfl) (by rw [h]; simp [bitsOf])
  · exact key 1024 10 h (by decide) (by decide) (by kernel_rfl) (by rw [h]; simp [bitsOf])
  · exact key 2048 11 h (by decide) (by decide) (by kernel_rfl) (by rw [h]; simp [bitsOf])
  · exact key 4096 12 h (by decide) (by decide) (by kernel_rfl) (by rw [h]; simp [bitsOf])
  · exact key 8192 13 h (by decide) (by decide) (by kernel_rfl) (by rw [h]; simp [bitsOf])
theorem mask_any (p n : Int) (h : TermOk n) (h0 : 0 ≤ p) (h1 : p ≤ 9223372036854775807) (w : World) : Calls Tryz.prog 170 #[.int .i64 p, .int .i64 n] w fun e w' => e = .returned (.int .i64 (p % n)) ∧ w' = w := by
  have hp := ((isTerm_iff n).1 h).1
  have hn := (isTerm_iff n).1 h
  have c := isPower_any n (by omega) w
  rw [hp] at c
  have e : bits .and .i64 p (n - 1) = p % n := by
    obtain ⟨a, rfl⟩ := Int.eq_ofNat_of_zero_le h0
    obtain ⟨k, hk⟩ : ∃ k : Nat, n = ((2 ^ k : Nat) : Int) := by
      rcases term_cases h with h | h | h | h | h | h
      · exact ⟨8, h⟩
      · exact ⟨9, h⟩
      · exact ⟨10, h⟩
      · exact ⟨11, h⟩
      · exact ⟨12, h⟩
      · exact ⟨13, h⟩
    have hpos : 0 < 2 ^ k := Nat.two_pow_pos k
    have hle : 2 ^ k ≤ 8192 := by omega
    rw [hk, show ((2 ^ k : Nat) : Int) - 1 = ((2 ^ k - 1 : Nat) : Int) by omega]
    have := and_nat a (2 ^ k - 1) (by omega) (by omega)
    rw [Nat.and_two_pow_sub_one_eq_mod] at this
    exact this
  have ew : wrap64 (n - 1) = n - 1 := IntWalk.wrap64_in _ (by omega)
  go_enter Tryz.func170, Tryz.ntmps170
  go_wp2_with (go_at_call 114; refine c.mono ?_; rintro e w1 ⟨rfl, rfl⟩)
  go_ret
  exact ⟨by first | rfl | rw [e], rfl⟩
theorem maxPos_any (n : Int) (h : TermOk n) (w : World) : Calls Tryz.prog 183 #[.int .i64 n] w fun e w' => e = .returned (.int .i64 (n * 2147483648)) ∧ w' = w := by
  have hn := (isTerm_iff n).1 h
  have c := isTerm_any n (by omega) w
  rw [decide_eq_true h] at c
  have ew : wrap64 (n * 2147483648) = n * 2147483648 := IntWalk.wrap64_in _ (by omega)
  go_enter Tryz.func183, Tryz.ntmps183
  go_wp2_with (go_at_call 62; refine c.mono ?_; rintro e w1 ⟨rfl, rfl⟩)
  go_ret
  exact ⟨by first | rfl | rw [ew], rfl⟩
theorem within_any (p n : Int) (h : TermOk n) (w : World) : Calls Tryz.prog 169 #[.int .i64 p, .int .i64 n] w fun e w' => e = .returned (.bool (decide (0 ≤ p ∧ p < n * 2147483648))) ∧ w' = w := by
  have c := maxPos_any n h w
  by_cases h0 : 0 ≤ p
  · by_cases h1 : p < n * 2147483648
    · rw [decide_eq_true ⟨h0, h1⟩]
      go_enter Tryz.func169, Tryz.ntmps169
      go_wp2_with (go_at_call 183; refine c.mono ?_; rintro e w1 ⟨rfl, rfl⟩)
      go_ret
      exact ⟨by first | rfl | simp [h1], rfl⟩
    · rw [decide_eq_false (fun h => h1 h.2)]
      go_enter Tryz.func169, Tryz.ntmps169
      go_wp2_with (go_at_call 183; refine c.mono ?_; rintro e w1 ⟨rfl, rfl⟩)
      go_ret
      exact ⟨by simp [h1], rfl⟩
  · rw [decide_eq_false (fun h => h0 h.1)]
    have h0' : ¬ p ≥ 0 := h0
    go_enter Tryz.func169, Tryz.ntmps169
    go_wp2_with (go_at_call 183; refine c.mono ?_; rintro e w1 ⟨rfl, rfl⟩)
    go_ret
    exact ⟨rfl, rfl⟩
theorem term_no (p ini n : Int) (h : TermOk n) (hp : ¬ (0 ≤ p ∧ p < n * 2147483648)) (w : World) : Calls Tryz.prog 172 #[.int .i64 p, .int .i32 ini, .int .i64 n] w fun e w' => e = .returned (.tuple #[.int .i32 0, .int .i64 1]) ∧ w' = w := by
  have c := within_any p n h w
  rw [decide_eq_false hp] at c
  go_enter Tryz.func172, Tryz.ntmps172
  go_wp2_with (go_at_call 169; refine c.mono ?_; rintro e w1 ⟨rfl, rfl⟩)
  go_ret2
  exact ⟨rfl, rfl⟩
set_option maxRecDepth 100000 in
theorem term_yes (p ini n : Int) (h : TermOk n) (hp : 0 ≤ p ∧ p < n * 2147483648) (w : World) (hT : TabAt 0 Lib.deBruijn64tab w) : Calls Tryz.prog 172 #[.int .i64 p, .int .i32 ini, .int .i64 n] w fun e w' => e = .returned (.tuple #[.int .i32 (s32 (ini + p / n)), .int .i64 0]) ∧ w' = w := by
  have c := within_any p n h w
  rw [decide_eq_true hp] at c
  have c2 := log2_any n h w hT
  have key : ∀ k : Int, bitsOf n = k → 0 ≤ k → k ≤ 13 → n = 2 ^ k.toNat → Calls Tryz.prog 172 #[.int .i64 p, .int .i32 ini, .int .i64 n] w fun e w' => e = .returned (.tuple #[.int .i32 (s32 (ini + p / n)), .int .i64 0]) ∧ w' = w := by
    intro k hk h0 h1 hn
    rw [hk] at c2
    have Hn := Lib.hid hn
    clear hn hk
    go_enter Tryz.func172, Tryz.ntmps172
    go_wp2_with (first | (go_at_call 169; refine c.mono ?_; rintro e w1 ⟨rfl, rfl⟩) | (go_at_call 205; refine c2.mono ?_; rintro e w1 ⟨rfl, rfl⟩))
    go_ret2
    refine ⟨?_, rfl⟩
    have e : s32 (ini + p / n) = wrap32 ((ini + p / 2 ^ k.toNat) % 4294967296) := by
      rw [s32_eq, Hn.out]
      unfold wrap32
      omega
    rw [e]
    rfl
  rcases term_cases h with h | h | h | h | h | h
  · exact key 8 (by rw [h]; simp [bitsOf]) (by decide) (by decide) (by rw [h]; decide)
  · exact key 9 (by rw [h]; simp [bitsOf]) (by decide) (by decide) (by rw [h]; decide)
  · exact key 10 (by rw [h]; simp [bitsOf]) (by decide) (by decide) (by rw [h]; decide)
  · exact key 11 (by rw [h]; simp [bitsOf]) (by decide) (by decide) (by rw [h]; decide)
  · exact key 12 (by rw [h]; simp [bitsOf]) (by decide) (by decide) (by rw [h]; decide)
  · exact key 13 (by rw [h]; simp [bitsOf]) (by decide) (by decide) (by rw [h]; decide)
end Go.Proofs.YtlaogoehmndcjaaGreatDoor.Ba
