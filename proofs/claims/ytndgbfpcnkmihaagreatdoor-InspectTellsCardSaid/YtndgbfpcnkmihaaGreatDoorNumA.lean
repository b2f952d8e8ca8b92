/- YtndgbfpcnkmihaaGreatDoorNum; YtndgbfpcnkmihaaGreatDoorNum2: in one text. -/
import Derived.Test.YtndgbfpcnkmihaaGreatDoorPlainA
import Derived.Test.YtndgbfpcnkmihaaGreatDoorProg
import Derived.WalkKit
import Derived.WalkSpells
import Derived.Lib.Hide
import Derived.WalkSmall
import Derived.Laws.DeepBits32
import Derived.Deep.QuietTactic
import Derived.BigQuiet
/- The number of bytes: the program's reckoning and the document's. -/
namespace Go.Proofs.YtndgbfpcnkmihaaGreatDoor.Ba
open Go Go.RowKit Go.Lib Go.Base
/-- bytes that stand in a block -/
def ReadsB (w : World) (b off n : Nat) (B : Nat → Nat) : Prop := ∀ j, j < n → w.cell? ⟨b, off + j, none⟩ = some (.int .u8 (B j : Nat))
theorem ReadsB.below {w w' : World} {b off n s : Nat} {B : Nat → Nat} (h : ReadsB w b off n B) (hl : b < s) (hb : Below s w w') : ReadsB w' b off n B :=
  fun j hj => (hb.cell (p := ⟨b, off + j, none⟩) hl).trans (h j hj)
theorem ReadsB.drop {w : World} {b off n : Nat} {B : Nat → Nat} (h : ReadsB w b off n B) (k m : Nat) (hk : k + m ≤ n) : ReadsB w b (off + k) m (fun j => B (k + j)) :=
  fun j hj => by have := h (k + j) (by omega); rwa [← Nat.add_assoc] at this
theorem or_n64 (x y : Nat) (hx : x < 18446744073709551616) (hy : y < 18446744073709551616) : bits .or .u64 (x : Int) (y : Int) = ((x ||| y : Nat) : Int) := by
  show IntKind.u64.wrap ((BitVec.ofInt 64 (x : Int) ||| BitVec.ofInt 64 (y : Int)).toNat : Int) = _
  rw [BitVec.toNat_or, ofInt_u64 x (by omega), ofInt_u64 y (by omega)]
  have : x ||| y < 2 ^ 64 := Nat.or_lt_two_pow hx hy
  rw [IntKind.wrap_u64]
  omega
set_option maxHeartbeats 3200000 in
set_option maxRecDepth 1000000 in
theorem number_some (b off n cap : Nat) (B : Nat → Nat) (hB : ∀ j, B j < 256) (hn : n ≤ cap) (h8 : n ≤ 8) (w : World) (hr : ReadsB w b off n B) :
    Calls Tryz.prog 49 #[.slice (some ⟨b, off, none⟩) n cap] w fun e w' => e = .returned (.int .u64 (numF B 0 n : Nat)) ∧ w' = w := by
  have h8' : (n : Int) ≤ 8 := by omega
  go_enter Tryz.func49, Tryz.ntmps49
  go_wp2
  go_loopw [3, 4, 5, 12] (fun s i c t wr => ∃ k : Nat, k ≤ n ∧ t = .int .i64 k ∧ s = .int .u64 (numF B 0 k : Nat) ∧ wr = w) (fun _ _ _ t _ => n - (intOf t).toNat)
  case atStart => exact ⟨0, Nat.zero_le _, rfl, rfl, rfl⟩
  case round =>
    obtain ⟨k, hk, rfl, rfl, rfl⟩ := hrel
    by_cases hlt : k < n
    · have c0 := hr k hlt
      have h1 : (k : Int) < (n : Int) := by omega
      have h2 : (0 : Int) ≤ (k : Int) := by omega
      have hb := hB k
      have key : bits .or .u64 (numF B 0 k : Nat) ((B k * 2 ^ (8 * k) : Nat) : Int) = (numF B 0 (k + 1) : Nat) := by
        have e := numF_or hB k 0
        rw [Nat.zero_add] at e
        have l1 := numF_lt hB k 0
        have l2 := numF_lt hB (k + 1) 0
        have l3 : 256 ^ (k + 1) ≤ 256 ^ 8 := Nat.pow_le_pow_right (by omega) (by omega)
        have l4 := numF_snoc B k 0
        rw [Nat.zero_add, Nat.mul_comm, show (256 : Nat) = 2 ^ 8 by decide, ← Nat.pow_mul] at l4
        have l5 : (256 : Nat) ^ 8 = 18446744073709551616 := by decide
        rw [or_n64 _ _ (by omega) (by omega), e]
      have kc : ((B k : Int) * 2 ^ (8 * k)) = ((B k * 2 ^ (8 * k) : Nat) : Int) := by push_cast; rfl
      have kw : IntKind.u64.wrap ((B k : Int) * 2 ^ (8 * k)) = (B k : Int) * 2 ^ (8 * k) := by
        have l1 := numF_lt hB (k + 1) 0
        have l3 : 256 ^ (k + 1) ≤ 256 ^ 8 := Nat.pow_le_pow_right (by omega) (by omega)
        have l4 := numF_snoc B k 0
        rw [Nat.zero_add, Nat.mul_comm, show (256 : Nat) = 2 ^ 8 by decide, ← Nat.pow_mul] at l4
        have l5 : (256 : Nat) ^ 8 = 18446744073709551616 := by decide
        rw [kc, IntKind.wrap_u64]
        omega
      have HK := Lib.hid (And.intro kc (And.intro kw key))
      clear kc kw key
      go_wp2
      refine ⟨⟨k + 1, by omega, by simp, ?_, trivial⟩, ?_⟩
      · obtain ⟨kc, kw, key⟩ := HK.out
        rw [kw, kc, key]
      · simp [intOf]; omega
    · obtain rfl : k = n := by omega
      go_wp2
      go_ret
      exact ⟨rfl, rfl⟩
end Go.Proofs.YtndgbfpcnkmihaaGreatDoor.Ba

/- A number that stands in bytes: the program's reckoning and the document's. -/
namespace Go.Proofs.YtndgbfpcnkmihaaGreatDoor.Ba
open Go Go.RowKit Go.Lib Go.Base
theorem numF_at (B : Nat → Nat) (a m : Nat) : numF (fun j => B (a + j)) 0 m = numF B a m := by rw [numF_shift, Nat.add_zero]
set_option maxHeartbeats 3200000 in
set_option maxRecDepth 1000000 in
theorem num_at (b off n cap : Nat) (B : Nat → Nat) (hB : ∀ j, B j < 256) (hn : n ≤ cap) (hb : n < 4611686018427387904) (a m : Nat) (h8 : m ≤ 8) (h0 : 0 < m) (ham : a + m ≤ n) (w : World) (hr : ReadsB w b off n B) :
    Calls Tryz.prog 19 #[.slice (some ⟨b, off, none⟩) n cap, .int .i64 a, .int .i64 m] w fun e w' => e = .returned (.int .u64 (numF B a m : Nat)) ∧ w' = w := by
  have c := number_some b (off + a) m (cap - a) (fun j => B (a + j)) (fun j => hB _) (by omega) h8 w (hr.drop a m ham)
  rw [numF_at] at c
  have k1 : IntKind.i64.wrap ((a : Int) + (m : Int)) = (a : Int) + (m : Int) := by rw [IntKind.wrap_i64]; omega
  have k2 : ((a : Int) + (m : Int)).toNat = a + m := by omega
  go_enter Tryz.func19, Tryz.ntmps19
  have hca : ¬ cap = a := by omega
  go_wp2_with (go_at_call 49; refine c.mono ?_; clear c; rintro e w' ⟨rfl, rfl⟩)
  go_ret
  exact ⟨rfl, rfl⟩
set_option maxHeartbeats 3200000 in
set_option maxRecDepth 1000000 in
/-- the document's: at most eight bytes are looked at -/
theorem numberR_some (b off n cap : Nat) (B : Nat → Nat) (hB : ∀ j, B j < 256) (m : Nat) (hm : m = min n 8) (hb : n < 4611686018427387904) (w : World) (hr : ReadsB w b off n B) :
    Calls Tryz.prog 27 #[.slice (some ⟨b, off, none⟩) n cap] w fun e w' => e = .returned (.int .u64 (numF B 0 m : Nat)) ∧ w' = w := by
  have hm8 : m ≤ 8 := by omega
  have hmn : m ≤ n := by omega
  have key : ∀ k : Nat, k < m → numF B k (m - k) = B k + 256 * numF B (k + 1) (m - (k + 1)) ∧ numF B (k + 1) (m - (k + 1)) < 72057594037927936 ∧ B k < 256 := by
    intro k hk
    refine ⟨by rw [show m - k = (m - (k + 1)) + 1 by omega, numF], ?_, hB k⟩
    have l1 := numF_lt hB (m - (k + 1)) (k + 1)
    have l3 : 256 ^ (m - (k + 1)) ≤ 256 ^ 7 := Nat.pow_le_pow_right (by omega) (by omega)
    have l5 : (256 : Nat) ^ 7 = 72057594037927936 := by decide
    omega
  have hkz : numF B m (m - m) = 0 := by rw [Nat.sub_self]; rfl
  rcases Nat.lt_or_ge 8 n with h | h
  · obtain rfl : m = 8 := by omega
    have h8' : ¬ (n : Int) ≤ 8 := by omega
    clear hm hm8 hmn
    go_enter Tryz.func27, Tryz.ntmps27
    go_wp2
    go_loopw [3, 4] (fun s t wr => ∃ k : Nat, k ≤ 8 ∧ t = .int .i64 ((k : Int) - 1) ∧ s = .int .u64 (numF B k (8 - k) : Nat) ∧ wr = w) (fun _ t _ => (intOf t + 1).toNat)
    case atStart => exact ⟨8, by omega, rfl, by rw [hkz]; rfl, rfl⟩
    case round =>
      obtain ⟨k, hk, rfl, rfl, rfl⟩ := hrel
      by_cases hlt : 0 < k
      · obtain ⟨q, rfl⟩ : ∃ q, k = q + 1 := ⟨k - 1, by omega⟩
        obtain ⟨e1, e2, e3⟩ := key q (by omega)
        have c0 := hr q (by omega)
        have HK := Lib.hid (And.intro e1 hkz)
        clear e1 hkz key
        obtain ⟨x, hx⟩ : ∃ x, numF B (q + 1) (8 - (q + 1)) = x := ⟨_, rfl⟩
        rw [hx] at e2 ⊢
        have hq : (((q + 1 : Nat) : Int) - 1) = (q : Int) := by omega
        rw [hq]
        have h0 : (q : Int) ≥ 0 := by omega
        have h1 : (q : Int) < (n : Int) := by omega
        go_wp2
        refine ⟨⟨q, by omega, rfl, ?_, trivial⟩, by simp [intOf]⟩
        rw [HK.out.1, hx]
        congr 1
        push_cast
        omega
      · obtain rfl : k = 0 := by omega
        have h0 : ¬ (((0 : Nat) : Int) - 1) ≥ 0 := by omega
        go_wp2
        go_ret
        exact ⟨rfl, rfl⟩
  · obtain rfl : m = n := by omega
    have h8' : (m : Int) ≤ 8 := by omega
    clear hm hmn
    go_enter Tryz.func27, Tryz.ntmps27
    go_wp2
    go_loopw [3, 4] (fun s t wr => ∃ k : Nat, k ≤ m ∧ t = .int .i64 ((k : Int) - 1) ∧ s = .int .u64 (numF B k (m - k) : Nat) ∧ wr = w) (fun _ t _ => (intOf t + 1).toNat)
    case atStart => exact ⟨m, by omega, rfl, by rw [hkz]; rfl, rfl⟩
    case round =>
      obtain ⟨k, hk, rfl, rfl, rfl⟩ := hrel
      by_cases hlt : 0 < k
      · obtain ⟨q, rfl⟩ : ∃ q, k = q + 1 := ⟨k - 1, by omega⟩
        obtain ⟨e1, e2, e3⟩ := key q (by omega)
        have c0 := hr q (by omega)
        have HK := Lib.hid (And.intro e1 hkz)
        clear e1 hkz key
        obtain ⟨x, hx⟩ : ∃ x, numF B (q + 1) (m - (q + 1)) = x := ⟨_, rfl⟩
        rw [hx] at e2 ⊢
        have hq : (((q + 1 : Nat) : Int) - 1) = (q : Int) := by omega
        rw [hq]
        have h0 : (q : Int) ≥ 0 := by omega
        have h1 : (q : Int) < (m : Int) := by omega
        go_wp2
        refine ⟨⟨q, by omega, rfl, ?_, trivial⟩, by simp [intOf]⟩
        rw [HK.out.1, hx]
        congr 1
        push_cast
        omega
      · obtain rfl : k = 0 := by omega
        have h0 : ¬ (((0 : Nat) : Int) - 1) ≥ 0 := by omega
        go_wp2
        go_ret
        exact ⟨rfl, rfl⟩
end Go.Proofs.YtndgbfpcnkmihaaGreatDoor.Ba
