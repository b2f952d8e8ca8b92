/- A number that stands in bytes, and a number's bytes: the document's reckoning. -/
import Derived.Test.YtlaogoehmndcjaaGreatDoorPlA
import Derived.Test.YtlaogoehmndcjaaGreatDoorProg
import Derived.WalkKit
import Derived.WalkSpells
import Derived.Lib.Hide
import Derived.WalkSmall
import Derived.Laws.DeepBits32
import Derived.Deep.QuietTactic
import Derived.BigQuiet
import Derived.Test.YtlaogoehmndcjaaGreatDoorOwnKit
set_option linter.unusedVariables false
namespace Go.Proofs.YtlaogoehmndcjaaGreatDoor.Ba
open Go Go.RowKit Go.Lib Go.Base
/-- bytes that stand in a block -/
def ReadsB (w : World) (b off n : Nat) (B : Nat → Nat) : Prop := ∀ j, j < n → w.cell? ⟨b, off + j, none⟩ = some (.int .u8 (B j : Nat))
theorem ReadsB.below {w w' : World} {b off n s : Nat} {B : Nat → Nat} (h : ReadsB w b off n B) (hl : b < s) (hb : Below s w w') : ReadsB w' b off n B :=
  fun j hj => (hb.cell (p := ⟨b, off + j, none⟩) hl).trans (h j hj)
set_option maxHeartbeats 3200000 in
set_option maxRecDepth 1000000 in
/-- the document's: at most eight bytes are looked at -/
theorem numberR_some (b off n cap : Nat) (B : Nat → Nat) (hB : ∀ j, B j < 256) (m : Nat) (hm : m = min n 8) (hb : n < 4611686018427387904) (w : World) (hr : ReadsB w b off n B) :
    Calls Tryz.prog 120 #[.slice (some ⟨b, off, none⟩) n cap] w fun e w' => e = .returned (.int .u64 (numF B 0 m : Nat)) ∧ w' = w := by
  have hm8 : m ≤ 8 := by omega
  have hmn : m ≤ n := by omega
  have key : ∀ k : Nat, k < m → numF B k (m - k) = B k + 256 * numF B (k + 1) (m - (k + 1)) ∧ numF B (k + 1) (m - (k + 1)) < 72057594037927936 ∧ B k < 256 := by
    intro k hk
    refine ⟨by rw [show m - k = (m - (k + 1)) + 1 by omega, numF], ?_, hB k⟩
    have l1 := numF_lt hB (m - (k + 1)) (k + 1)
    have l3 : 256 ^ (m - (k + 1)) ≤ 256 ^ 7 := Nat.pow_le_pow_right (by omega) (by omega)
    have l5 : (256 : Nat) ^ 7 = 72057594037927936 := by decide
    omega
  have hkz : numF B m (m - m) = 0 := by rw [Nat.sub_self]; rfl
  rcases Nat.lt_or_ge 8 n with h | h
  · obtain rfl : m = 8 := by omega
    have h8' : ¬ (n : Int) ≤ 8 := by omega
    clear hm hm8 hmn
    go_enter Tryz.func120, Tryz.ntmps120
    go_wp2
    go_loopw [3, 4] (fun s t wr => ∃ k : Nat, k ≤ 8 ∧ t = .int .i64 ((k : Int) - 1) ∧ s = .int .u64 (numF B k (8 - k) : Nat) ∧ wr = w) (fun _ t _ => (intOf t + 1).toNat)
    case atStart => exact ⟨8, by omega, rfl, by rw [hkz]; rfl, rfl⟩
    case round =>
      obtain ⟨k, hk, rfl, rfl, rfl⟩ := hrel
      by_cases hlt : 0 < k
      · obtain ⟨q, rfl⟩ : ∃ q, k = q + 1 := ⟨k - 1, by omega⟩
        obtain ⟨e1, e2, e3⟩ := key q (by omega)
        have c0 := hr q (by omega)
        have HK := Lib.hid (And.intro e1 hkz)
        clear e1 hkz key
        obtain ⟨x, hx⟩ : ∃ x, numF B (q + 1) (8 - (q + 1)) = x := ⟨_, rfl⟩
        rw [hx] at e2 ⊢
        have hq : (((q + 1 : Nat) : Int) - 1) = (q : Int) := by omega
        rw [hq]
        have h0 : (q : Int) ≥ 0 := by omega
        have h1 : (q : Int) < (n : Int) := by omega
        go_wp2
        refine ⟨⟨q, by omega, rfl, ?_, trivial⟩, by simp [intOf]⟩
        rw [HK.out.1, hx]
        congr 1
        push_cast
        omega
      · obtain rfl : k = 0 := by omega
        have h0 : ¬ (((0 : Nat) : Int) - 1) ≥ 0 := by omega
        go_wp2
        go_ret
        exact ⟨rfl, rfl⟩
  · obtain rfl : m = n := by omega
    have h8' : (m : Int) ≤ 8 := by omega
    clear hm hmn
    go_enter Tryz.func120, Tryz.ntmps120
    go_wp2
    go_loopw [3, 4] (fun s t wr => ∃ k : Nat, k ≤ m ∧ t = .int .i64 ((k : Int) - 1) ∧ s = .int .u64 (numF B k (m - k) : Nat) ∧ wr = w) (fun _ t _ => (intOf t + 1).toNat)
    case atStart => exact ⟨m, by omega, rfl, by rw [hkz]; rfl, rfl⟩
    case round =>
      obtain ⟨k, hk, rfl, rfl, rfl⟩ := hrel
      by_cases hlt : 0 < k
      · obtain ⟨q, rfl⟩ : ∃ q, k = q + 1 := ⟨k - 1, by omega⟩
        obtain ⟨e1, e2, e3⟩ := key q (by omega)
        have c0 := hr q (by omega)
        have HK := Lib.hid (And.intro e1 hkz)
        clear e1 hkz key
        obtain ⟨x, hx⟩ : ∃ x, numF B (q + 1) (m - (q + 1)) = x := ⟨_, rfl⟩
        rw [hx] at e2 ⊢
        have hq : (((q + 1 : Nat) : Int) - 1) = (q : Int) := by omega
        rw [hq]
        have h0 : (q : Int) ≥ 0 := by omega
        have h1 : (q : Int) < (m : Int) := by omega
        go_wp2
        refine ⟨⟨q, by omega, rfl, ?_, trivial⟩, by simp [intOf]⟩
        rw [HK.out.1, hx]
        congr 1
        push_cast
        omega
      · obtain rfl : k = 0 := by omega
        have h0 : ¬ (((0 : Nat) : Int) - 1) ≥ 0 := by omega
        go_wp2
        go_ret
        exact ⟨rfl, rfl⟩
theorem Tryz_info5 : (Tryz.prog.info? 5).map (fun i => (i.zero, i.size, i.bytes)) = some (some (.int .u8 0), 1, 1) := by kernel_rfl
/-- the first n bytes of a number -/
def bytesL (v : Nat) : Nat → List Value
  | 0 => []
  | n + 1 => bytesL v n ++ [.int .u8 ((v / 256 ^ n % 256 : Nat) : Int)]
theorem bytesL_len (v : Nat) : ∀ n, (bytesL v n).length = n
  | 0 => rfl
  | n + 1 => by rw [bytesL, List.length_append, bytesL_len v n]; rfl
theorem bytesL_get (v : Nat) : ∀ n j, j < n → (bytesL v n)[j]? = some (.int .u8 ((v / 256 ^ j % 256 : Nat) : Int))
  | 0, j, h => by omega
  | n + 1, j, h => by
    rw [bytesL]
    rcases Nat.lt_or_ge j n with h1 | h1
    · rw [List.getElem?_append_left (by rw [bytesL_len]; exact h1), bytesL_get v n j h1]
    · obtain rfl : j = n := by omega
      rw [List.getElem?_append_right (by rw [bytesL_len]; exact Nat.le_refl _), bytesL_len, Nat.sub_self]; rfl
set_option maxHeartbeats 3200000 in
set_option maxRecDepth 1000000 in
theorem bytesR_any (v n : Nat) (hv : v < 18446744073709551616) (hn : n ≤ 8) (w : World) :
    Calls Tryz.prog 118 #[.int .u64 v, .int .i64 n] w fun e w' => ∃ s, e = .returned s ∧ w'.ownsRow w.heap.size 5 1 s n (bytesL v n) ∧ Below w.heap.size w w' := by
  obtain ⟨i0, hi, hz0, hz1, hz2⟩ := info_parts Tryz_info5
  have h0 : ¬ (n : Int) < 0 := by omega
  have h8 : ¬ (n : Int) > 8 := by omega
  go_enter Tryz.func118, Tryz.ntmps118
  go_wp2
  go_loopw [0, 5, 6] (fun x s i wr => ∃ k : Nat, k ≤ n ∧ i = .int .i64 k ∧ x = .int .u64 (v / 256 ^ k : Nat) ∧ Hid (wr.ownsRow w.heap.size 5 1 s k (bytesL v k) ∧ Below w.heap.size w wr))
    (fun _ _ i _ => n - (intOf i).toNat)
  case atStart => exact ⟨0, Nat.zero_le _, rfl, by simp, Lib.hid ⟨World.ownsRow_nil _ _ _ _, Below.refl _ _⟩⟩
  case round =>
    obtain ⟨k, hk, rfl, rfl, H⟩ := hrel
    by_cases hlt : k < n
    · have h1 : (k : Int) < (n : Int) := by omega
      obtain ⟨x, hx⟩ : ∃ x, v / 256 ^ k = x := ⟨_, rfl⟩
      have hx2 : v / 256 ^ (k + 1) = x / 256 := by rw [Nat.pow_succ, ← Nat.div_div_eq_div_mul, hx]
      have hxb : x < 18446744073709551616 := by rw [← hx]; exact Nat.lt_of_le_of_lt (Nat.div_le_self _ _) hv
      have hs : bytesL v (k + 1) = bytesL v k ++ [.int .u8 ((x % 256 : Nat) : Int)] := by rw [bytesL, hx]
      rw [hx]
      have HX := Lib.hid (And.intro hx2 hs)
      clear hx hx2 hs
      have hsz := H.out.2.size
      go_wp2_with (first
        | (at_builtin; refine wpList_append_own _ rfl _ _ 32 rfl w.heap.size 5 i0 _ 1 1 Tryz.underlying32 hi hz0 hz1 hz2 rfl (by decide) _ _ _ rfl (H.out.1.alloc _) ⟨wr.heap.size, 0, none⟩ 1 1 [.int .u8 ((x % 256 : Nat) : Int)] rfl rfl ?c1 ?c2 ?c3 ?c4 ?c5 ?_))
      case c1 =>
        intro j u hj
        obtain rfl : j = 0 := by
          rcases j with _ | j
          · rfl
          · simp at hj
        rw [addr_add', World.cell?_alloc_at _ _ _ _ rfl]
        simpa using hj
      case c2 => intro u hu; simp at hu; subst hu; rfl
      case c3 => unfold maxLen; omega
      case c4 => omega
      case c5 => simp; omega
      intro v' w1 hown' hgrow _
      have HY := Lib.hid (And.intro hown' (show Below w.heap.size w w1 from (H.out.2.alloc hsz _).grown hgrow (by simp; omega) (fun j hj => (H.out.1.lt j hj).1)))
      clear hown' hgrow
      go_wp2
      go_roundw
      case rel =>
        refine ⟨k + 1, by omega, by go_num, ?_, ?_⟩
        · rw [HX.out.1]; simp
        · rw [HX.out.2]; exact HY
      case measure => simp [intOf]; omega
    · obtain rfl : k = n := by omega
      go_wp2
      go_ret
      exact ⟨_, rfl, H.out.1, H.out.2⟩
end Go.Proofs.YtlaogoehmndcjaaGreatDoor.Ba
