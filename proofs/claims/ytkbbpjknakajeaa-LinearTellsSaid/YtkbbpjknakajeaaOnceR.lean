/- The document's 'once': each number is counted. -/
import Derived.Test.YtkbbpjknakajeaaOnce
namespace Go.Proofs.Ytkbbpjknakajeaa.Li
open Go.RowKit Go.Shelf Go.Sort

/-- how often i stands among the first k -/
def cnt (d : Array Int) (i : Int) : Nat → Nat
  | 0 => 0
  | k + 1 => cnt d i k + if d[k]! = i then 1 else 0
theorem cnt_le (d : Array Int) (i : Int) (k : Nat) : cnt d i k ≤ k := by
  induction k with
  | zero => exact Nat.le_refl _
  | succ k ih => simp only [cnt]; split <;> omega
/-- what the document's once asks -/
def OnceR (n : Nat) (d : Array Int) : Prop := d.size = n ∧ ∀ i, i < n → cnt d (i : Int) d.size = 1

set_option maxHeartbeats 1600000 in
set_option maxRecDepth 1000000 in
theorem onceR_len (n len cap : Nat) (a : Option Addr) (w : World) (h : len ≠ n) (_hn : n ≤ 1000) (_hl : len ≤ 1000) : Calls Try.prog 36 #[.int .i64 n, .slice a len cap] w (Says False w) := by
  have hd : decide ((len : Int) = (n : Int)) = false := by simpa using (by omega : ¬ (len : Int) = (n : Int))
  go_enter Try.func36, Try.ntmps36
  go_wp2
  go_ret
  exact ⟨false, rfl, by simp, Below.refl _ _⟩

set_option maxHeartbeats 1600000 in
set_option maxRecDepth 1000000 in
theorem onceR_none (cap : Nat) (a : Option Addr) (w : World) : Calls Try.prog 36 #[.int .i64 0, .slice a 0 cap] w (Says True w) := by
  go_enter Try.func36, Try.ntmps36
  go_wp2
  refine wp_loop_rounds 1 ?_
  rw [rounds_succ]
  go_wp2
  go_ret
  exact ⟨true, rfl, by simp, Below.refl _ _⟩

set_option maxHeartbeats 3200000 in
set_option maxRecDepth 1000000 in
theorem onceR_some (b off cap : Nat) (d : Array Int) (hs : d.size ≤ 1000) (w : World) (hr : Reads w b off d) :
    Calls Try.prog 36 #[.int .i64 d.size, .slice (some ⟨b, off, none⟩) d.size cap] w (Says (OnceR d.size d) w) := by
  have HR := Lib.hid hr
  clear hr
  go_enter Try.func36, Try.ntmps36
  go_wp2
  go_loop [5] (fun t => ∃ i : Nat, i ≤ d.size ∧ t = .int .i64 i ∧ Hid (∀ j, j < i → cnt d (j : Int) d.size = 1)) (fun t => d.size - (intOf t).toNat)
  case atStart => exact ⟨0, Nat.zero_le _, rfl, Lib.hid (fun j hj => by omega)⟩
  case round =>
    obtain ⟨i, hi, rfl, hall⟩ := hrel
    by_cases hlt : i < d.size
    · have h1 : (i : Int) < (d.size : Int) := by omega
      go_wp2
      go_loop [6, 20] (fun s t => ∃ k : Nat, k ≤ d.size ∧ t = .int .i64 k ∧ s = .int .i64 (cnt d i k : Nat)) (fun _ t => d.size - (intOf t).toNat)
      case atStart => exact ⟨0, Nat.zero_le _, rfl, rfl⟩
      case round =>
        obtain ⟨k, hk, rfl, rfl⟩ := hrel
        by_cases hlk : k < d.size
        · have ck := HR.out k hlk
          have h2 : (k : Int) < (d.size : Int) := by omega
          have h3 : (0 : Int) ≤ (k : Int) := by omega
          have hc := cnt_le d i k
          obtain ⟨x, hx⟩ : ∃ x, d[k]! = x := ⟨_, rfl⟩
          obtain ⟨c, hcc⟩ : ∃ c, cnt d i k = c := ⟨_, rfl⟩
          rw [hx] at ck
          rw [hcc] at hc ⊢
          have HX := Lib.hid hx
          have HC := Lib.hid hcc
          clear hx hcc
          by_cases ho : x = (i : Int)
          · subst ho
            go_wp2
            go_round
            case rel => exact ⟨k + 1, by omega, by go_num, by simp only [cnt, HX.out, HC.out]; go_num⟩
            case measure => simp [intOf]; omega
          · have hd : decide (x = (i : Int)) = false := by simpa using ho
            go_wp2
            go_round
            case rel => exact ⟨k + 1, by omega, by go_num, by simp only [cnt, HX.out, HC.out, if_neg ho]; go_num⟩
            case measure => simp [intOf]; omega
        · obtain rfl : k = d.size := by omega
          obtain ⟨c, hcc⟩ : ∃ c, cnt d i d.size = c := ⟨_, rfl⟩
          rw [hcc]
          have HC := Lib.hid hcc
          clear hcc
          by_cases ho : c = 1
          · subst ho
            go_wp2
            go_round
            case rel =>
              refine ⟨i + 1, by omega, by go_num, Lib.hid (fun j hj => ?_)⟩
              rcases Nat.lt_or_ge j i with h | h
              · exact hall.out j h
              · obtain rfl : j = i := by omega
                exact HC.out
            case measure => simp [intOf]; omega
          · have hd : decide ((c : Int) = 1) = false := by simpa using (by omega : ¬ (c : Int) = 1)
            go_wp2
            go_ret
            exact ⟨false, rfl, ⟨fun h => absurd h (by decide), fun h => absurd (HC.out.symm.trans (h.2 i hlt)) ho⟩, Below.refl _ _⟩
    · obtain rfl : i = d.size := by omega
      go_wp2
      go_ret
      exact ⟨true, rfl, ⟨fun _ => ⟨rfl, hall.out⟩, fun _ => rfl⟩, Below.refl _ _⟩

end Go.Proofs.Ytkbbpjknakajeaa.Li
