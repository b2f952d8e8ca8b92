/- What the program's Nth answers. -/
import Derived.Test.YtiapphhldedckaaNthPlain
import Derived.Deep.LoopGhost
namespace Go.Proofs.Ytiapphhldedckaa.Ex
open Go.RowKit Go.Sort Nx
set_option maxHeartbeats 3200000 in
set_option maxRecDepth 1000000 in
theorem Nth_bad (a : Option Addr) (cap : Nat) (d : Array Int) (n : Int) (w : World) (hs : d.size ≤ 20) (h : SliceOf w a d) (hf : ¬ Right d) :
    Calls Try.prog 9 #[.slice a d.size cap, .int .i64 n] w fun e w' => e = .returned (.tuple #[.slice none 0 0, .int .i64 1]) ∧ w = w' := by
  have HH := Lib.hid h
  have HF := Lib.hid hf
  clear h hf
  go_enter Try.func9, Try.ntmps9
  go_wp2_with fail
  refine (Count_bad a cap d w hs HH.out HF.out).mono ?_
  rintro e w' ⟨rfl, rfl⟩
  go_wp2
  go_ret2
  exact ⟨rfl, rfl⟩
/-- out of range -/
def Off (n : Int) (d : Array Int) : Prop := n < 0 ∨ ((((cnt (nats d)).getD FAR : Nat) : Int) ≤ n ∧ (cnt (nats d)).getD FAR < FAR)
set_option maxHeartbeats 3200000 in
set_option maxRecDepth 1000000 in
theorem Nth_off (a : Option Addr) (cap : Nat) (d : Array Int) (n : Int) (w : World) (h : SliceOf w a d) (hf : Right d) (hn : Off n d) :
    Calls Try.prog 9 #[.slice a d.size cap, .int .i64 n] w fun e w' => e = .returned (.tuple #[.slice none 0 0, .int .i64 2]) ∧ ∃ m, w' = w.drewN m := by
  have HH := Lib.hid h
  have HF := Lib.hid hf
  unfold Off at hn
  have HN := Lib.hid hn
  clear h hf hn
  go_enter Try.func9, Try.ntmps9
  go_wp2_with fail
  refine (Count_ok a cap d w HH.out HF.out).mono ?_
  rintro e w' ⟨rfl, m, rfl⟩
  obtain ⟨r, hr⟩ : ∃ r, (cnt (nats d)).getD FAR = r := ⟨_, rfl⟩
  have hN := HN.out
  rw [hr] at hN ⊢
  have HR := Lib.hid hr
  clear hr
  rcases Int.lt_or_le n 0 with h0 | h0
  · have d1 : decide (n < 0) = true := by simpa using h0
    clear hN
    go_wp2
    go_ret2
    exact ⟨rfl, m, rfl⟩
  · have d1 : decide (n < 0) = false := by simpa using h0
    have h1 : (r : Int) ≤ n := by omega
    have d2 : decide ((r : Int) ≤ n) = true := by simpa using h1
    have d3 : decide ((r : Int) < 4611686018427387904) = true := by
      have : r < FAR := by omega
      rw [far_cast]; exact decide_eq_true (Int.ofNat_lt.2 this)
    clear hN
    go_wp2
    go_ret2
    exact ⟨rfl, m, rfl⟩
set_option maxHeartbeats 3200000 in
set_option maxRecDepth 1000000 in
theorem Nth_long (a : Option Addr) (cap : Nat) (d : Array Int) (n : Int) (w : World) (h : SliceOf w a d) (hf : Right d) (h0 : 0 ≤ n) (hn : FAR ≤ (cnt (nats d)).getD FAR) :
    Calls Try.prog 9 #[.slice a d.size cap, .int .i64 n] w fun e w' => e = .returned (.tuple #[.slice none 0 0, .int .i64 4]) ∧ ∃ m, w' = w.drewN m := by
  have HH := Lib.hid h
  have HF := Lib.hid hf
  have HN := Lib.hid hn
  clear h hf hn
  go_enter Try.func9, Try.ntmps9
  go_wp2_with fail
  refine (Count_ok a cap d w HH.out HF.out).mono ?_
  rintro e w' ⟨rfl, m, rfl⟩
  obtain ⟨r, hr⟩ : ∃ r, (cnt (nats d)).getD FAR = r := ⟨_, rfl⟩
  have hN := HN.out
  rw [hr] at hN ⊢
  have HR := Lib.hid hr
  clear hr
  have d1 : decide (n < 0) = false := by simpa using h0
  have d3 : decide ((r : Int) < 4611686018427387904) = false := by
    rw [far_cast]; exact decide_eq_false (fun h => by have := Int.ofNat_lt.1 h; omega)
  have d4 : decide ((4611686018427387904 : Int) ≤ (r : Int)) = true := decide_eq_true ((far_le r).2 hN)
  clear hN
  rcases Int.lt_or_le n (r : Int) with h1 | h1
  · have d2 : decide ((r : Int) ≤ n) = false := by simpa using h1
    go_wp2
    go_ret2
    exact ⟨rfl, m, rfl⟩
  · have d2 : decide ((r : Int) ≤ n) = true := by simpa using h1
    go_wp2
    go_ret2
    exact ⟨rfl, m, rfl⟩
end Go.Proofs.Ytiapphhldedckaa.Ex
