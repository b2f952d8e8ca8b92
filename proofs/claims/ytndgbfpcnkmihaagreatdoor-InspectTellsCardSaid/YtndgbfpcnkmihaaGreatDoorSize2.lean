/- How many bytes a frame of a length takes: the program's size and the document's. -/
import Derived.Test.YtndgbfpcnkmihaaGreatDoorSize
namespace Go.Proofs.YtndgbfpcnkmihaaGreatDoor
open Go Go.RowKit
/-- what a frame of a length takes -/
def sz (n : Nat) : Nat := if n < 32 then 0 else aln n
set_option maxRecDepth 100000 in
set_option maxHeartbeats 1000000 in
theorem size_pos (n : Nat) (hn : n ≤ 2147483647) (w : World) : Calls Tryz.prog 32 #[.int .i32 n, .int .i64 1099511627776] w fun e w' => e = .returned (.int .i64 (sz n : Nat)) ∧ w' = w := by
  have ha : aln n ≤ 2147483648 := by unfold aln; omega
  obtain ⟨a, haa⟩ : ∃ a, aln n = a := ⟨_, rfl⟩
  have c := fun w => align n (by omega) w
  rw [haa] at c ha
  by_cases h : n < 32
  · have e : sz n = 0 := by unfold sz; rw [if_pos h]
    rw [e]
    have h2 : ((n : Nat) : Int) < 32 := by omega
    go_enter Tryz.func32, Tryz.ntmps32
    go_wp2_with (go_at_call 60; refine (c _).mono ?_; rintro e w' ⟨rfl, rfl⟩)
    go_ret
    exact ⟨rfl, rfl⟩
  · have e : sz n = a := by unfold sz; rw [if_neg h, haa]
    rw [e]
    have h2 : ¬ ((n : Nat) : Int) < 32 := by omega
    have h3 : ¬ ((a : Nat) : Int) > 1099511627776 := by omega
    go_enter Tryz.func32, Tryz.ntmps32
    go_wp2_with (go_at_call 60; refine (c _).mono ?_; rintro e w' ⟨rfl, rfl⟩)
    go_ret
    exact ⟨rfl, rfl⟩
set_option maxRecDepth 100000 in
set_option maxHeartbeats 1000000 in
theorem size_neg (n : Nat) (h0 : 0 < n) (hn : n ≤ 2147483648) (w : World) : Calls Tryz.prog 32 #[(.int .i32 (-(n : Int))), .int .i64 1099511627776] w fun e w' => e = .returned (.int .i64 (sz n : Nat)) ∧ w' = w := by
  have ha : aln n ≤ 2147483648 := by unfold aln; omega
  obtain ⟨a, haa⟩ : ∃ a, aln n = a := ⟨_, rfl⟩
  have c := fun w => align n (by omega) w
  rw [haa] at c ha
  have hm : ¬ -(n : Int) ≥ 0 := by omega
  by_cases h : n < 32
  · have e : sz n = 0 := by unfold sz; rw [if_pos h]
    rw [e]
    have h2 : ((n : Nat) : Int) < 32 := by omega
    go_enter Tryz.func32, Tryz.ntmps32
    go_wp2_with (go_at_call 60; refine (c _).mono ?_; rintro e w' ⟨rfl, rfl⟩)
    go_ret
    exact ⟨rfl, rfl⟩
  · have e : sz n = a := by unfold sz; rw [if_neg h, haa]
    rw [e]
    have h2 : ¬ ((n : Nat) : Int) < 32 := by omega
    have h3 : ¬ ((a : Nat) : Int) > 1099511627776 := by omega
    go_enter Tryz.func32, Tryz.ntmps32
    go_wp2_with (go_at_call 60; refine (c _).mono ?_; rintro e w' ⟨rfl, rfl⟩)
    go_ret
    exact ⟨rfl, rfl⟩
set_option maxRecDepth 100000 in
set_option maxHeartbeats 1000000 in
theorem sizeR_pos (n : Nat) (hn : n ≤ 2147483647) (w : World) : Calls Tryz.prog 31 #[.int .i32 n, .int .i64 1099511627776] w fun e w' => e = .returned (.int .i64 (if n < 32 then -1 else (aln n : Nat))) ∧ Below w.heap.size w w' := by
  have ha : aln n ≤ 2147483648 := by unfold aln; omega
  obtain ⟨a, haa⟩ : ∃ a, aln n = a := ⟨_, rfl⟩
  have c := fun w => alignR n (by omega) w
  rw [haa] at c ha
  have hm : ¬ (n : Int) < 0 := by omega
  by_cases h : n < 32
  · rw [if_pos h]
    have h2 : ((n : Nat) : Int) < 32 := by omega
    go_enter Tryz.func31, Tryz.ntmps31
    go_wp2_with (go_at_call 59; refine (c _).mono ?_; rintro e w' ⟨rfl, hB⟩)
    go_ret
    exact ⟨rfl, hB⟩
  · rw [if_neg h, haa]
    have h2 : ¬ ((n : Nat) : Int) < 32 := by omega
    have h3 : ¬ ((a : Nat) : Int) > 1099511627776 := by omega
    go_enter Tryz.func31, Tryz.ntmps31
    go_wp2_with (go_at_call 59; refine (c _).mono ?_; rintro e w' ⟨rfl, hB⟩)
    go_ret
    exact ⟨rfl, hB⟩
set_option maxRecDepth 100000 in
set_option maxHeartbeats 1000000 in
theorem sizeR_neg (n : Nat) (h0 : 0 < n) (hn : n ≤ 2147483648) (w : World) : Calls Tryz.prog 31 #[(.int .i32 (-(n : Int))), .int .i64 1099511627776] w fun e w' => e = .returned (.int .i64 (if n < 32 then -1 else (aln n : Nat))) ∧ Below w.heap.size w w' := by
  have ha : aln n ≤ 2147483648 := by unfold aln; omega
  obtain ⟨a, haa⟩ : ∃ a, aln n = a := ⟨_, rfl⟩
  have c := fun w => alignR n (by omega) w
  rw [haa] at c ha
  have hm : -(n : Int) < 0 := by omega
  by_cases h : n < 32
  · rw [if_pos h]
    have h2 : ((n : Nat) : Int) < 32 := by omega
    go_enter Tryz.func31, Tryz.ntmps31
    go_wp2_with (go_at_call 59; refine (c _).mono ?_; rintro e w' ⟨rfl, hB⟩)
    go_ret
    exact ⟨rfl, hB⟩
  · rw [if_neg h, haa]
    have h2 : ¬ ((n : Nat) : Int) < 32 := by omega
    have h3 : ¬ ((a : Nat) : Int) > 1099511627776 := by omega
    go_enter Tryz.func31, Tryz.ntmps31
    go_wp2_with (go_at_call 59; refine (c _).mono ?_; rintro e w' ⟨rfl, hB⟩)
    go_ret
    exact ⟨rfl, hB⟩
end Go.Proofs.YtndgbfpcnkmihaaGreatDoor
