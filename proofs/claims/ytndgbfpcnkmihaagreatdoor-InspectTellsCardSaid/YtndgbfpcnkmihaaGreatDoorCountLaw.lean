/- InspectCounts answers true, for every row of frames. -/
import Derived.Test.YtndgbfpcnkmihaaGreatDoorFillA
import Derived.Test.YtndgbfpcnkmihaaGreatDoorFix
namespace Go.Proofs.YtndgbfpcnkmihaaGreatDoor
open Go Go.RowKit
theorem fixed (w : World) : Calls Tryz.prog 5 #[] w fun e w' => e = .returned (.bool true) ∧ Below w.heap.size w w' := _root_.YtndgbfpcnkmihaaGreatDoorS.fixed w
set_option maxRecDepth 1000000
set_option maxHeartbeats 3200000
theorem count_none (a : Option Addr) (cap : Nat) (st : Int) (w : World) : Calls Tryz.prog 12 #[.slice a 0 cap, .int .i64 st] w fun e w' => e = .returned (.int .i64 0) ∧ w' = w := by
  go_enter Tryz.func12, Tryz.ntmps12
  go_wp2
  refine wp_loop_rounds 1 ?_
  rw [rounds_succ]
  go_wp2
  go_ret
  exact ⟨rfl, rfl⟩
theorem filled_none (a : Option Addr) (cap : Nat) (st : Int) (w : World) : Calls Tryz.prog 13 #[.slice a 0 cap, .int .i64 st] w fun e w' => e = .returned (.int .i64 0) ∧ w' = w := by
  go_enter Tryz.func13, Tryz.ntmps13
  go_wp2
  refine wp_loop_rounds 1 ?_
  rw [rounds_succ]
  go_wp2
  go_ret
  exact ⟨rfl, rfl⟩
theorem filledR_none (a : Option Addr) (cap : Nat) (st : Int) (w : World) : Calls Tryz.prog 14 #[.slice a 0 cap, .int .i64 st] w fun e w' => e = .returned (.int .i64 0) ∧ w' = w := by
  go_enter Tryz.func14, Tryz.ntmps14
  go_wp2
  refine wp_loop_rounds 1 ?_
  rw [rounds_succ]
  go_wp2
  go_ret
  exact ⟨rfl, rfl⟩
theorem law_long (a : Option Addr) (n cap : Nat) (st part : Int) (hn : 300 < n) (w : World) :
    Calls Tryz.prog 4 #[.slice a n cap, .int .i64 st, .int .i64 part] w fun e w' => e = .returned (.bool true) ∧ Below w.heap.size w w' := by
  have h1 : (n : Int) > 300 := by omega
  go_enter Tryz.func4, Tryz.ntmps4
  go_wp2_with (go_at_call 5; refine (fixed _).mono ?_; rintro e w' ⟨rfl, hB⟩; have HB := Lib.hid hB; clear hB)
  go_ret
  exact ⟨rfl, HB.out⟩
theorem law_none (a : Option Addr) (cap : Nat) (st part : Int) (w : World) :
    Calls Tryz.prog 4 #[.slice a 0 cap, .int .i64 st, .int .i64 part] w fun e w' => e = .returned (.bool true) ∧ Below w.heap.size w w' := by
  go_enter Tryz.func4, Tryz.ntmps4
  go_wp2_with (go_at_call 5; refine (fixed _).mono ?_; rintro e w' ⟨rfl, hB⟩; have HB := Lib.hid hB; clear hB)
  refine wp_loop_rounds 1 ?_
  rw [rounds_succ]
  go_wp2_with (first | (go_at_call 12; refine (count_none _ _ _ _).mono ?_; rintro e w' ⟨rfl, rfl⟩) | (go_at_call 13; refine (filled_none _ _ _ _).mono ?_; rintro e w' ⟨rfl, rfl⟩) | (go_at_call 14; refine (filledR_none _ _ _ _).mono ?_; rintro e w' ⟨rfl, rfl⟩))
  go_ret
  exact ⟨rfl, HB.out⟩
theorem law_some (b off cap : Nat) (l : Array Sn) (st part : Int) (hsm : Small l) (hn : l.size ≤ 300) (w : World) (hb : b < w.heap.size) (hr : ReadsS w b off l) :
    Calls Tryz.prog 4 #[.slice (some ⟨b, off, none⟩) l.size cap, .int .i64 st, .int .i64 part] w fun e w' => e = .returned (.bool true) ∧ Below w.heap.size w w' := by
  have HR := Lib.hid hr
  clear hr
  have h0 : ¬ (l.size : Int) > 300 := by omega
  go_enter Tryz.func4, Tryz.ntmps4
  go_wp2_with (go_at_call 5; refine (fixed _).mono ?_; rintro e w' ⟨rfl, hB⟩; have HB := Lib.hid hB; clear hB)
  go_loopw [7, 9, 17] (fun s p t wr => ∃ k : Nat, k ≤ l.size ∧ t = .int .i64 k ∧ s = .int .i64 (cntS l st k : Nat) ∧ Hid (Below w.heap.size w wr)) (fun _ _ t _ => l.size - (intOf t).toNat)
  case atStart => exact ⟨0, Nat.zero_le _, rfl, rfl, HB⟩
  case round =>
    obtain ⟨k, hk, rfl, rfl, hbel⟩ := hrel
    by_cases hlt : k < l.size
    · obtain ⟨c0, c1, c2, c3, c4, c5, c6, c7, c8, c9, c10, c11⟩ := (HR.out.below hb hbel.out) k hlt
      obtain ⟨x, hx⟩ : ∃ x, l[k]! = x := ⟨_, rfl⟩
      rw [hx] at c0 c1 c2 c3 c4 c5 c6 c7 c8 c9 c10 c11
      have h1 : (k : Int) < (l.size : Int) := by omega
      have h2 : (0 : Int) ≤ (k : Int) := by omega
      have h3 := cntS_le l st k
      obtain ⟨q, hq⟩ : ∃ q, cntS l st k = q := ⟨_, rfl⟩
      rw [hq] at h3 ⊢
      have HX := Lib.hid (And.intro hx hq)
      clear hx hq
      by_cases hs : x.state = st
      · go_wp2
        go_roundw
        case rel =>
          obtain ⟨e1, e2⟩ := HX.out
          refine ⟨k + 1, by omega, by go_num, ?_, ?_⟩
          · rw [cntS, e1, if_pos hs, e2]; go_num
          · exact Lib.hid (hbel.out.alloc hbel.out.size _)
        case measure => simp [intOf]; omega
      · go_wp2
        go_roundw
        case rel =>
          obtain ⟨e1, e2⟩ := HX.out
          refine ⟨k + 1, by omega, by go_num, ?_, ?_⟩
          · rw [cntS, e1, if_neg hs, e2]
          · exact Lib.hid (hbel.out.alloc hbel.out.size _)
        case measure => simp [intOf]; omega
    · obtain rfl : k = l.size := by omega
      have hw := hbel.out.size
      have HR1 := Lib.hid (HR.out.below hb hbel.out)
      have c12 := count_some b off cap l st hn wr (by omega) HR1.out
      go_wp2_with (go_at_call 12; refine c12.mono ?_; clear c12; rintro e w1 ⟨rfl, hB1⟩; have HB1 := Lib.hid hB1; clear hB1; have hw1 := HB1.out.size; have HR2 := Lib.hid (HR1.out.below (by omega) HB1.out); have c13 := filled_some b off cap l part hsm hn w1 (by omega) HR2.out)
      go_wp2_with (go_at_call 13; refine c13.mono ?_; clear c13; rintro e w2 ⟨rfl, hB2⟩; have HB2 := Lib.hid hB2; clear hB2; have hw2 := HB2.out.size; have HR3 := Lib.hid (HR2.out.below (by omega) HB2.out); have c14 := filledR_some b off cap l part hsm hn w2 (by omega) HR3.out)
      go_wp2_with (go_at_call 14; refine c14.mono ?_; clear c14; rintro e w3 ⟨rfl, hB3⟩; have HB3 := Lib.hid hB3; clear hB3)
      go_ret
      refine ⟨rfl, ?_⟩
      have hB := hbel.out.trans (HB1.out.mono hbel.out.size)
      have hB' := hB.trans (HB2.out.mono hB.size)
      exact hB'.trans (HB3.out.mono hB'.size)
end Go.Proofs.YtndgbfpcnkmihaaGreatDoor
