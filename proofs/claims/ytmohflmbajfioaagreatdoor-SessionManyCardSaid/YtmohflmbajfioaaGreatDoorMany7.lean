/- SessionMany answers true, for every two numbers. -/
import Derived.Test.YtmohflmbajfioaaGreatDoorMany6
import Derived.WalkKit
import Derived.Deep.QuietTactic
import Derived.BigQuiet
import Derived.BigRegion
import Derived.WalkSpells
import Derived.Lib.Hide
namespace Go.Proofs.YtmohflmbajfioaaGreatDoor
open Go Go.AE Go.RowKit
set_option maxRecDepth 1000000 in
theorem fixed_runs : isTrue (evCallF (mkEnvL Tryz.prog) (defS (mkEnvL Tryz.prog) 2000 40 isSlow noSums 2) 2000 40 (.fn 5) [] ⟨0, .nil⟩) = true := by kernel_rfl
theorem fixed (w : World) : Calls Tryz.prog 5 #[] w fun e w' => e = .returned (.bool true) ∧ Below w.heap.size w w' :=
  ae_fast_with mixed (VRL.nil _) fixed_runs w (S_ok w)
theorem St2.cell0 {w1 w : World} {m : Mem} {p : Value} {kb : Nat} {C : Array Value} {e : TypeId} {fz : Nat × Nat} (h : St2 w1 m p kb (.cells C e fz) w) : w.cell? ⟨kb, 0, none⟩ = C[0]? := let ⟨_, _, _, _, h4⟩ := h; AE.cell?_of h4
theorem St2.cell1 {w1 w : World} {m : Mem} {p : Value} {kb : Nat} {C : Array Value} {e : TypeId} {fz : Nat × Nat} (h : St2 w1 m p kb (.cells C e fz) w) : w.cell? ⟨kb, 1, none⟩ = C[1]? := let ⟨_, _, _, _, h4⟩ := h; AE.cell?_of h4
set_option maxRecDepth 1000000 in
set_option maxHeartbeats 6400000 in
theorem many_law (n a : Nat) (hn : n < 256) (ha : a < 256) (w : World) : Calls Tryz.prog 3 #[.int .u8 n, .int .u8 a] w fun e w' => e = .returned (.bool true) ∧ Below w.heap.size w w' := by
  obtain ⟨N, hN⟩ : ∃ N, n % 25 = N := ⟨_, rfl⟩
  obtain ⟨c, hc⟩ : ∃ c, a % 25 = c := ⟨_, rfl⟩
  obtain ⟨y, hy⟩ : ∃ y, a % 5 = y := ⟨_, rfl⟩
  have hyc : c % 5 = y := by omega
  have hN25 : N < 25 := by omega
  have hc25 : c < 25 := by omega
  have r1 : (n : Int).tmod 25 = (N : Int) := by rw [Int.tmod_eq_emod_of_nonneg (by omega)]; omega
  have r2 : (a : Int).tmod 25 = (c : Int) := by rw [Int.tmod_eq_emod_of_nonneg (by omega)]; omega
  have r3 : (a : Int).tmod 5 = (y : Int) := by rw [Int.tmod_eq_emod_of_nonneg (by omega)]; omega
  have r4 : (c : Int).tmod 5 = (y : Int) := by rw [Int.tmod_eq_emod_of_nonneg (by omega)]; omega
  clear hN hc hy
  go_enter Tryz.func3, Tryz.ntmps3
  go_wp2_with (first
    | (go_at_call 5; refine (fixed _).mono ?_; rintro e w1 ⟨rfl, hB1⟩; have HB1 := Lib.hid hB1; clear hB1)
    | (go_at_call 6; refine (new_c _).mono ?_; rintro e w2 ⟨p, rfl, hst⟩; have HS := Lib.hid hst; clear hst))
  go_loopw [25] (fun v wr => ∃ k : Nat, k ≤ N ∧ v = .int .i64 k ∧ Hid (St w1 (mseq k) p wr)) (fun v _ => N - (intOf v).toNat)
  case atStart => exact ⟨0, Nat.zero_le _, rfl, HS⟩
  case round =>
    obtain ⟨k, hk, rfl, hst⟩ := hrel
    by_cases hlt : k < N
    · have h1 : (k : Int) < (N : Int) := by omega
      obtain ⟨z, hz⟩ : ∃ z, k % 5 = z := ⟨_, rfl⟩
      have r5 : (k : Int).tmod 5 = (z : Int) := by rw [Int.tmod_eq_emod_of_nonneg (by omega)]; omega
      have ho := open_at k (by omega)
      rw [hz] at ho
      by_cases h16 : (k : Int) < 16
      · rw [if_pos (by omega)] at ho
        have c7 := open_c ho hst.out
        have HO := Lib.hid ho
        clear ho
        go_wp2_with (go_at_call 7; refine c7.mono ?_; clear c7; rintro e w3 ⟨⟨q, rfl⟩, hst3⟩; have HS3 := Lib.hid hst3; clear hst3)
        go_roundw
        case rel => exact ⟨k + 1, by omega, by go_num, HS3⟩
        case measure => simp [intOf]; omega
      · rw [if_neg (by omega)] at ho
        have c7 := open_c ho hst.out
        have HO := Lib.hid ho
        clear ho
        go_wp2_with (go_at_call 7; refine c7.mono ?_; clear c7; rintro e w3 ⟨⟨q, rfl⟩, hst3⟩; have HS3 := Lib.hid hst3; clear hst3)
        go_roundw
        case rel => exact ⟨k + 1, by omega, by go_num, HS3⟩
        case measure => simp [intOf]; omega
    · obtain rfl : k = N := by omega
      obtain ⟨t, m1, m2, e, m3, g1, g2, g3, g4, g5⟩ := close_at k c hN25 hc25
      rw [hyc] at g1 g2
      by_cases h16 : (16 : Int) < (k : Int)
      · have hk16 : ¬ (k : Int) < 16 := by omega
        by_cases hcl : (c : Int) < 16
        · have tv : t = true := g4.2 (by omega)
          have ev : e = 0 := by rw [g5, if_pos (Or.inl tv)]
          subst tv ev
          have HG := Lib.hid (And.intro g2 g3)
          have c8 := fun ob => close_c g1 (hst.out.alloc ob)
          clear g1 g2 g3 g4 g5
          go_wp2_with (first
            | (go_at_call 8; refine (c8 _).mono ?_; clear c8; rintro e w3 ⟨rfl, hst3⟩; have q0 := hst3.cell0; have q1 := hst3.cell1; have c8b := close_c HG.out.1 hst3; clear hst3)
            | (go_at_call 8; refine c8b.mono ?_; clear c8b q0 q1; rintro e w4 ⟨rfl, hst4⟩; have c7 := open_c HG.out.2 hst4.st; clear hst4)
            | (go_at_call 7; refine c7.mono ?_; clear c7; rintro e w5 ⟨⟨q, rfl⟩, hst5⟩; have HB5 := Lib.hid hst5.below; clear hst5))
          go_ret
          exact ⟨rfl, HB1.out.trans (HB5.out.mono HB1.out.size)⟩
        · have tv : t = false := by
            cases t with
            | false => rfl
            | true => exact absurd (g4.1 rfl) (by omega)
          have ev : e = 12 := by rw [g5, if_neg (by rw [tv]; rintro (h | h); cases h; omega)]
          subst tv ev
          have HG := Lib.hid (And.intro g2 g3)
          have c8 := fun ob => close_c g1 (hst.out.alloc ob)
          clear g1 g2 g3 g4 g5
          go_wp2_with (first
            | (go_at_call 8; refine (c8 _).mono ?_; clear c8; rintro e w3 ⟨rfl, hst3⟩; have q0 := hst3.cell0; have q1 := hst3.cell1; have c8b := close_c HG.out.1 hst3; clear hst3)
            | (go_at_call 8; refine c8b.mono ?_; clear c8b q0 q1; rintro e w4 ⟨rfl, hst4⟩; have c7 := open_c HG.out.2 hst4.st; clear hst4)
            | (go_at_call 7; refine c7.mono ?_; clear c7; rintro e w5 ⟨⟨q, rfl⟩, hst5⟩; have HB5 := Lib.hid hst5.below; clear hst5))
          go_ret
          exact ⟨by simp; omega, HB1.out.trans (HB5.out.mono HB1.out.size)⟩
      · by_cases hk16 : (k : Int) < 16
        · by_cases hcl : (c : Int) < (k : Int)
          · have tv : t = true := g4.2 (by omega)
            have ev : e = 0 := by rw [g5, if_pos (Or.inl tv)]
            subst tv ev
            have HG := Lib.hid (And.intro g2 g3)
            have c8 := fun ob => close_c g1 (hst.out.alloc ob)
            clear g1 g2 g3 g4 g5
            go_wp2_with (first
              | (go_at_call 8; refine (c8 _).mono ?_; clear c8; rintro e w3 ⟨rfl, hst3⟩; have q0 := hst3.cell0; have q1 := hst3.cell1; have c8b := close_c HG.out.1 hst3; clear hst3)
              | (go_at_call 8; refine c8b.mono ?_; clear c8b q0 q1; rintro e w4 ⟨rfl, hst4⟩; have c7 := open_c HG.out.2 hst4.st; clear hst4)
              | (go_at_call 7; refine c7.mono ?_; clear c7; rintro e w5 ⟨⟨q, rfl⟩, hst5⟩; have HB5 := Lib.hid hst5.below; clear hst5))
            go_ret
            exact ⟨rfl, HB1.out.trans (HB5.out.mono HB1.out.size)⟩
          · have tv : t = false := by
              cases t with
              | false => rfl
              | true => exact absurd (g4.1 rfl) (by omega)
            have ev : e = 0 := by rw [g5, if_pos (Or.inr (by omega))]
            subst tv ev
            have HG := Lib.hid (And.intro g2 g3)
            have c8 := fun ob => close_c g1 (hst.out.alloc ob)
            clear g1 g2 g3 g4 g5
            go_wp2_with (first
              | (go_at_call 8; refine (c8 _).mono ?_; clear c8; rintro e w3 ⟨rfl, hst3⟩; have q0 := hst3.cell0; have q1 := hst3.cell1; have c8b := close_c HG.out.1 hst3; clear hst3)
              | (go_at_call 8; refine c8b.mono ?_; clear c8b q0 q1; rintro e w4 ⟨rfl, hst4⟩; have c7 := open_c HG.out.2 hst4.st; clear hst4)
              | (go_at_call 7; refine c7.mono ?_; clear c7; rintro e w5 ⟨⟨q, rfl⟩, hst5⟩; have HB5 := Lib.hid hst5.below; clear hst5))
            go_ret
            exact ⟨rfl, HB1.out.trans (HB5.out.mono HB1.out.size)⟩
        · by_cases hcl : (c : Int) < (k : Int)
          · have tv : t = true := g4.2 (by omega)
            have ev : e = 0 := by rw [g5, if_pos (Or.inl tv)]
            subst tv ev
            have HG := Lib.hid (And.intro g2 g3)
            have c8 := fun ob => close_c g1 (hst.out.alloc ob)
            clear g1 g2 g3 g4 g5
            go_wp2_with (first
              | (go_at_call 8; refine (c8 _).mono ?_; clear c8; rintro e w3 ⟨rfl, hst3⟩; have q0 := hst3.cell0; have q1 := hst3.cell1; have c8b := close_c HG.out.1 hst3; clear hst3)
              | (go_at_call 8; refine c8b.mono ?_; clear c8b q0 q1; rintro e w4 ⟨rfl, hst4⟩; have c7 := open_c HG.out.2 hst4.st; clear hst4)
              | (go_at_call 7; refine c7.mono ?_; clear c7; rintro e w5 ⟨⟨q, rfl⟩, hst5⟩; have HB5 := Lib.hid hst5.below; clear hst5))
            go_ret
            exact ⟨rfl, HB1.out.trans (HB5.out.mono HB1.out.size)⟩
          · have tv : t = false := by
              cases t with
              | false => rfl
              | true => exact absurd (g4.1 rfl) (by omega)
            have ev : e = 12 := by rw [g5, if_neg (by rw [tv]; rintro (h | h); cases h; omega)]
            subst tv ev
            have HG := Lib.hid (And.intro g2 g3)
            have c8 := fun ob => close_c g1 (hst.out.alloc ob)
            clear g1 g2 g3 g4 g5
            go_wp2_with (first
              | (go_at_call 8; refine (c8 _).mono ?_; clear c8; rintro e w3 ⟨rfl, hst3⟩; have q0 := hst3.cell0; have q1 := hst3.cell1; have c8b := close_c HG.out.1 hst3; clear hst3)
              | (go_at_call 8; refine c8b.mono ?_; clear c8b q0 q1; rintro e w4 ⟨rfl, hst4⟩; have c7 := open_c HG.out.2 hst4.st; clear hst4)
              | (go_at_call 7; refine c7.mono ?_; clear c7; rintro e w5 ⟨⟨q, rfl⟩, hst5⟩; have HB5 := Lib.hid hst5.below; clear hst5))
            go_ret
            exact ⟨by simp; omega, HB1.out.trans (HB5.out.mono HB1.out.size)⟩
end Go.Proofs.YtmohflmbajfioaaGreatDoor
