/- The walk of ExploreNext. -/
import Derived.Test.YtiapphhldedckaaNextR
import Derived.Test.YtiapphhldedckaaFix
namespace Go.Proofs.Ytiapphhldedckaa.Nx
open Go.RowKit Go.Sort
theorem falls_down (d : Array Int) : ∀ a, a ≤ d.size → (Falls d a ∨ ∃ i, i + 1 < d.size ∧ Falls d (i + 1) ∧ d[i]! < d[i + 1]!) → (Falls d 0 ∨ ∃ i, i + 1 < d.size ∧ Falls d (i + 1) ∧ d[i]! < d[i + 1]!) := by
  intro a
  induction a with
  | zero => intro _ h; exact h
  | succ a ih =>
    intro h1 h
    rcases h with h | h
    · refine ih (by omega) ?_
      by_cases h2 : a + 1 < d.size ∧ d[a]! < d[a + 1]!
      · exact .inr ⟨a, h2.1, h, h2.2⟩
      · refine .inl fun t h3 h4 => ?_
        rcases Nat.lt_or_ge a t with h5 | h5
        · exact h t h5 h4
        · obtain rfl : t = a := by omega
          have : ¬ d[t]! < d[t + 1]! := fun h6 => h2 ⟨h4, h6⟩
          omega
    · exact .inr h
theorem falls_cases (d : Array Int) : Falls d 0 ∨ ∃ i, i + 1 < d.size ∧ Falls d (i + 1) ∧ d[i]! < d[i + 1]! :=
  falls_down d d.size (Nat.le_refl _) (.inl fun t h1 h2 => by omega)
set_option maxHeartbeats 1600000 in
set_option maxRecDepth 1000000 in
theorem same_zero11 (a b : Option Addr) (c1 c2 : Nat) (w : World) : Calls Try.prog 11 #[.slice a 0 c1, .slice b 0 c2] w fun e w' => e = .returned (.bool true) ∧ w = w' := by
  go_enter Try.func11, Try.ntmps11
  go_wp2
  refine wp_loop_rounds 1 ?_
  rw [rounds_succ]
  go_wp2
  go_ret
  exact ⟨rfl, rfl⟩
set_option maxHeartbeats 1600000 in
set_option maxRecDepth 1000000 in
theorem same_eq11 (a o b p c1 c2 n : Nat) (d : Array Int) (w : World) (hn : d.size = n) (hs : n ≤ 9000000) (ha : Reads w a o d) (hb : Reads w b p d) : Calls Try.prog 11 #[.slice (some ⟨a, o, none⟩) n c1, .slice (some ⟨b, p, none⟩) n c2] w fun e w' => e = .returned (.bool true) ∧ ∃ m, w' = w.drewN m := by
  have HA := Lib.hid ha
  have HB := Lib.hid hb
  have HN := Lib.hid hn
  clear ha hb hn
  go_enter Try.func11, Try.ntmps11
  go_wp2
  go_loopw [13] (fun s wr => ∃ k m : Nat, k ≤ n ∧ s = .int .i64 k ∧ wr = w.drewN m) (fun s _ => n - (intOf s).toNat)
  case atStart => exact ⟨0, 0, Nat.zero_le _, rfl, rfl⟩
  case round =>
    obtain ⟨k, m, hk, rfl, rfl⟩ := hrel
    by_cases hlt : k < n
    · have h1 : (k : Int) < (n : Int) := by omega
      have h0 : (0 : Int) ≤ (k : Int) := by omega
      have ca := HA.out k (by rw [HN.out]; exact hlt)
      have cb := HB.out k (by rw [HN.out]; exact hlt)
      generalize d[k]! = x at *
      go_wp2_with fail
      go_quiet (fail)
      go_wp2
      go_roundw
      case rel => exact ⟨k + 1, m + nq, by omega, by go_num, rfl⟩
      case measure => simp [intOf]; omega
    · obtain rfl : n = k := by omega
      go_wp2
      go_ret
      exact ⟨rfl, m, rfl⟩
theorem Reads.of_holds {w : World} {g : Nat} {d : Array Int} (h : Holds encI w g 0 d) : Reads w g 0 d := fun j hj => (h j hj).1
set_option maxHeartbeats 1600000 in
set_option maxRecDepth 1000000 in
theorem lawN_zero (a : Option Addr) (cap : Nat) (w : World) : Calls Try.prog 4 #[.slice a 0 cap] w fun e w' => e = .returned (.bool true) ∧ Below w.heap.size w w' := by
  go_enter Try.func4, Try.ntmps4
  go_wp2_with fail
  refine (fixed_ok _).mono ?_
  rintro e w1 ⟨rfl, hb1⟩
  go_wp2_with fail
  refine (nextE_short _ _ _).mono ?_
  rintro e w' ⟨rfl, n1, rfl⟩
  go_wp2_with fail
  refine (nextR_short _ _ _).mono ?_
  rintro e w' ⟨rfl, n2, rfl⟩
  go_wp2_with fail
  refine (same_zero11 _ _ _ _ _).mono ?_
  rintro e w' ⟨rfl, rfl⟩
  go_wp2
  go_ret
  exact ⟨rfl, by simpa using below_drewN hb1 _⟩
set_option maxHeartbeats 1600000 in
set_option maxRecDepth 1000000 in
theorem lawN_long (a : Option Addr) (len cap : Nat) (w : World) (hl : 60 < len) (hm : len ≤ maxLen) : Calls Try.prog 4 #[.slice a len cap] w fun e w' => e = .returned (.bool true) ∧ Below w.heap.size w w' := by
  unfold maxLen at hm
  go_enter Try.func4, Try.ntmps4
  go_wp2_with fail
  refine (fixed_ok _).mono ?_
  rintro e w1 ⟨rfl, hb1⟩
  go_wp2
  go_ret
  exact ⟨rfl, hb1⟩
theorem Reads.below {w w' : World} {b off : Nat} {d : Array Int} (h : Reads w b off d) {B : Nat} (hb : Below B w w') (hl : b < B) : Reads w' b off d := fun j hj => (hb.cell (p := ⟨b, off + j, none⟩) hl).trans (h j hj)
set_option maxHeartbeats 1600000 in
set_option maxRecDepth 1000000 in
theorem lawN_none (b off cap : Nat) (d : Array Int) (w : World) (h0 : 0 < d.size) (hs : d.size ≤ 60) (hl : b < w.heap.size) (hf : Falls d 0) (hr : Reads w b off d) : Calls Try.prog 4 #[.slice (some ⟨b, off, none⟩) d.size cap] w fun e w' => e = .returned (.bool true) ∧ Below w.heap.size w w' := by
  have HR := Lib.hid hr
  have HF := Lib.hid hf
  clear hr hf
  go_enter Try.func4, Try.ntmps4
  go_wp2_with fail
  refine (fixed_ok _).mono ?_
  rintro e w1 ⟨rfl, hb1⟩
  have H1 := Lib.hid hb1
  clear hb1
  go_wp2_with fail
  refine (nextE_none b off cap d w1 h0 hs HF.out (HR.out.below H1.out hl)).mono ?_
  rintro e w' ⟨rfl, n1, rfl⟩
  go_wp2_with fail
  refine (nextR_none b off cap d (w1.drewN n1) h0 hs HF.out ((HR.out.below H1.out hl).drewN _)).mono ?_
  rintro e w' ⟨rfl, n2, rfl⟩
  go_wp2_with fail
  refine (same_zero11 _ _ _ _ _).mono ?_
  rintro e w' ⟨rfl, rfl⟩
  go_wp2
  go_ret
  exact ⟨rfl, by simpa using below_drewN H1.out _⟩
set_option maxHeartbeats 1600000 in
set_option maxRecDepth 1000000 in
theorem lawN_some (b off cap : Nat) (d : Array Int) (w : World) (hs : d.size ≤ 60) (hl : b < w.heap.size) (i : Nat) (hi : i + 1 < d.size) (hf : Falls d (i + 1)) (hup : d[i]! < d[i + 1]!) (hr : Reads w b off d) : Calls Try.prog 4 #[.slice (some ⟨b, off, none⟩) d.size cap] w fun e w' => e = .returned (.bool true) ∧ Below w.heap.size w w' := by
  have HR := Lib.hid hr
  have HF := Lib.hid hf
  have HU := Lib.hid hup
  clear hr hf hup
  go_enter Try.func4, Try.ntmps4
  go_wp2_with fail
  refine (fixed_ok _).mono ?_
  rintro e w1 ⟨rfl, hb1⟩
  have H1 := Lib.hid hb1
  clear hb1
  go_wp2_with fail
  refine (nextE_some b off cap d w1 hs i hi HF.out HU.out (Nat.lt_of_lt_of_le hl H1.out.size) (HR.out.below H1.out hl)).mono ?_
  rintro e w2 ⟨g, c, r, rfl, hn, hh, hg1, hg2, hb2⟩
  have H2 := Lib.hid hb2
  have HN := Lib.hid hn
  have HH := Lib.hid hh
  clear hb2 hn hh
  go_wp2_with fail
  refine (nextR_some b off cap d w2 hs i hi HF.out HU.out ((HR.out.below H1.out hl).below H2.out (Nat.lt_of_lt_of_le hl H1.out.size))).mono ?_
  rintro e w3 ⟨g', c', r', rfl, hn, hh, hg3, hg4, hb3⟩
  obtain rfl : r = r' := NextRel.unique ⟨i, HN.out⟩ ⟨i, hn⟩
  have H3 := Lib.hid hb3
  have HH3 := Lib.hid hh
  clear hb3 hn hh
  go_wp2_with fail
  refine (same_eq11 g 0 g' 0 c c' d.size r w3 HN.out.perm.1 (by omega) ((Reads.of_holds HH.out).below H3.out hg2) (Reads.of_holds HH3.out)).mono ?_
  rintro e w' ⟨rfl, n2, rfl⟩
  go_wp2
  go_ret
  exact ⟨rfl, below_drewN (H1.out.trans ((H2.out.mono H1.out.size).trans (H3.out.mono (Nat.le_trans H1.out.size H2.out.size)))) _⟩
end Go.Proofs.Ytiapphhldedckaa.Nx
