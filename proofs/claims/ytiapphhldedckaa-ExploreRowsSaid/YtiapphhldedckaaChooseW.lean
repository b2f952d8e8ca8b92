/- What the program's choose answers. -/
import Derived.Test.YtiapphhldedckaaCountW
namespace Go.Proofs.Ytiapphhldedckaa.Ex
open Go.RowKit Go.Sort Nx
theorem far_cast : (4611686018427387904 : Int) = ((FAR : Nat) : Int) := by simp [FAR]
theorem far_big : 520 * 520 ≤ FAR := by unfold FAR; omega
theorem far_le (x : Nat) : (4611686018427387904 : Int) ≤ (x : Int) ↔ FAR ≤ x := by rw [far_cast]; exact Int.ofNat_le
theorem far_ge {x : Nat} (h : x ≤ FAR) : (x : Int) ≤ 4611686018427387904 := by rw [far_cast]; exact Int.ofNat_le.2 h
theorem far_lt (x : Nat) (h : x ≤ FAR + 520) : (x : Int) < 9223372036854775808 := by unfold FAR at h; omega
theorem wrap_small {x : Nat} {y : Int} (e : y = (x : Int)) (h : x ≤ FAR + 520) : wrap64 y = (x : Int) := by
  subst e
  have := far_lt x h
  unfold wrap64
  omega
theorem round_first {N K i : Nat} (hK : K ≤ N) : ∃ f q p : Nat, f = N - K + i ∧ q = FAR / f ∧ p = q * i ∧ p ≤ FAR ∧ (N : Int) - (K : Int) + (i : Int) = (f : Int) ∧
    (4611686018427387904 : Int) / (f : Int) = (q : Int) ∧ wrap64 ((q : Int) * (i : Int)) = (p : Int) := by
  refine ⟨N - K + i, FAR / (N - K + i), FAR / (N - K + i) * i, rfl, rfl, rfl, ?_, by omega, ?_, ?_⟩
  · exact Nat.le_trans (Nat.mul_le_mul_left _ (by omega)) (Nat.div_mul_le_self _ _)
  · rw [far_cast]; exact (Int.natCast_ediv _ _).symm
  · refine wrap_small (by rw [Int.natCast_mul]) ?_
    exact Nat.le_trans (Nat.mul_le_mul_left _ (by omega : i ≤ N - K + i)) (Nat.le_trans (Nat.div_mul_le_self _ _) (Nat.le_add_right _ _))
theorem round_rest {i v f : Nat} (h1 : 1 ≤ i) (hf : f ≤ 520) (hi : i ≤ 520) (hv : v ≤ FAR / f * i) : ∃ a r a1 r1 r2 v' : Nat, (v : Int) / (i : Int) = (a : Int) ∧ (v : Int) % (i : Int) = (r : Int) ∧ wrap64 ((a : Int) * (f : Int)) = (a1 : Int) ∧
    wrap64 ((r : Int) * (f : Int)) = (r1 : Int) ∧ (r1 : Int) / (i : Int) = (r2 : Int) ∧ wrap64 ((a1 : Int) + (r2 : Int)) = (v' : Int) ∧ v' = v / i * f + v % i * f / i ∧ r < i ∧ a ≤ FAR ∧ a1 ≤ FAR ∧ r1 ≤ 270400 ∧ r2 ≤ 520 := by
  have ha : v / i ≤ FAR / f := by
    have := Nat.div_le_div_right (c := i) hv
    rwa [Nat.mul_div_cancel _ (by omega)] at this
  have ha1 : v / i * f ≤ FAR := Nat.le_trans (Nat.mul_le_mul_right _ ha) (Nat.div_mul_le_self _ _)
  have hr : v % i < i := Nat.mod_lt _ (by omega)
  have hr1 : v % i * f ≤ 520 * 520 := Nat.mul_le_mul (by omega) hf
  have hr2 : v % i * f / i ≤ 520 := by
    refine Nat.le_trans (Nat.div_le_of_le_mul ?_) hf
    exact Nat.mul_le_mul_right _ (by omega)
  refine ⟨v / i, v % i, v / i * f, v % i * f, v % i * f / i, _, (Int.natCast_ediv _ _).symm, (Int.natCast_emod _ _).symm, wrap_small (by rw [Int.natCast_mul]) (Nat.le_trans ha1 (Nat.le_add_right _ _)), wrap_small (by rw [Int.natCast_mul]) (Nat.le_trans hr1 (Nat.le_trans far_big (Nat.le_add_right _ _))), ?_, wrap_small (by rw [Int.natCast_add]) (Nat.add_le_add ha1 hr2), rfl, hr, Nat.le_trans ha (Nat.div_le_self _ _), ha1, hr1, hr2⟩
  exact (Int.natCast_ediv _ _).symm
set_option maxHeartbeats 1600000 in
set_option maxRecDepth 1000000 in
theorem choose32 (N K : Nat) (w : World) (hKN : K ≤ N) (hN : N ≤ 520) :
    Calls Try.prog 32 #[.int .i64 N, .int .i64 K] w fun e w' => e = .returned (.int .i64 (((choose N K).getD FAR : Nat) : Int)) ∧ ∃ m, w' = w.drewN m := by
  go_enter Try.func32, Try.ntmps32
  go_wp2_with fail
  go_loopw [5, 6] (fun s5 s6 wr => ∃ (i v m : Nat), 1 ≤ i ∧ i ≤ K + 1 ∧ s5 = .int .i64 v ∧ s6 = .int .i64 i ∧ wr = w.drewN m ∧ Hid (0 < v ∧ v < FAR ∧ choose N K = chLoop (N - K) (K + 1 - i) i v)) (fun _ s _ => K + 1 - (intOf s).toNat)
  case atStart => exact ⟨1, 1, 0, by omega, by omega, rfl, rfl, rfl, Lib.hid ⟨by omega, by unfold FAR; omega, rfl⟩⟩
  case round =>
    obtain ⟨i, v, m, hi1, hi2, rfl, rfl, rfl, H⟩ := hrel
    by_cases hlt : i ≤ K
    · have h1 : (i : Int) ≤ (K : Int) := by omega
      have hi0 : (0 : Int) < (i : Int) := by omega
      obtain ⟨f, q, p, hf, hq, hp, hpF, e0, e1, e2⟩ := round_first (i := i) hKN
      have hf1 : (0 : Int) < (f : Int) := by omega
      have hfb : f ≤ 520 := by omega
      have hch : choose N K = if FAR / f * i < v then none else if FAR ≤ v / i * f + v % i * f / i then none else chLoop (N - K) (K - i) (i + 1) (v / i * f + v % i * f / i) := by
        rw [H.out.2.2, show K + 1 - i = K - i + 1 from by omega, chLoop, ← hf]
      have HC := Lib.hid hch
      have HQ := Lib.hid hq
      have HP := Lib.hid hp
      have HF := Lib.hid hf
      clear hch hq hp hf
      by_cases hc : p < v
      · have hfin : choose N K = none := by rw [HC.out, if_pos (by rw [← HQ.out, ← HP.out]; exact hc)]
        have HFin := Lib.hid hfin
        clear hfin
        go_wp2
        go_ret
        exact ⟨by rw [HFin.out]; rfl, m, rfl⟩
      · obtain ⟨a, r, a1, r1, r2, v', e3, e4, e5, e6, e7, e8, hv', hr, ba, ba1, br1, br2⟩ := round_rest (v := v) hi1 hfb (by omega) (by rw [← HQ.out, ← HP.out]; omega)
        have HV := Lib.hid hv'
        have ca : wrap64 (a : Int) = (a : Int) := wrap_small rfl (Nat.le_trans ba (Nat.le_add_right _ _))
        have cr2 : wrap64 (r2 : Int) = (r2 : Int) := wrap_small rfl (Nat.le_trans br2 (Nat.le_add_left _ _))
        clear ba ba1 br1 br2 hpF
        clear hv'
        by_cases hc2 : FAR ≤ v'
        · have hfin : choose N K = none := by rw [HC.out, if_neg (by rw [← HQ.out, ← HP.out]; exact hc), if_pos (by rw [← HV.out]; exact hc2)]
          have HFin := Lib.hid hfin
          have hc3 : decide ((4611686018427387904 : Int) ≤ (v' : Int)) = true := decide_eq_true ((far_le v').2 hc2)
          clear hfin hc2
          go_wp2_with fail
          go_quiet (fail)
          go_wp2
          go_ret
          exact ⟨by rw [HFin.out]; rfl, _, rfl⟩
        · have hfin : choose N K = chLoop (N - K) (K - i) (i + 1) v' := by rw [HC.out, if_neg (by rw [← HQ.out, ← HP.out]; exact hc), if_neg (by rw [← HV.out]; exact hc2), ← HV.out]
          have hv0 : 0 < v' := by
            have hh := step_val (N - K) i v (by omega)
            rw [← HF.out, ← HV.out] at hh
            rw [hh]
            have := step_pos (N - K) i v (by omega) H.out.1
            rwa [← HF.out] at this
          have HV0 := Lib.hid hv0
          have HFin := Lib.hid hfin
          have hc3 : decide ((4611686018427387904 : Int) ≤ (v' : Int)) = false := decide_eq_false (fun h => hc2 ((far_le v').1 h))
          have HC2 := Lib.hid hc2
          clear hfin hc2 hv0
          go_wp2_with fail
          go_quiet (fail)
          go_wp2
          go_roundw
          case rel => exact ⟨i + 1, v', m + nq, by omega, by omega, by rw [e8], by go_num, rfl, Lib.hid ⟨HV0.out, by have := HC2.out; omega, by rw [HFin.out, show K + 1 - (i + 1) = K - i from by omega]⟩⟩
          case measure => simp [intOf]; omega
    · obtain rfl : i = K + 1 := by omega
      have hfin : choose N K = some v := by rw [H.out.2.2, show K + 1 - (K + 1) = 0 from by omega]; rfl
      have HFin := Lib.hid hfin
      clear hfin
      go_wp2
      go_ret
      exact ⟨by rw [HFin.out]; rfl, m, rfl⟩
end Go.Proofs.Ytiapphhldedckaa.Ex
