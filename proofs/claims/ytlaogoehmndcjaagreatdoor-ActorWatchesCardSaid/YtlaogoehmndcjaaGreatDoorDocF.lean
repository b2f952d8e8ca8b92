/- Positions and terms: the document's reckoning. -/
import Derived.Test.YtlaogoehmndcjaaGreatDoorDocA
import Derived.Test.YtlaogoehmndcjaaGreatDoorPlA
set_option linter.unusedVariables false
namespace Go.Proofs.YtlaogoehmndcjaaGreatDoor.Ba
open Go Go.RowKit Go.Lib Go.Base
set_option maxRecDepth 1000000
set_option maxHeartbeats 1600000
theorem maxPosR (n : Int) (h : TermOk n) (w : World) : Calls Tryz.prog 67 #[.int .i64 n] w fun e w' => e = .returned (.int .i64 (n * 2147483648)) ∧ w' = w := by
  have c1 := fun W => isTermR_any n W
  rw [decide_eq_true h] at c1
  have k1 : IntKind.i64.wrap (n * 2147483648) = n * 2147483648 := by
    have hb : 256 ≤ n ∧ n ≤ 8192 := by rcases h with h | h | h | h | h | h <;> omega
    exact wrap_small _ (by omega) (by omega)
  clear h
  go_enter Tryz.func67, Tryz.ntmps67
  go_wp2_with (go_at_call 65; refine (c1 _).mono ?_; clear c1; rintro e w1 ⟨rfl, rfl⟩)
  go_ret
  exact ⟨rfl, rfl⟩
theorem termR (p i n : Int) (h : TermOk n) (hi : -2147483648 ≤ i ∧ i < 2147483648) (hp : 0 ≤ p ∧ p < n * 2147483648) (w : World) : Calls Tryz.prog 68 #[.int .i64 p, .int .i32 i, .int .i64 n] w fun e w' => e = .returned (.tuple #[.int .i32 (s32 (i + p / n)), .int .i64 0]) ∧ w' = w := by
  have c1 := fun W => isTermR_any n W
  have c2 := fun W => maxPosR n h W
  rw [decide_eq_true h] at c1
  have hb : 256 ≤ n ∧ n ≤ 8192 := by rcases h with h | h | h | h | h | h <;> omega
  have h0 : ¬ p < 0 := by omega
  have h1 : ¬ p ≥ n * 2147483648 := by omega
  have hn : ¬ n = 0 := by omega
  have hq0 : 0 ≤ p / n := Int.ediv_nonneg hp.1 (by omega)
  have hq1 : p / n < 2147483648 := Int.ediv_lt_of_lt_mul (by omega) (by rw [Int.mul_comm]; exact hp.2)
  have q1 : p.tdiv n = p / n := Int.tdiv_eq_ediv_of_nonneg (by omega)
  have hq2 : p / n ≤ p := Int.ediv_le_self _ hp.1
  obtain ⟨q, hq⟩ : ∃ q, p / n = q := ⟨_, rfl⟩
  rw [hq] at q1 hq0 hq1 hq2
  have k1 : IntKind.i64.wrap q = q := wrap_small _ (by omega) (by omega)
  have k2 : IntKind.i64.wrap (i + q) = i + q := wrap_small _ (by omega) (by omega)
  have HS := Lib.hid (And.intro hq (show s32 (i + q) = if i + q ≥ 2147483648 then i + q - 4294967296 else i + q by unfold s32; split <;> omega))
  clear h hp hq
  by_cases g : i + q ≥ 2147483648
  · have k3 : IntKind.i64.wrap (i + q - 4294967296) = i + q - 4294967296 := wrap_small _ (by omega) (by omega)
    have k4 : IntKind.i32.wrap (i + q - 4294967296) = i + q - 4294967296 := by rw [IntKind.wrap_i32]; omega
    go_enter Tryz.func68, Tryz.ntmps68
    go_wp2_with (first | (go_at_call 65; refine (c1 _).mono ?_; rintro e w1 ⟨rfl, rfl⟩) | (go_at_call 67; refine (c2 _).mono ?_; rintro e w1 ⟨rfl, rfl⟩))
    go_ret2
    refine ⟨?_, rfl⟩
    rw [HS.out.1, HS.out.2, if_pos g]
    try rfl
  · have k4 : IntKind.i32.wrap (i + q) = i + q := by rw [IntKind.wrap_i32]; omega
    go_enter Tryz.func68, Tryz.ntmps68
    go_wp2_with (first | (go_at_call 65; refine (c1 _).mono ?_; rintro e w1 ⟨rfl, rfl⟩) | (go_at_call 67; refine (c2 _).mono ?_; rintro e w1 ⟨rfl, rfl⟩))
    go_ret2
    refine ⟨?_, rfl⟩
    rw [HS.out.1, HS.out.2, if_neg (by omega)]
    try rfl
theorem unpackR (v : Int) (hv : 0 ≤ v ∧ v < 18446744073709551616) (w : World) : Calls Tryz.prog 71 #[.int .u64 v] w fun e w' => e = .returned (.tuple #[.int .i32 (s32 (v / 4294967296)), .int .u32 (v % 4294967296)]) ∧ w' = w := by
  have q1 : v.tdiv 4294967296 = v / 4294967296 := Int.tdiv_eq_ediv_of_nonneg (by omega)
  have q2 : v.tmod 4294967296 = v % 4294967296 := Int.tmod_eq_emod_of_nonneg (by omega)
  obtain ⟨q, hq⟩ : ∃ q, v / 4294967296 = q := ⟨_, rfl⟩
  obtain ⟨r, hr⟩ : ∃ r, v % 4294967296 = r := ⟨_, rfl⟩
  have hq0 : 0 ≤ q ∧ q < 4294967296 := by omega
  have hr0 : 0 ≤ r ∧ r < 4294967296 := by omega
  rw [hq] at q1 ⊢
  rw [hr] at q2 ⊢
  have k0 : IntKind.u64.wrap q = q := by rw [IntKind.wrap_u64]; omega
  have k1 : IntKind.i64.wrap q = q := wrap_small _ (by omega) (by omega)
  have k5 : IntKind.u64.wrap r = r := by rw [IntKind.wrap_u64]; omega
  have k6 : IntKind.u32.wrap r = r := by rw [IntKind.wrap_u32]; omega
  have HS := Lib.hid (show s32 q = if q ≥ 2147483648 then q - 4294967296 else q by unfold s32; split <;> omega)
  clear hq hr
  by_cases g : q ≥ 2147483648
  · have k3 : IntKind.i64.wrap (q - 4294967296) = q - 4294967296 := wrap_small _ (by omega) (by omega)
    have k4 : IntKind.i32.wrap (q - 4294967296) = q - 4294967296 := by rw [IntKind.wrap_i32]; omega
    go_enter Tryz.func71, Tryz.ntmps71
    go_wp2
    go_ret2
    refine ⟨?_, rfl⟩
    rw [HS.out, if_pos g]
    try rfl
  · have k4 : IntKind.i32.wrap q = q := by rw [IntKind.wrap_i32]; omega
    go_enter Tryz.func71, Tryz.ntmps71
    go_wp2
    go_ret2
    refine ⟨?_, rfl⟩
    rw [HS.out, if_neg (by omega)]
    try rfl
theorem tailAtR (l : Lg) (h : l.ok) (p : Int) (h0 : 0 ≤ p) (h1 : p < 3) (w : World) : Calls Tryz.prog 70 #[l.val, .int .i64 p] w fun e w' => e = .returned (.int .i64 (l.base + 3 * l.term + 8 * p)) ∧ Below w.heap.size w w' := by
  have hb := Lg.ok.bounds h
  have c1 := fun W => mR_any l h W
  have k1 : IntKind.i64.wrap (8 * p) = 8 * p := wrap_small _ (by omega) (by omega)
  have k2 : IntKind.i64.wrap (l.base + 3 * l.term + 8 * p) = l.base + 3 * l.term + 8 * p := wrap_small _ (by omega) (by omega)
  clear h
  obtain ⟨base, term, mtu, subs, ini, ses, str⟩ := l
  unfold Lg.val at c1 ⊢
  dsimp only at *
  clear hb
  go_enter Tryz.func70, Tryz.ntmps70
  go_wp2_with (go_at_call 40; refine (c1 _).mono ?_; clear c1; rintro e w1 ⟨rfl, hB1⟩; have H1 := Lib.hid hB1; clear hB1)
  go_ret
  exact ⟨by simp [go_sem], ((Below.refl _ _).alloc (Nat.le_refl _) _).trans (H1.out.mono (by simp))⟩
theorem isPow32 (w : World) : Calls Tryz.prog 121 #[.int .i64 32] w fun e w' => e = .returned (.bool true) ∧ w' = w := by
  have c : ∀ W, Calls Tryz.prog 167 #[.int .i64 32] W fun e w' => e = .returned (.tuple #[.int .i64 5, .bool true]) ∧ w' = W := by
    intro W
    go_enter Tryz.func167, Tryz.ntmps167
    go_wp2
    refine wp_loop_rounds 7 ?_
    iterate 8 (try rw [rounds_succ]; go_wp2)
    go_ret2
    exact ⟨rfl, rfl⟩
  go_enter Tryz.func121, Tryz.ntmps121
  go_wp2_with (go_at_call 167; refine (c _).mono ?_; clear c; rintro e w1 ⟨rfl, rfl⟩)
  go_ret
  exact ⟨rfl, rfl⟩
theorem alignR32 (n : Int) (h : 0 ≤ n ∧ n ≤ 1000000) (w : World) : Calls Tryz.prog 73 #[.int .i64 n, .int .i64 32] w fun e w' => e = .returned (.tuple #[.int .i64 ((n + 31) / 32 * 32), .int .i64 0]) ∧ w' = w := by
  have c := fun W => isPow32 W
  have q1 : n.tdiv 32 = n / 32 := Int.tdiv_eq_ediv_of_nonneg (by omega)
  have q2 : n.tmod 32 = n % 32 := Int.tmod_eq_emod_of_nonneg (by omega)
  have h0 : ¬ n < 0 := by omega
  have h1 : ¬ n > 4611686018427387904 := by omega
  obtain ⟨q, hq⟩ : ∃ q, n / 32 = q := ⟨_, rfl⟩
  obtain ⟨r, hr⟩ : ∃ r, n % 32 = r := ⟨_, rfl⟩
  rw [hq] at q1
  rw [hr] at q2
  have hq0 : 0 ≤ q ∧ q ≤ 100000 := by omega
  have k1 : IntKind.i64.wrap q = q := wrap_small _ (by omega) (by omega)
  have k2 : IntKind.i64.wrap (q + 1) = q + 1 := wrap_small _ (by omega) (by omega)
  have k3 : IntKind.i64.wrap ((q + 1) * 32) = (q + 1) * 32 := wrap_small _ (by omega) (by omega)
  by_cases g : r = 0
  · subst g
    have HS := Lib.hid (show (n + 31) / 32 * 32 = n by omega)
    clear hq hr
    go_enter Tryz.func73, Tryz.ntmps73
    go_wp2_with (go_at_call 121; refine (c _).mono ?_; clear c; rintro e w1 ⟨rfl, rfl⟩)
    go_ret2
    refine ⟨?_, rfl⟩
    rw [HS.out]
    try rfl
  · have HS := Lib.hid (show (n + 31) / 32 * 32 = (q + 1) * 32 by omega)
    have g2 : ¬ q + 1 > 144115188075855872 := by omega
    have hr1 : IntKind.i64.wrap r = r := wrap_small _ (by omega) (by omega)
    clear hq hr
    go_enter Tryz.func73, Tryz.ntmps73
    go_wp2_with (go_at_call 121; refine (c _).mono ?_; clear c; rintro e w1 ⟨rfl, rfl⟩)
    go_ret2
    refine ⟨?_, rfl⟩
    rw [HS.out]
    try rfl
end Go.Proofs.YtlaogoehmndcjaaGreatDoor.Ba
