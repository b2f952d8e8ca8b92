/- Where a log stands: the document's reckoning. -/
import Derived.Test.YtlaogoehmndcjaaGreatDoorMeta3
set_option linter.unusedVariables false
namespace Go.Proofs.YtlaogoehmndcjaaGreatDoor.Ba
open Go Go.RowKit Go.Lib Go.Base
set_option maxHeartbeats 3200000 in
set_option maxRecDepth 1000000 in
theorem isTermR_any (n : Int) (w : World) : Calls Tryz.prog 65 #[.int .i64 n] w fun e w' => e = .returned (.bool (decide (TermOk n))) ∧ w' = w := by
  by_cases h : TermOk n
  · rw [decide_eq_true h]
    rcases h with rfl | rfl | rfl | rfl | rfl | rfl
    all_goals go_enter Tryz.func65, Tryz.ntmps65
    all_goals go_wp2
    all_goals refine wp_loop_rounds 7 ?_
    all_goals (iterate 8 (try rw [rounds_succ]; go_wp2))
    all_goals go_ret
    all_goals exact ⟨rfl, rfl⟩
  · rw [decide_eq_false h]
    have h1 : ¬ (256 : Int) = n := fun e => h (by unfold TermOk; omega)
    have h2 : ¬ (512 : Int) = n := fun e => h (by unfold TermOk; omega)
    have h3 : ¬ (1024 : Int) = n := fun e => h (by unfold TermOk; omega)
    have h4 : ¬ (2048 : Int) = n := fun e => h (by unfold TermOk; omega)
    have h5 : ¬ (4096 : Int) = n := fun e => h (by unfold TermOk; omega)
    have h6 : ¬ (8192 : Int) = n := fun e => h (by unfold TermOk; omega)
    go_enter Tryz.func65, Tryz.ntmps65
    go_wp2
    refine wp_loop_rounds 7 ?_
    iterate 8 (try rw [rounds_succ]; go_wp2)
    go_ret
    exact ⟨rfl, rfl⟩
set_option maxHeartbeats 3200000 in
set_option maxRecDepth 1000000 in
theorem rightR_any (l : Lg) (hw : l.wf) (w : World) : Calls Tryz.prog 38 #[l.val] w fun e w' => e = .returned (.bool (decide l.ok)) ∧ Below w.heap.size w w' := by
  have c1 := fun W => isTermR_any l.term W
  have hok : l.ok ↔ LogOk l.base l.term l.mtu l.subs := Iff.rfl
  by_cases ht : TermOk l.term
  · have hb : 256 ≤ l.term ∧ l.term ≤ 8192 := by rcases ht with h | h | h | h | h | h <;> omega
    rw [decide_eq_true ht] at c1
    obtain ⟨r, hr⟩ : ∃ r, decide l.ok = r := ⟨_, rfl⟩
    have hrr : r = true ↔ (32 ≤ l.mtu ∧ l.mtu ≤ l.term / 8 ∧ l.mtu % 32 = 0 ∧ 1 ≤ l.subs ∧ l.subs ≤ 8 ∧ 0 ≤ l.base ∧ l.base % 8 = 0 ∧ l.base ≤ 131072 - 3 * l.term - 128) := by
      rw [← hr, decide_eq_true_iff, hok]
      exact ⟨fun h => h.2, fun h => ⟨ht, h⟩⟩
    rw [hr]
    clear hr hok ht
    obtain ⟨base, term, mtu, subs, ini, ses, str⟩ := l
    unfold Lg.val
    obtain ⟨b0, b1, t0, t1, m0, m1, s0, s1⟩ := hw
    dsimp only at *
    have q1 : term.tdiv 8 = term / 8 := Int.tdiv_eq_ediv_of_nonneg (by omega)
    have k1 : IntKind.i64.wrap (3 * term) = 3 * term := wrap_small _ (by omega) (by omega)
    have k2 : IntKind.i64.wrap (131072 - 3 * term) = 131072 - 3 * term := wrap_small _ (by omega) (by omega)
    have k3 : IntKind.i64.wrap (131072 - 3 * term - 128) = 131072 - 3 * term - 128 := wrap_small _ (by omega) (by omega)
    obtain ⟨q, hq⟩ : ∃ q, term / 8 = q := ⟨_, rfl⟩
    rw [hq] at q1 hrr
    have HR := Lib.hid hrr
    clear hrr
    by_cases g1 : mtu < 32
    · obtain rfl : r = false := by cases r; rfl; have := (HR.out.1 rfl).1; omega
      go_enter Tryz.func38, Tryz.ntmps38
      go_wp2_with (go_at_call 65; refine (c1 _).mono ?_; clear c1; rintro e w1 ⟨rfl, rfl⟩)
      go_ret
      exact ⟨rfl, (Below.refl _ _).alloc (Nat.le_refl _) _⟩
    by_cases g2 : mtu > q
    · obtain rfl : r = false := by cases r; rfl; have := (HR.out.1 rfl).2.1; omega
      go_enter Tryz.func38, Tryz.ntmps38
      go_wp2_with (go_at_call 65; refine (c1 _).mono ?_; clear c1; rintro e w1 ⟨rfl, rfl⟩)
      go_ret
      exact ⟨rfl, (Below.refl _ _).alloc (Nat.le_refl _) _⟩
    have q2 : mtu.tmod 32 = mtu % 32 := Int.tmod_eq_emod_of_nonneg (by omega)
    obtain ⟨rm, hrm⟩ : ∃ rm, mtu % 32 = rm := ⟨_, rfl⟩
    rw [hrm] at q2
    by_cases g3 : ¬ rm = 0
    · obtain rfl : r = false := by cases r; rfl; have := (HR.out.1 rfl).2.2.1; omega
      go_enter Tryz.func38, Tryz.ntmps38
      go_wp2_with (go_at_call 65; refine (c1 _).mono ?_; clear c1; rintro e w1 ⟨rfl, rfl⟩)
      go_ret
      exact ⟨by first | rfl | (simp; done) | (simp; omega), (Below.refl _ _).alloc (Nat.le_refl _) _⟩
    by_cases g4 : subs < 1
    · obtain rfl : r = false := by cases r; rfl; have := (HR.out.1 rfl).2.2.2.1; omega
      go_enter Tryz.func38, Tryz.ntmps38
      go_wp2_with (go_at_call 65; refine (c1 _).mono ?_; clear c1; rintro e w1 ⟨rfl, rfl⟩)
      go_ret
      exact ⟨by first | rfl | (simp; done) | (simp; omega), (Below.refl _ _).alloc (Nat.le_refl _) _⟩
    by_cases g5 : subs > 8
    · obtain rfl : r = false := by cases r; rfl; have := (HR.out.1 rfl).2.2.2.2.1; omega
      go_enter Tryz.func38, Tryz.ntmps38
      go_wp2_with (go_at_call 65; refine (c1 _).mono ?_; clear c1; rintro e w1 ⟨rfl, rfl⟩)
      go_ret
      exact ⟨by first | rfl | (simp; done) | (simp; omega), (Below.refl _ _).alloc (Nat.le_refl _) _⟩
    obtain rfl : rm = 0 := by omega
    by_cases g6 : ¬ base ≥ 0
    · obtain rfl : r = false := by cases r; rfl; have := (HR.out.1 rfl).2.2.2.2.2.1; omega
      go_enter Tryz.func38, Tryz.ntmps38
      go_wp2_with (go_at_call 65; refine (c1 _).mono ?_; clear c1; rintro e w1 ⟨rfl, rfl⟩)
      go_ret
      exact ⟨by first | rfl | (simp; done) | (simp; omega), (Below.refl _ _).alloc (Nat.le_refl _) _⟩
    have q3 : base.tmod 8 = base % 8 := Int.tmod_eq_emod_of_nonneg (by omega)
    obtain ⟨rb, hrb⟩ : ∃ rb, base % 8 = rb := ⟨_, rfl⟩
    rw [hrb] at q3
    by_cases g7 : ¬ rb = 0
    · obtain rfl : r = false := by cases r; rfl; have := (HR.out.1 rfl).2.2.2.2.2.2.1; omega
      go_enter Tryz.func38, Tryz.ntmps38
      go_wp2_with (go_at_call 65; refine (c1 _).mono ?_; clear c1; rintro e w1 ⟨rfl, rfl⟩)
      go_ret
      exact ⟨by first | rfl | (simp; done) | (simp; omega), (Below.refl _ _).alloc (Nat.le_refl _) _⟩
    obtain rfl : rb = 0 := by omega
    by_cases g8 : ¬ base ≤ 131072 - 3 * term - 128
    · obtain rfl : r = false := by cases r; rfl; have := (HR.out.1 rfl).2.2.2.2.2.2.2; omega
      go_enter Tryz.func38, Tryz.ntmps38
      go_wp2_with (go_at_call 65; refine (c1 _).mono ?_; clear c1; rintro e w1 ⟨rfl, rfl⟩)
      go_ret
      exact ⟨by first | rfl | (simp; done) | (simp; omega), (Below.refl _ _).alloc (Nat.le_refl _) _⟩
    obtain rfl : r = true := HR.out.2 ⟨by omega, by omega, hrm, by omega, by omega, by omega, hrb, by omega⟩
    have g9 : base ≤ 131072 - 3 * term - 128 := by omega
    have g10 : base ≥ 0 := by omega
    go_enter Tryz.func38, Tryz.ntmps38
    go_wp2_with (go_at_call 65; refine (c1 _).mono ?_; clear c1; rintro e w1 ⟨rfl, rfl⟩)
    go_ret
    exact ⟨by first | rfl | (simp; done) | (simp; omega), (Below.refl _ _).alloc (Nat.le_refl _) _⟩
  · have hd : decide l.ok = false := decide_eq_false (fun h => ht (hok.1 h).1)
    rw [hd]
    rw [decide_eq_false ht] at c1
    clear hok hd ht
    obtain ⟨base, term, mtu, subs, ini, ses, str⟩ := l
    unfold Lg.val
    dsimp only at *
    go_enter Tryz.func38, Tryz.ntmps38
    go_wp2_with (go_at_call 65; refine (c1 _).mono ?_; clear c1; rintro e w1 ⟨rfl, rfl⟩)
    go_ret
    exact ⟨by first | rfl | (simp; done) | (simp; omega), (Below.refl _ _).alloc (Nat.le_refl _) _⟩
theorem mR_any (l : Lg) (h : l.ok) (w : World) : Calls Tryz.prog 40 #[l.val] w fun e w' => e = .returned (.int .i64 (l.base + 3 * l.term)) ∧ Below w.heap.size w w' := by
  obtain ⟨h1, h2, h3, h4, h5, h6⟩ := h.bounds
  clear h
  obtain ⟨base, term, mtu, subs, ini, ses, str⟩ := l
  unfold Lg.val
  dsimp only at *
  have k1 : IntKind.i64.wrap (3 * term) = 3 * term := wrap_small _ (by omega) (by omega)
  have k2 : IntKind.i64.wrap (base + 3 * term) = base + 3 * term := wrap_small _ (by omega) (by omega)
  go_enter Tryz.func40, Tryz.ntmps40
  go_wp2
  go_ret
  exact ⟨by first | rfl | simp, (Below.refl _ _).alloc (Nat.le_refl _) _⟩
theorem partAtR_any (l : Lg) (h : l.ok) (p : Int) (h0 : 0 ≤ p) (h1 : p < 3) (w : World) : Calls Tryz.prog 69 #[l.val, .int .i64 p] w fun e w' => e = .returned (.int .i64 (l.base + l.term * p)) ∧ Below w.heap.size w w' := by
  obtain ⟨g1, g2, g3, g4, g5, g6⟩ := h.bounds
  clear h
  obtain ⟨base, term, mtu, subs, ini, ses, str⟩ := l
  unfold Lg.val
  dsimp only at *
  have m0 : 0 ≤ term * p := Int.mul_nonneg (by omega) h0
  have m1 : term * p ≤ 8192 * 3 := Int.mul_le_mul (by omega) (by omega) h0 (by omega)
  have k1 : IntKind.i64.wrap (term * p) = term * p := wrap_small _ (by omega) (by omega)
  have k2 : IntKind.i64.wrap (base + term * p) = base + term * p := wrap_small _ (by omega) (by omega)
  go_enter Tryz.func69, Tryz.ntmps69
  go_wp2
  go_ret
  exact ⟨by first | rfl | simp, (Below.refl _ _).alloc (Nat.le_refl _) _⟩
end Go.Proofs.YtlaogoehmndcjaaGreatDoor.Ba
