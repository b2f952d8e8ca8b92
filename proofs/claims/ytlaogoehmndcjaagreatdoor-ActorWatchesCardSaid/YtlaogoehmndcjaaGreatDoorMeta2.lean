/- Where a log's numbers stand: the program's reckoning, at a log that may be. -/
import Derived.Test.YtlaogoehmndcjaaGreatDoorMeta
set_option linter.unusedVariables false
namespace Go.Proofs.YtlaogoehmndcjaaGreatDoor.Ba
open Go Go.RowKit Go.Lib Go.Base
theorem Lg.ok.bounds {l : Lg} (h : l.ok) : 0 ≤ l.base ∧ l.base ≤ 131072 ∧ 256 ≤ l.term ∧ l.term ≤ 8192 ∧ 1 ≤ l.subs ∧ l.subs ≤ 8 := by
  obtain ⟨ht, _, _, _, h1, h2, h3, _, h5⟩ := h
  rcases ht with h | h | h | h | h | h <;> (refine ⟨h3, by omega, by omega, by omega, h1, h2⟩)
theorem Lg.ok.wf {l : Lg} (h : l.ok) : l.wf := by
  have hm : l.mtu ≤ l.term / 8 := h.2.2.1
  have hm0 : 32 ≤ l.mtu := h.2.1
  obtain ⟨h1, h2, h3, h4, h5, h6⟩ := h.bounds
  exact ⟨by omega, by omega, by omega, by omega, by omega, by omega, by omega, by omega⟩
theorem check_ok (l : Lg) (h : l.ok) (w : World) : Calls Tryz.prog 36 #[l.val] w fun e w' => e = .returned (.int .i64 0) ∧ Below w.heap.size w w' := by
  have := check_any l h.wf w
  rw [decide_eq_true h] at this
  exact this
theorem numbers_any (l : Lg) (h : l.ok) (w : World) : Calls Tryz.prog 124 #[l.val] w fun e w' => e = .returned (.int .i64 (l.base + 3 * l.term)) ∧ Below w.heap.size w w' := by
  obtain ⟨h1, h2, h3, h4, h5, h6⟩ := h.bounds
  clear h
  obtain ⟨base, term, mtu, subs, ini, ses, str⟩ := l
  unfold Lg.val
  dsimp only at *
  have k1 : IntKind.i64.wrap (3 * term) = 3 * term := wrap_small _ (by omega) (by omega)
  have k2 : IntKind.i64.wrap (base + 3 * term) = base + 3 * term := wrap_small _ (by omega) (by omega)
  go_enter Tryz.func124, Tryz.ntmps124
  go_wp2
  go_ret
  exact ⟨by first | rfl | simp, (Below.refl _ _).alloc (Nat.le_refl _) _⟩
set_option maxRecDepth 1000000 in
set_option maxHeartbeats 3200000 in
theorem one_any (l : Lg) (h : l.ok) (fr i many wide : Int) (h0 : 0 ≤ i) (h1 : i < many) (hm : many ≤ 100) (hf0 : 0 ≤ fr) (hf1 : fr ≤ 1000000) (hw0 : 0 ≤ wide) (hw1 : wide ≤ 100000) (w : World) :
    Calls Tryz.prog 123 #[l.val, .int .i64 fr, .int .i64 i, .int .i64 many, .int .i64 wide] w fun e w' => e = .returned (.int .i64 (fr + i * wide)) ∧ Below w.heap.size w w' := by
  have c := fun W => check_ok l h W
  have hiw : 0 ≤ i * wide := Int.mul_nonneg h0 hw0
  have hiw2 : i * wide ≤ 100 * 100000 := Int.mul_le_mul (by omega) hw1 hw0 (by omega)
  have k1 : IntKind.i64.wrap (i * wide) = i * wide := wrap_small _ (by omega) (by omega)
  have k2 : IntKind.i64.wrap (fr + i * wide) = fr + i * wide := wrap_small _ (by omega) (by omega)
  have g1 : ¬ i < 0 := by omega
  have g2 : ¬ i ≥ many := by omega
  obtain ⟨p, hp⟩ : ∃ p, i * wide = p := ⟨_, rfl⟩
  rw [hp] at k1 k2 ⊢
  clear h
  obtain ⟨base, term, mtu, subs, ini, ses, str⟩ := l
  unfold Lg.val at c ⊢
  dsimp only at c ⊢
  have HS := Lib.hid (show Below w.heap.size w (w.alloc (.cells #[.int .i64 base, .int .i64 term, .int .i64 mtu, .int .i64 subs, .int .i32 ini, .int .i32 ses, .int .i32 str] 23)) ∧ (w.alloc (.cells #[.int .i64 base, .int .i64 term, .int .i64 mtu, .int .i64 subs, .int .i32 ini, .int .i32 ses, .int .i32 str] 23)).heap.size = w.heap.size + 1 from ⟨(Below.refl _ _).alloc (Nat.le_refl _) _, by simp⟩)
  go_enter Tryz.func123, Tryz.ntmps123
  go_wp2_with (go_at_call 36; refine (c _).mono ?_; clear c; rintro e w1 ⟨rfl, hB⟩; have HB := Lib.hid hB; clear hB)
  go_ret
  exact ⟨by first | rfl | simp, HS.out.1.trans (HB.out.mono (by have := HS.out.2; omega))⟩
set_option maxRecDepth 1000000 in
set_option maxHeartbeats 3200000 in
theorem tailAt_any (l : Lg) (h : l.ok) (p : Int) (h0 : 0 ≤ p) (h1 : p < 3) (w : World) :
    Calls Tryz.prog 78 #[l.val, .int .i64 p] w fun e w' => e = .returned (.int .i64 (l.base + 3 * l.term + p * 8)) ∧ Below w.heap.size w w' := by
  have hb := h.bounds
  have c1 := fun W => numbers_any l h W
  have c2 := fun W => one_any l h (l.base + 3 * l.term) p 3 8 h0 h1 (by omega) (by omega) (by omega) (by omega) (by omega) W
  clear h
  obtain ⟨base, term, mtu, subs, ini, ses, str⟩ := l
  unfold Lg.val at c1 c2 ⊢
  dsimp only at c1 c2 hb ⊢
  obtain ⟨m, hm⟩ : ∃ m, base + 3 * term = m := ⟨_, rfl⟩
  rw [hm] at c1 c2 ⊢
  obtain ⟨W1, hW1⟩ : ∃ W1, w.alloc (.cells #[.int .i64 base, .int .i64 term, .int .i64 mtu, .int .i64 subs, .int .i32 ini, .int .i32 ses, .int .i32 str] 23) = W1 := ⟨_, rfl⟩
  obtain ⟨A, hA⟩ : ∃ A, w.heap.size = A := ⟨_, rfl⟩
  have u0 : W1.heap[A]? = some (.cells #[.int .i64 base, .int .i64 term, .int .i64 mtu, .int .i64 subs, .int .i32 ini, .int .i32 ses, .int .i32 str] 23 (0, 0)) := by rw [← hW1, ← hA]; exact heap_new _ _
  have u1 : Below A w W1 := by rw [← hW1, ← hA]; exact (Below.refl _ _).alloc (Nat.le_refl _) _
  have u2 : W1.heap.size = A + 1 := by rw [← hW1]; simp [hA]
  have HU := Lib.hid (And.intro u0 (And.intro u1 u2))
  obtain ⟨m0, m1, m2, m3, m4, m5, m6⟩ := blk7 u0
  clear u0 u1 u2
  go_enter Tryz.func78, Tryz.ntmps78
  go_wp2_with fail
  go_region_with
  (first
    | (go_at_call 124
       refine (c1 _).mono ?_
       clear c1
       rintro e w2 ⟨rfl, hB1⟩
       have v0 := (hB1.block A (by have := HU.out.2.2; simp; omega)).trans HU.out.1
       obtain ⟨n0, n1, n2, n3, n4, n5, n6⟩ := blk7 v0
       have HV := Lib.hid (And.intro (HU.out.2.1.drew.trans (hB1.mono (by have := HU.out.2.2; simp; omega))) (show A + 1 ≤ w2.heap.size from Nat.le_trans (Nat.le_of_eq HU.out.2.2.symm) hB1.size))
       clear hB1 v0)
    | (go_at_call 123
       refine (c2 _).mono ?_
       clear c2
       rintro e w3 ⟨rfl, hB2⟩
       have HQ := Lib.hid (HV.out.1.trans (hB2.mono (by have := HV.out.2; first | omega | (simp; omega))))
       clear hB2))
  all_goals go_wp2
  all_goals go_ret
  all_goals refine ⟨by first | rfl | simp, ?_⟩
  all_goals (try rw [hA])
  all_goals exact HQ.out
end Go.Proofs.YtlaogoehmndcjaaGreatDoor.Ba
