/- Where a log's numbers stand: the rest of the program's reckoning, at a log that may be. -/
import Derived.Test.YtlaogoehmndcjaaGreatDoorMeta2
set_option linter.unusedVariables false
namespace Go.Proofs.YtlaogoehmndcjaaGreatDoor.Ba
open Go Go.RowKit Go.Lib Go.Base
theorem at_any (l : Lg) (h : l.ok) (n : Int) (w : World) :
    Calls Tryz.prog 125 #[l.val, .int .i64 n] w fun e w' => e = .returned (.int .i64 n) ∧ Below w.heap.size w w' := by
  have c := fun W => check_ok l h W
  clear h
  obtain ⟨base, term, mtu, subs, ini, ses, str⟩ := l
  unfold Lg.val at c ⊢
  dsimp only at c ⊢
  have HS := Lib.hid (show Below w.heap.size w (w.alloc (.cells #[.int .i64 base, .int .i64 term, .int .i64 mtu, .int .i64 subs, .int .i32 ini, .int .i32 ses, .int .i32 str] 23)) ∧ (w.alloc (.cells #[.int .i64 base, .int .i64 term, .int .i64 mtu, .int .i64 subs, .int .i32 ini, .int .i32 ses, .int .i32 str] 23)).heap.size = w.heap.size + 1 from ⟨(Below.refl _ _).alloc (Nat.le_refl _) _, by simp⟩)
  go_enter Tryz.func125, Tryz.ntmps125
  go_wp2_with (go_at_call 36; refine (c _).mono ?_; clear c; rintro e w1 ⟨rfl, hB⟩; have HB := Lib.hid hB; clear hB)
  go_ret
  exact ⟨by first | rfl | simp, HS.out.1.trans (HB.out.mono (by have := HS.out.2; omega))⟩
set_option maxRecDepth 1000000 in
set_option maxHeartbeats 3200000 in
theorem subAt_any (l : Lg) (h : l.ok) (p : Int) (h0 : 0 ≤ p) (h1 : p < l.subs) (w : World) :
    Calls Tryz.prog 84 #[l.val, .int .i64 p] w fun e w' => e = .returned (.int .i64 (l.base + 3 * l.term + 48 + p * 8)) ∧ Below w.heap.size w w' := by
  have hb := h.bounds
  have c1 := fun W => numbers_any l h W
  have c2 := fun W => one_any l h (l.base + 3 * l.term + 48) p l.subs 8 h0 h1 (by omega) (by omega) (by omega) (by omega) (by omega) W
  clear h
  obtain ⟨base, term, mtu, subs, ini, ses, str⟩ := l
  unfold Lg.val at c1 c2 ⊢
  dsimp only at *
  obtain ⟨m, hm⟩ : ∃ m, base + 3 * term = m := ⟨_, rfl⟩
  have hmb : 0 ≤ m ∧ m ≤ 160000 := by omega
  have kw : IntKind.i64.wrap (m + 48) = m + 48 := wrap_small _ (by omega) (by omega)
  rw [hm] at c1 c2 ⊢
  obtain ⟨W1, hW1⟩ : ∃ W1, w.alloc (.cells #[.int .i64 base, .int .i64 term, .int .i64 mtu, .int .i64 subs, .int .i32 ini, .int .i32 ses, .int .i32 str] 23) = W1 := ⟨_, rfl⟩
  obtain ⟨A, hA⟩ : ∃ A, w.heap.size = A := ⟨_, rfl⟩
  have u0 : W1.heap[A]? = some (.cells #[.int .i64 base, .int .i64 term, .int .i64 mtu, .int .i64 subs, .int .i32 ini, .int .i32 ses, .int .i32 str] 23 (0, 0)) := by rw [← hW1, ← hA]; exact heap_new _ _
  have u1 : Below A w W1 := by rw [← hW1, ← hA]; exact (Below.refl _ _).alloc (Nat.le_refl _) _
  have u2 : W1.heap.size = A + 1 := by rw [← hW1]; simp [hA]
  have HU := Lib.hid (And.intro u0 (And.intro u1 u2))
  obtain ⟨m0, m1, m2, m3, m4, m5, m6⟩ := blk7 u0
  clear u0 u1 u2 hm
  go_enter Tryz.func84, Tryz.ntmps84
  go_wp2_with fail
  go_region_with
  (first
    | (go_at_call 124
       refine (c1 _).mono ?_
       clear c1
       rintro e w2 ⟨rfl, hB1⟩
       have v0 := (hB1.block A (by have := HU.out.2.2; simp; omega)).trans HU.out.1
       obtain ⟨n0, n1, n2, n3, n4, n5, n6⟩ := blk7 v0
       have HV := Lib.hid (And.intro (HU.out.2.1.drew.trans (hB1.mono (by have := HU.out.2.2; simp; omega))) (show A + 1 ≤ w2.heap.size from Nat.le_trans (Nat.le_of_eq HU.out.2.2.symm) hB1.size))
       clear hB1 v0)
    | (go_at_call 123
       refine (c2 _).mono ?_
       clear c2
       rintro e w3 ⟨rfl, hB2⟩
       have HQ := Lib.hid (HV.out.1.trans (hB2.mono (by have := HV.out.2; first | omega | (simp; omega))))
       clear hB2))
  all_goals go_wp2
  all_goals go_ret
  all_goals refine ⟨by first | rfl | simp, ?_⟩
  all_goals (try rw [hA])
  all_goals exact HQ.out
set_option maxRecDepth 1000000 in
set_option maxHeartbeats 3200000 in
theorem activeAt_any (l : Lg) (h : l.ok)  (w : World) :
    Calls Tryz.prog 80 #[l.val] w fun e w' => e = .returned (.int .i64 (l.base + 3 * l.term + 24)) ∧ Below w.heap.size w w' := by
  have hb := h.bounds
  have c1 := fun W => numbers_any l h W
  have c2 := fun W => at_any l h (l.base + 3 * l.term + 24) W
  clear h
  obtain ⟨base, term, mtu, subs, ini, ses, str⟩ := l
  unfold Lg.val at c1 c2 ⊢
  dsimp only at *
  obtain ⟨m, hm⟩ : ∃ m, base + 3 * term = m := ⟨_, rfl⟩
  have hmb : 0 ≤ m ∧ m ≤ 160000 := by omega
  have kw : IntKind.i64.wrap (m + 24) = m + 24 := wrap_small _ (by omega) (by omega)
  rw [hm] at c1 c2 ⊢
  obtain ⟨W1, hW1⟩ : ∃ W1, w.alloc (.cells #[.int .i64 base, .int .i64 term, .int .i64 mtu, .int .i64 subs, .int .i32 ini, .int .i32 ses, .int .i32 str] 23) = W1 := ⟨_, rfl⟩
  obtain ⟨A, hA⟩ : ∃ A, w.heap.size = A := ⟨_, rfl⟩
  have u0 : W1.heap[A]? = some (.cells #[.int .i64 base, .int .i64 term, .int .i64 mtu, .int .i64 subs, .int .i32 ini, .int .i32 ses, .int .i32 str] 23 (0, 0)) := by rw [← hW1, ← hA]; exact heap_new _ _
  have u1 : Below A w W1 := by rw [← hW1, ← hA]; exact (Below.refl _ _).alloc (Nat.le_refl _) _
  have u2 : W1.heap.size = A + 1 := by rw [← hW1]; simp [hA]
  have HU := Lib.hid (And.intro u0 (And.intro u1 u2))
  obtain ⟨m0, m1, m2, m3, m4, m5, m6⟩ := blk7 u0
  clear u0 u1 u2 hm
  go_enter Tryz.func80, Tryz.ntmps80
  go_wp2_with fail
  go_region_with
  (first
    | (go_at_call 124
       refine (c1 _).mono ?_
       clear c1
       rintro e w2 ⟨rfl, hB1⟩
       have v0 := (hB1.block A (by have := HU.out.2.2; simp; omega)).trans HU.out.1
       obtain ⟨n0, n1, n2, n3, n4, n5, n6⟩ := blk7 v0
       have HV := Lib.hid (And.intro (HU.out.2.1.drew.trans (hB1.mono (by have := HU.out.2.2; simp; omega))) (show A + 1 ≤ w2.heap.size from Nat.le_trans (Nat.le_of_eq HU.out.2.2.symm) hB1.size))
       clear hB1 v0)
    | (go_at_call 125
       refine (c2 _).mono ?_
       clear c2
       rintro e w3 ⟨rfl, hB2⟩
       have HQ := Lib.hid (HV.out.1.trans (hB2.mono (by have := HV.out.2; first | omega | (simp; omega))))
       clear hB2))
  all_goals go_wp2
  all_goals go_ret
  all_goals refine ⟨by first | rfl | simp, ?_⟩
  all_goals (try rw [hA])
  all_goals exact HQ.out
set_option maxRecDepth 1000000 in
set_option maxHeartbeats 3200000 in
theorem limitAt_any (l : Lg) (h : l.ok)  (w : World) :
    Calls Tryz.prog 81 #[l.val] w fun e w' => e = .returned (.int .i64 (l.base + 3 * l.term + 32)) ∧ Below w.heap.size w w' := by
  have hb := h.bounds
  have c1 := fun W => numbers_any l h W
  have c2 := fun W => at_any l h (l.base + 3 * l.term + 32) W
  clear h
  obtain ⟨base, term, mtu, subs, ini, ses, str⟩ := l
  unfold Lg.val at c1 c2 ⊢
  dsimp only at *
  obtain ⟨m, hm⟩ : ∃ m, base + 3 * term = m := ⟨_, rfl⟩
  have hmb : 0 ≤ m ∧ m ≤ 160000 := by omega
  have kw : IntKind.i64.wrap (m + 32) = m + 32 := wrap_small _ (by omega) (by omega)
  rw [hm] at c1 c2 ⊢
  obtain ⟨W1, hW1⟩ : ∃ W1, w.alloc (.cells #[.int .i64 base, .int .i64 term, .int .i64 mtu, .int .i64 subs, .int .i32 ini, .int .i32 ses, .int .i32 str] 23) = W1 := ⟨_, rfl⟩
  obtain ⟨A, hA⟩ : ∃ A, w.heap.size = A := ⟨_, rfl⟩
  have u0 : W1.heap[A]? = some (.cells #[.int .i64 base, .int .i64 term, .int .i64 mtu, .int .i64 subs, .int .i32 ini, .int .i32 ses, .int .i32 str] 23 (0, 0)) := by rw [← hW1, ← hA]; exact heap_new _ _
  have u1 : Below A w W1 := by rw [← hW1, ← hA]; exact (Below.refl _ _).alloc (Nat.le_refl _) _
  have u2 : W1.heap.size = A + 1 := by rw [← hW1]; simp [hA]
  have HU := Lib.hid (And.intro u0 (And.intro u1 u2))
  obtain ⟨m0, m1, m2, m3, m4, m5, m6⟩ := blk7 u0
  clear u0 u1 u2 hm
  go_enter Tryz.func81, Tryz.ntmps81
  go_wp2_with fail
  go_region_with
  (first
    | (go_at_call 124
       refine (c1 _).mono ?_
       clear c1
       rintro e w2 ⟨rfl, hB1⟩
       have v0 := (hB1.block A (by have := HU.out.2.2; simp; omega)).trans HU.out.1
       obtain ⟨n0, n1, n2, n3, n4, n5, n6⟩ := blk7 v0
       have HV := Lib.hid (And.intro (HU.out.2.1.drew.trans (hB1.mono (by have := HU.out.2.2; simp; omega))) (show A + 1 ≤ w2.heap.size from Nat.le_trans (Nat.le_of_eq HU.out.2.2.symm) hB1.size))
       clear hB1 v0)
    | (go_at_call 125
       refine (c2 _).mono ?_
       clear c2
       rintro e w3 ⟨rfl, hB2⟩
       have HQ := Lib.hid (HV.out.1.trans (hB2.mono (by have := HV.out.2; first | omega | (simp; omega))))
       clear hB2))
  all_goals go_wp2
  all_goals go_ret
  all_goals refine ⟨by first | rfl | simp, ?_⟩
  all_goals (try rw [hA])
  all_goals exact HQ.out
set_option maxRecDepth 1000000 in
set_option maxHeartbeats 3200000 in
theorem cleanAt_any (l : Lg) (h : l.ok)  (w : World) :
    Calls Tryz.prog 83 #[l.val] w fun e w' => e = .returned (.int .i64 (l.base + 3 * l.term + 40)) ∧ Below w.heap.size w w' := by
  have hb := h.bounds
  have c1 := fun W => numbers_any l h W
  have c2 := fun W => at_any l h (l.base + 3 * l.term + 40) W
  clear h
  obtain ⟨base, term, mtu, subs, ini, ses, str⟩ := l
  unfold Lg.val at c1 c2 ⊢
  dsimp only at *
  obtain ⟨m, hm⟩ : ∃ m, base + 3 * term = m := ⟨_, rfl⟩
  have hmb : 0 ≤ m ∧ m ≤ 160000 := by omega
  have kw : IntKind.i64.wrap (m + 40) = m + 40 := wrap_small _ (by omega) (by omega)
  rw [hm] at c1 c2 ⊢
  obtain ⟨W1, hW1⟩ : ∃ W1, w.alloc (.cells #[.int .i64 base, .int .i64 term, .int .i64 mtu, .int .i64 subs, .int .i32 ini, .int .i32 ses, .int .i32 str] 23) = W1 := ⟨_, rfl⟩
  obtain ⟨A, hA⟩ : ∃ A, w.heap.size = A := ⟨_, rfl⟩
  have u0 : W1.heap[A]? = some (.cells #[.int .i64 base, .int .i64 term, .int .i64 mtu, .int .i64 subs, .int .i32 ini, .int .i32 ses, .int .i32 str] 23 (0, 0)) := by rw [← hW1, ← hA]; exact heap_new _ _
  have u1 : Below A w W1 := by rw [← hW1, ← hA]; exact (Below.refl _ _).alloc (Nat.le_refl _) _
  have u2 : W1.heap.size = A + 1 := by rw [← hW1]; simp [hA]
  have HU := Lib.hid (And.intro u0 (And.intro u1 u2))
  obtain ⟨m0, m1, m2, m3, m4, m5, m6⟩ := blk7 u0
  clear u0 u1 u2 hm
  go_enter Tryz.func83, Tryz.ntmps83
  go_wp2_with fail
  go_region_with
  (first
    | (go_at_call 124
       refine (c1 _).mono ?_
       clear c1
       rintro e w2 ⟨rfl, hB1⟩
       have v0 := (hB1.block A (by have := HU.out.2.2; simp; omega)).trans HU.out.1
       obtain ⟨n0, n1, n2, n3, n4, n5, n6⟩ := blk7 v0
       have HV := Lib.hid (And.intro (HU.out.2.1.drew.trans (hB1.mono (by have := HU.out.2.2; simp; omega))) (show A + 1 ≤ w2.heap.size from Nat.le_trans (Nat.le_of_eq HU.out.2.2.symm) hB1.size))
       clear hB1 v0)
    | (go_at_call 125
       refine (c2 _).mono ?_
       clear c2
       rintro e w3 ⟨rfl, hB2⟩
       have HQ := Lib.hid (HV.out.1.trans (hB2.mono (by have := HV.out.2; first | omega | (simp; omega))))
       clear hB2))
  all_goals go_wp2
  all_goals go_ret
  all_goals refine ⟨by first | rfl | simp, ?_⟩
  all_goals (try rw [hA])
  all_goals exact HQ.out
set_option maxRecDepth 1000000 in
set_option maxHeartbeats 3200000 in
theorem partAt_any (l : Lg) (h : l.ok) (p : Int) (h0 : 0 ≤ p) (h1 : p < 3) (w : World) :
    Calls Tryz.prog 130 #[l.val, .int .i64 p] w fun e w' => e = .returned (.int .i64 (l.base + p * l.term)) ∧ Below w.heap.size w w' := by
  have hb := h.bounds
  have c2 := fun W => one_any l h l.base p 3 l.term h0 h1 (by omega) (by omega) (by omega) (by omega) (by omega) W
  clear h
  obtain ⟨base, term, mtu, subs, ini, ses, str⟩ := l
  unfold Lg.val at c2 ⊢
  dsimp only at *
  have HS := Lib.hid (show Below w.heap.size w (w.alloc (.cells #[.int .i64 base, .int .i64 term, .int .i64 mtu, .int .i64 subs, .int .i32 ini, .int .i32 ses, .int .i32 str] 23)) ∧ (w.alloc (.cells #[.int .i64 base, .int .i64 term, .int .i64 mtu, .int .i64 subs, .int .i32 ini, .int .i32 ses, .int .i32 str] 23)).heap.size = w.heap.size + 1 from ⟨(Below.refl _ _).alloc (Nat.le_refl _) _, by simp⟩)
  go_enter Tryz.func130, Tryz.ntmps130
  go_wp2_with (go_at_call 123; refine (c2 _).mono ?_; clear c2; rintro e w1 ⟨rfl, hB⟩; have HB := Lib.hid hB; clear hB)
  go_ret
  exact ⟨by first | rfl | simp, HS.out.1.trans (HB.out.mono (by have := HS.out.2; omega))⟩
end Go.Proofs.YtlaogoehmndcjaaGreatDoor.Ba
