/- Does a log stand in bytes? The program's word and the document's. -/
import Derived.Test.YtndgbfpcnkmihaaGreatDoorDocD
import Derived.Deep.RegionHeld3
namespace Go.Proofs.YtndgbfpcnkmihaaGreatDoor.Ba
open Go Go.RowKit Go.Lib Go.Base
theorem size_ok (l : Lg) (h : l.ok) (w : World) : Calls Tryz.prog 61 #[l.val] w fun e w' => e = .returned (.int .i64 (3 * l.term + 128)) ∧ Below w.heap.size w w' :=
  size_any l (by have := h.bounds; omega) (by have := h.bounds; omega) w
set_option maxRecDepth 1000000 in
set_option maxHeartbeats 3200000 in
theorem sizeAt_any (l : Lg) (h : l.ok)  (w : World) :
    Calls Tryz.prog 35 #[l.val] w fun e w' => e = .returned (.int .i64 (3 * l.term + 128)) ∧ Below w.heap.size w w' := by
  have c1 := fun W => size_ok l h W
  have c2 := fun W => at_any l h (3 * l.term + 128) W
  clear h
  obtain ⟨base, term, mtu, subs, ini, ses, str⟩ := l
  unfold Lg.val at c1 c2 ⊢
  dsimp only at *
  obtain ⟨W1, hW1⟩ : ∃ W1, w.alloc (.cells #[.int .i64 base, .int .i64 term, .int .i64 mtu, .int .i64 subs, .int .i32 ini, .int .i32 ses, .int .i32 str] 24) = W1 := ⟨_, rfl⟩
  obtain ⟨A, hA⟩ : ∃ A, w.heap.size = A := ⟨_, rfl⟩
  have u0 : W1.heap[A]? = some (.cells #[.int .i64 base, .int .i64 term, .int .i64 mtu, .int .i64 subs, .int .i32 ini, .int .i32 ses, .int .i32 str] 24 (0, 0)) := by rw [← hW1, ← hA]; exact heap_new _ _
  have u1 : Below A w W1 := by rw [← hW1, ← hA]; exact (Below.refl _ _).alloc (Nat.le_refl _) _
  have u2 : W1.heap.size = A + 1 := by rw [← hW1]; simp [hA]
  have HU := Lib.hid (And.intro u0 (And.intro u1 u2))
  obtain ⟨m0, m1, m2, m3, m4, m5, m6⟩ := blk7 u0
  clear u0 u1 u2
  go_enter Tryz.func35, Tryz.ntmps35
  go_wp2_with fail
  go_region_with
  (first
    | (go_at_call 61
       refine (c1 _).mono ?_
       clear c1
       rintro e w2 ⟨rfl, hB1⟩
       have v0 := (hB1.block A (by have := HU.out.2.2; simp; omega)).trans HU.out.1
       obtain ⟨n0, n1, n2, n3, n4, n5, n6⟩ := blk7 v0
       have HV := Lib.hid (And.intro (HU.out.2.1.drew.trans (hB1.mono (by have := HU.out.2.2; simp; omega))) (show A + 1 ≤ w2.heap.size from Nat.le_trans (Nat.le_of_eq HU.out.2.2.symm) hB1.size))
       clear hB1 v0)
    | (go_at_call 50
       refine (c2 _).mono ?_
       clear c2
       rintro e w3 ⟨rfl, hB2⟩
       have HQ := Lib.hid (HV.out.1.trans (hB2.mono (by have := HV.out.2; first | omega | (simp; omega))))
       clear hB2))
  all_goals go_wp2
  all_goals go_ret
  all_goals refine ⟨by first | rfl | simp, ?_⟩
  all_goals (try rw [hA])
  all_goals exact HQ.out
/-- a log stands in so many bytes -/
def Lg.there (l : Lg) (n : Nat) : Prop := l.ok ∧ l.base + 3 * l.term + 128 ≤ n
instance (l : Lg) (n : Nat) : Decidable (l.there n) := by unfold Lg.there; infer_instance
end Go.Proofs.YtndgbfpcnkmihaaGreatDoor.Ba
