/- InspectTells: where no frame stands, and where no log does; all cases joined. -/
import Derived.Test.YtndgbfpcnkmihaaGreatDoorTelB
namespace Go.Proofs.YtndgbfpcnkmihaaGreatDoor.Sy
open Go Go.RowKit Go.Lib Go.Base Go.Proofs.YtndgbfpcnkmihaaGreatDoor.Ba Go.Proofs.YtndgbfpcnkmihaaGreatDoor
set_option maxRecDepth 1000000
set_option maxHeartbeats 6400000
theorem law_nil (l : Lg) (B : Nat → Nat) (bb bo bn bc : Nat) (st part : Int) (a0 a1 a2 a3 a4 a5 : Int) (vs : List Int) (hvs : 1 ≤ vs.length ∧ vs.length ≤ 8) (hn : bn ≤ 5000)
    (n6 : NumsC 6 l B bb bo bn bc a0 a1 a2 a3 a4 a5 vs) (n7 : NumsC 7 l B bb bo bn bc a0 a1 a2 a3 a4 a5 vs) (f8 : FramesC 8 l B bb bo bn bc []) (f9 : FramesC 9 l B bb bo bn bc []) (w : World) (hlt : bb < w.heap.size) (hr : ReadsB w bb bo bn B) :
    Calls Tryz.prog 3 #[.slice (some ⟨bb, bo, none⟩) bn bc, .agg #[.int .i64 l.base, .int .i64 l.term, .int .i64 l.mtu, .int .i64 l.subs, .int .i32 l.ini, .int .i32 l.ses, .int .i32 l.str], .int .i64 st, .int .i64 part] w fun e w' => e = .returned (.bool true) ∧ Below w.heap.size w w' := by
  have h1 : ¬ (bn : Int) > 5000 := by omega
  obtain ⟨W1, hW1⟩ : ∃ W1, w.alloc (.cells #[.int .i64 l.base, .int .i64 l.term, .int .i64 l.mtu, .int .i64 l.subs, .int .i32 l.ini, .int .i32 l.ses, .int .i32 l.str] 24) = W1 := ⟨_, rfl⟩
  obtain ⟨A, hA⟩ : ∃ A, w.heap.size = A := ⟨_, rfl⟩
  have u0 : W1.heap[A]? = some (.cells #[.int .i64 l.base, .int .i64 l.term, .int .i64 l.mtu, .int .i64 l.subs, .int .i32 l.ini, .int .i32 l.ses, .int .i32 l.str] 24) := by rw [← hW1, ← hA]; exact heap_new _ _
  have u1 : Below A w W1 := by rw [← hW1, ← hA]; exact (Below.refl _ _).alloc (Nat.le_refl _) _
  have u2 : W1.heap.size = A + 1 := by rw [← hW1]; simp [hA]
  have hr1 : ReadsB W1 bb bo bn B := hr.below (s := A) (by omega) u1
  have HU := Lib.hid (And.intro u0 (And.intro u1 (And.intro u2 hr1)))
  clear u0 u1 u2 hr hr1
  go_enter Tryz.func3, Tryz.ntmps3
  go_wp2_with (go_at_call 5; refine (fixed _).mono ?_; rintro e w2 ⟨rfl, hB2⟩
               have b2 : Below (A + 1) W1 w2 := by rw [← HU.out.2.2.1]; exact hB2
               obtain ⟨m0, m1, m2, m3, m4, m5, m6⟩ := blk7 ((b2.block A (by omega)).trans HU.out.1)
               have H2 := Lib.hid b2
               clear hB2 b2)
  go_wp2_with (go_at_call 6; refine (n6 _ (by have := H2.out.size; have := HU.out.2.2.1; omega) (HU.out.2.2.2.below (by omega) H2.out)).mono ?_
               rintro e w3 ⟨g1, o1, k1, rfl, hg1, hB3⟩
               obtain ⟨Y3, hY3⟩ : ∃ Y3, w3.heap.size = Y3 := ⟨_, rfl⟩
               obtain ⟨V3, hV3⟩ : ∃ V3, w3.alloc (.cells #[.int .u32 a0, .int .u64 a1, .int .u64 a2, .int .u64 a3, .int .i64 a4, .int .i64 a5, .slice (some ⟨g1, o1, none⟩) vs.length k1] 31) = V3 := ⟨_, rfl⟩
               have b3 : Below (A + 1) W1 w3 := H2.out.trans (hB3.mono (by have := H2.out.size; have := HU.out.2.2.1; omega))
               have bb3 : Below (A + 1) W1 V3 := by rw [← hV3]; exact b3.alloc (by have := b3.size; have := HU.out.2.2.1; omega) _
               have hy3 : V3.heap[Y3]? = some (.cells #[.int .u32 a0, .int .u64 a1, .int .u64 a2, .int .u64 a3, .int .i64 a4, .int .i64 a5, .slice (some ⟨g1, o1, none⟩) vs.length k1] 31) := by rw [← hV3, ← hY3]; exact heap_new _ _
               have hg1' : ViewAt V3 g1 o1 vs := by rw [← hV3]; exact (ViewAt.mk' hvs.1 hg1).below ((Below.refl _ _).alloc (Nat.le_refl _) _)
               obtain ⟨m0, m1, m2, m3, m4, m5, m6⟩ := blk7 ((bb3.block A (by omega)).trans HU.out.1)
               have H3 := Lib.hid (And.intro bb3 (And.intro hy3 hg1'))
               clear hB3 b3 bb3 hy3 hg1 hg1')
  go_wp2_with (go_at_call 7; refine (n7 _ (by have := H3.out.1.size; have := HU.out.2.2.1; omega) (HU.out.2.2.2.below (by omega) H3.out.1)).mono ?_
               rintro e w4 ⟨g2, o2, k2, rfl, hg2, hB4⟩
               obtain ⟨Y4, hY4⟩ : ∃ Y4, w4.heap.size = Y4 := ⟨_, rfl⟩
               obtain ⟨V4, hV4⟩ : ∃ V4, w4.alloc (.cells #[.int .u32 a0, .int .u64 a1, .int .u64 a2, .int .u64 a3, .int .i64 a4, .int .i64 a5, .slice (some ⟨g2, o2, none⟩) vs.length k2] 31) = V4 := ⟨_, rfl⟩
               have bV : Below V3.heap.size V3 V4 := by rw [← hV4]; exact hB4.alloc hB4.size _
               have bb4 : Below (A + 1) W1 V4 := H3.out.1.trans (bV.mono (by have := H3.out.1.size; have := HU.out.2.2.1; omega))
               have hy4 : V4.heap[Y4]? = some (.cells #[.int .u32 a0, .int .u64 a1, .int .u64 a2, .int .u64 a3, .int .i64 a4, .int .i64 a5, .slice (some ⟨g2, o2, none⟩) vs.length k2] 31) := by rw [← hV4, ← hY4]; exact heap_new _ _
               have hg2' : ViewAt V4 g2 o2 vs := by rw [← hV4]; exact (ViewAt.mk' hvs.1 hg2).below ((Below.refl _ _).alloc (Nat.le_refl _) _)
               have hy3 := (bV.block Y3 (Array.getElem?_eq_some_iff.1 H3.out.2.1).1).trans H3.out.2.1
               have hg1' := H3.out.2.2.below bV
               obtain ⟨m0, m1, m2, m3, m4, m5, m6⟩ := blk7 ((bb4.block A (by omega)).trans HU.out.1)
               have H4 := Lib.hid (And.intro bb4 (And.intro (And.intro hy3 hg1') (And.intro hy4 hg2')))
               clear hB4 bV bb4 hy3 hy4 hg2 hg1' hg2')
  go_wp2_with (go_at_call 8; refine (f8 _ (by have := H4.out.1.size; have := HU.out.2.2.1; omega) (HU.out.2.2.2.below (by omega) H4.out.1)).mono ?_
               rintro e w5 ⟨s1, rfl, ⟨r1, c1, rfl, hx1⟩, hB5⟩
               rw [List.length_nil]
               have bb5 : Below (A + 1) W1 w5 := H4.out.1.trans (hB5.mono (by have := H4.out.1.size; have := HU.out.2.2.1; omega))
               obtain ⟨m0, m1, m2, m3, m4, m5, m6⟩ := blk7 ((bb5.block A (by omega)).trans HU.out.1)
               have H5 := Lib.hid (And.intro bb5 hB5)
               clear bb5 hx1 hB5)
  go_wp2_with (go_at_call 9; refine (f9 _ (by have := H5.out.1.size; have := HU.out.2.2.1; omega) (HU.out.2.2.2.below (by omega) H5.out.1)).mono ?_
               rintro e w6 ⟨s2, rfl, ⟨r2, c2, rfl, hx2⟩, hB6⟩
               rw [List.length_nil]
               have H6 := Lib.hid (And.intro (H5.out.1.trans (hB6.mono (by have := H5.out.1.size; have := HU.out.2.2.1; omega))) hB6)
               clear hx2 hB6)
  clear n6 n7 f8 f9
  have bR : Below V4.heap.size V4 w6 := H5.out.2.trans (H6.out.2.mono H5.out.2.size)
  have y3 := (bR.block Y3 (Array.getElem?_eq_some_iff.1 H4.out.2.1.1).1).trans H4.out.2.1.1
  have y4 := (bR.block Y4 (Array.getElem?_eq_some_iff.1 H4.out.2.2.1).1).trans H4.out.2.2.1
  have c10 := same_view a0 a1 a2 a3 a4 a5 vs hvs g1 o1 k1 g2 o2 k2 w6 (H4.out.2.1.2.below bR) (H4.out.2.2.2.below bR)
  have HS := Lib.hid (show Below w.heap.size w w6 by
    rw [hA]
    exact HU.out.2.1.trans ((H4.out.1.trans (bR.mono (by have := H4.out.1.size; have := HU.out.2.2.1; omega))).mono (by omega)))
  obtain ⟨p0, p1, p2, p3, p4, p5, p6⟩ := blkV7 y3
  obtain ⟨q0, q1, q2, q3, q4, q5, q6⟩ := blkV7 y4
  clear bR y3 y4
  refine wp_loop_rounds 1 ?_
  rw [rounds_succ]
  go_wp2_with (go_at_call 10; refine c10.mono ?_; clear c10; rintro e z1 ⟨rfl, hZ1⟩; have HS1 := Lib.hid (HS.out.trans (hZ1.mono HS.out.size)); clear hZ1)
  go_wp2_with (go_at_call 11; refine (same_none _ _ _ _ _).mono ?_; rintro e z2 ⟨rfl, hZ2⟩; have HS2 := Lib.hid (HS1.out.trans (hZ2.mono HS1.out.size)); clear hZ2)
  go_wp2_with (first | (go_at_call 12; refine (count_none _ _ _ _).mono ?_; rintro e w' ⟨rfl, rfl⟩) | (go_at_call 13; refine (filled_none _ _ _ _).mono ?_; rintro e w' ⟨rfl, rfl⟩) | (go_at_call 14; refine (filledR_none _ _ _ _).mono ?_; rintro e w' ⟨rfl, rfl⟩))
  go_ret
  exact ⟨rfl, HS2.out⟩
theorem law_no (l : Lg) (hw : l.wf) (ba : Option Addr) (bn bc : Nat) (st part : Int) (hbn : bn < 4611686018427387904) (hth : ¬ l.there bn) (hn : bn ≤ 5000) (w : World) :
    Calls Tryz.prog 3 #[.slice ba bn bc, .agg #[.int .i64 l.base, .int .i64 l.term, .int .i64 l.mtu, .int .i64 l.subs, .int .i32 l.ini, .int .i32 l.ses, .int .i32 l.str], .int .i64 st, .int .i64 part] w fun e w' => e = .returned (.bool true) ∧ Below w.heap.size w w' := by
  have h1 : ¬ (bn : Int) > 5000 := by omega
  have hx : ∃ (a : Int) (z : Nat), (∀ W, Calls Tryz.prog 6 #[.slice ba bn bc, .agg #[.int .i64 l.base, .int .i64 l.term, .int .i64 l.mtu, .int .i64 l.subs, .int .i32 l.ini, .int .i32 l.ses, .int .i32 l.str]] W fun e w' => e = .returned (.tuple #[.agg #[.int .u32 a, .int .u64 a, .int .u64 a, .int .u64 a, .int .i64 a, .int .i64 a, .slice none z z], .int .i64 1]) ∧ Below W.heap.size W w') ∧
      (∀ W, Calls Tryz.prog 7 #[.slice ba bn bc, .agg #[.int .i64 l.base, .int .i64 l.term, .int .i64 l.mtu, .int .i64 l.subs, .int .i32 l.ini, .int .i32 l.ses, .int .i32 l.str]] W fun e w' => e = .returned (.tuple #[.agg #[.int .u32 a, .int .u64 a, .int .u64 a, .int .u64 a, .int .i64 a, .int .i64 a, .slice none z z], .int .i64 1]) ∧ Below W.heap.size W w') ∧
      (∀ W, Calls Tryz.prog 10 #[.agg #[.int .u32 a, .int .u64 a, .int .u64 a, .int .u64 a, .int .i64 a, .int .i64 a, .slice none z z], .agg #[.int .u32 a, .int .u64 a, .int .u64 a, .int .u64 a, .int .i64 a, .int .i64 a, .slice none z z]] W fun e w' => e = .returned (.bool true) ∧ Below W.heap.size W w') :=
    ⟨0, 0, fun W => numsNo0 l hw ba bn bc hbn hth W, fun W => numsRNo0 l hw ba bn bc hbn hth W, fun W => sameV0_0 W⟩
  obtain ⟨a, z, n6, n7, n10⟩ := hx
  obtain ⟨W1, hW1⟩ : ∃ W1, w.alloc (.cells #[.int .i64 l.base, .int .i64 l.term, .int .i64 l.mtu, .int .i64 l.subs, .int .i32 l.ini, .int .i32 l.ses, .int .i32 l.str] 24) = W1 := ⟨_, rfl⟩
  obtain ⟨A, hA⟩ : ∃ A, w.heap.size = A := ⟨_, rfl⟩
  have u0 : W1.heap[A]? = some (.cells #[.int .i64 l.base, .int .i64 l.term, .int .i64 l.mtu, .int .i64 l.subs, .int .i32 l.ini, .int .i32 l.ses, .int .i32 l.str] 24) := by rw [← hW1, ← hA]; exact heap_new _ _
  have u1 : Below A w W1 := by rw [← hW1, ← hA]; exact (Below.refl _ _).alloc (Nat.le_refl _) _
  have u2 : W1.heap.size = A + 1 := by rw [← hW1]; simp [hA]
  have HU := Lib.hid (And.intro u0 (And.intro u1 u2))
  clear u0 u1 u2
  go_enter Tryz.func3, Tryz.ntmps3
  go_wp2_with (go_at_call 5; refine (fixed _).mono ?_; rintro e w2 ⟨rfl, hB2⟩
               have b2 : Below (A + 1) W1 w2 := by rw [← HU.out.2.2]; exact hB2
               obtain ⟨m0, m1, m2, m3, m4, m5, m6⟩ := blk7 ((b2.block A (by omega)).trans HU.out.1)
               have H2 := Lib.hid b2
               clear hB2 b2)
  go_wp2_with (go_at_call 6; refine (n6 _).mono ?_
               rintro e w3 ⟨rfl, hB3⟩
               obtain ⟨Y3, hY3⟩ : ∃ Y3, w3.heap.size = Y3 := ⟨_, rfl⟩
               obtain ⟨V3, hV3⟩ : ∃ V3, w3.alloc (.cells #[.int .u32 a, .int .u64 a, .int .u64 a, .int .u64 a, .int .i64 a, .int .i64 a, .slice none z z] 31) = V3 := ⟨_, rfl⟩
               have b3 : Below (A + 1) W1 w3 := H2.out.trans (hB3.mono (by have := H2.out.size; have := HU.out.2.2; omega))
               have bb3 : Below (A + 1) W1 V3 := by rw [← hV3]; exact b3.alloc (by have := b3.size; have := HU.out.2.2; omega) _
               have hy3 : V3.heap[Y3]? = some (.cells #[.int .u32 a, .int .u64 a, .int .u64 a, .int .u64 a, .int .i64 a, .int .i64 a, .slice none z z] 31) := by rw [← hV3, ← hY3]; exact heap_new _ _
               obtain ⟨m0, m1, m2, m3, m4, m5, m6⟩ := blk7 ((bb3.block A (by omega)).trans HU.out.1)
               have H3 := Lib.hid (And.intro bb3 hy3)
               clear hB3 b3 bb3 hy3)
  go_wp2_with (go_at_call 7; refine (n7 _).mono ?_
               rintro e w4 ⟨rfl, hB4⟩
               obtain ⟨Y4, hY4⟩ : ∃ Y4, w4.heap.size = Y4 := ⟨_, rfl⟩
               obtain ⟨V4, hV4⟩ : ∃ V4, w4.alloc (.cells #[.int .u32 a, .int .u64 a, .int .u64 a, .int .u64 a, .int .i64 a, .int .i64 a, .slice none z z] 31) = V4 := ⟨_, rfl⟩
               have bV : Below V3.heap.size V3 V4 := by rw [← hV4]; exact hB4.alloc hB4.size _
               have bb4 : Below (A + 1) W1 V4 := H3.out.1.trans (bV.mono (by have := H3.out.1.size; have := HU.out.2.2; omega))
               have hy4 : V4.heap[Y4]? = some (.cells #[.int .u32 a, .int .u64 a, .int .u64 a, .int .u64 a, .int .i64 a, .int .i64 a, .slice none z z] 31) := by rw [← hV4, ← hY4]; exact heap_new _ _
               have hy3 := (bV.block Y3 (Array.getElem?_eq_some_iff.1 H3.out.2).1).trans H3.out.2
               obtain ⟨m0, m1, m2, m3, m4, m5, m6⟩ := blk7 ((bb4.block A (by omega)).trans HU.out.1)
               have H4 := Lib.hid (And.intro bb4 (And.intro hy3 hy4))
               clear hB4 bV bb4 hy3 hy4)
  go_wp2_with (go_at_call 8; refine (framesNo0 l hw ba bn bc hbn hth _).mono ?_
               rintro e w5 ⟨rfl, hB5⟩
               have bb5 : Below (A + 1) W1 w5 := H4.out.1.trans (hB5.mono (by have := H4.out.1.size; have := HU.out.2.2; omega))
               obtain ⟨m0, m1, m2, m3, m4, m5, m6⟩ := blk7 ((bb5.block A (by omega)).trans HU.out.1)
               have H5 := Lib.hid (And.intro bb5 hB5)
               clear bb5 hB5)
  go_wp2_with (go_at_call 9; refine (framesRNo0 l hw ba bn bc hbn hth _).mono ?_
               rintro e w6 ⟨rfl, hB6⟩
               have H6 := Lib.hid hB6
               clear hB6)
  have bR : Below V4.heap.size V4 w6 := H5.out.2.trans (H6.out.mono H5.out.2.size)
  have y3 := (bR.block Y3 (Array.getElem?_eq_some_iff.1 H4.out.2.1).1).trans H4.out.2.1
  have y4 := (bR.block Y4 (Array.getElem?_eq_some_iff.1 H4.out.2.2).1).trans H4.out.2.2
  have HS := Lib.hid (show Below w.heap.size w w6 by
    rw [hA]
    exact HU.out.2.1.trans ((H4.out.1.trans (bR.mono (by have := H4.out.1.size; have := HU.out.2.2; omega))).mono (by omega)))
  obtain ⟨p0, p1, p2, p3, p4, p5, p6⟩ := blkV7 y3
  obtain ⟨q0, q1, q2, q3, q4, q5, q6⟩ := blkV7 y4
  clear bR y3 y4
  refine wp_loop_rounds 1 ?_
  rw [rounds_succ]
  go_wp2_with (go_at_call 10; refine (n10 _).mono ?_; rintro e z1 ⟨rfl, hZ1⟩; have HS1 := Lib.hid (HS.out.trans (hZ1.mono HS.out.size)); clear hZ1)
  go_wp2_with (go_at_call 11; refine (sameF0_0 _).mono ?_; rintro e z2 ⟨rfl, hZ2⟩; have HS2 := Lib.hid (HS1.out.trans (hZ2.mono HS1.out.size)); clear hZ2)
  go_wp2_with (first | (go_at_call 12; refine (count_none _ _ _ _).mono ?_; rintro e w' ⟨rfl, rfl⟩) | (go_at_call 13; refine (filled_none _ _ _ _).mono ?_; rintro e w' ⟨rfl, rfl⟩) | (go_at_call 14; refine (filledR_none _ _ _ _).mono ?_; rintro e w' ⟨rfl, rfl⟩))
  go_ret
  exact ⟨rfl, HS2.out⟩
theorem frames_empty_or (F : List Sn) : F = [] ∨ F ≠ [] := by cases F with | nil => exact .inl rfl | cons x xs => exact .inr (by simp)
theorem law_there (l : Lg) (B : Nat → Nat) (hB : ∀ j, B j < 256) (bb bo bn bc : Nat) (st part : Int) (hcap : bn ≤ bc) (hth : l.there bn) (hn : bn ≤ 5000) (w : World) (hlt : bb < w.heap.size) (hr : ReadsB w bb bo bn B) :
    Calls Tryz.prog 3 #[.slice (some ⟨bb, bo, none⟩) bn bc, .agg #[.int .i64 l.base, .int .i64 l.term, .int .i64 l.mtu, .int .i64 l.subs, .int .i32 l.ini, .int .i32 l.ses, .int .i32 l.str], .int .i64 st, .int .i64 part] w fun e w' => e = .returned (.bool true) ∧ Below w.heap.size w w' := by
  have hbn : bn < 4611686018427387904 := by omega
  obtain ⟨a0, a1, a2, a3, a4, a5, vs, hvs, n6, n7⟩ := nums_both l hth.1 B hB bb bo bn bc hcap hbn hth
  have f8 : FramesC 8 l B bb bo bn bc (allF l B 3) := fun W h1 h2 => (frames_some l hth.1 B hB bb bo bn bc hcap hbn hth W h1 h2).mono (fun e w' h => by obtain ⟨s, h, ho, hb⟩ := h; exact ⟨s, h, rowIs_own ho, hb⟩)
  have f9 : FramesC 9 l B bb bo bn bc (allF l B 3) := fun W h1 h2 => (framesR_some l hth.1 B hB bb bo bn bc hcap hbn hth W h1 h2).mono (fun e w' h => by obtain ⟨s, h, ho, hb⟩ := h; exact ⟨s, h, rowIs_own ho, hb⟩)
  have hlen : (allF l B 3).length ≤ 300 := by
    have h1 := Lg.ok.bounds hth.1
    have h2 := allF_le l (by omega) B 3
    have h3 := hth.2
    omega
  have hsm := allF_small l B 3
  generalize allF l B 3 = F at f8 f9 hlen hsm
  rcases frames_empty_or F with rfl | h0
  · exact law_nil l B bb bo bn bc st part a0 a1 a2 a3 a4 a5 vs hvs hn n6 n7 f8 f9 w hlt hr
  · exact law_rows l B bb bo bn bc st part F h0 hlen hsm a0 a1 a2 a3 a4 a5 vs hvs hn n6 n7 f8 f9 w hlt hr
end Go.Proofs.YtndgbfpcnkmihaaGreatDoor.Sy
