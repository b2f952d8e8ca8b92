/- InspectTells answers true, for whatever bytes and log. -/
import Derived.Test.YtndgbfpcnkmihaaGreatDoorTelA
import Derived.Test.YtndgbfpcnkmihaaGreatDoorFrF
import Derived.Test.YtndgbfpcnkmihaaGreatDoorCountLaw
namespace Go.Proofs.YtndgbfpcnkmihaaGreatDoor.Sy
open Go Go.RowKit Go.Lib Go.Base Go.Proofs.YtndgbfpcnkmihaaGreatDoor.Ba Go.Proofs.YtndgbfpcnkmihaaGreatDoor
set_option maxRecDepth 1000000
set_option maxHeartbeats 6400000
/-- a function that hands back a log's frames -/
def FramesC (f : Nat) (l : Lg) (B : Nat → Nat) (bb bo bn bc : Nat) (F : List Sn) : Prop := ∀ W : World, bb < W.heap.size → ReadsB W bb bo bn B →
  Calls Tryz.prog f #[.slice (some ⟨bb, bo, none⟩) bn bc, .agg #[.int .i64 l.base, .int .i64 l.term, .int .i64 l.mtu, .int .i64 l.subs, .int .i32 l.ini, .int .i32 l.ses, .int .i32 l.str]] W fun e w' => ∃ s, e = .returned (.tuple #[s, .int .i64 0]) ∧ RowIs w' F s ∧ Below W.heap.size W w'
theorem blkV7 {w : World} {b : Nat} {t : TypeId} {v0 v1 v2 v3 v4 v5 v6 : Value} (h : w.heap[b]? = some (.cells #[v0, v1, v2, v3, v4, v5, v6] t (0, 0))) : w.cell? ⟨b, 0, none⟩ = some v0 ∧ w.cell? ⟨b, 1, none⟩ = some v1 ∧ w.cell? ⟨b, 2, none⟩ = some v2 ∧ w.cell? ⟨b, 3, none⟩ = some v3 ∧ w.cell? ⟨b, 4, none⟩ = some v4 ∧ w.cell? ⟨b, 5, none⟩ = some v5 ∧ w.cell? ⟨b, 6, none⟩ = some v6 := by
  refine ⟨?_, ?_, ?_, ?_, ?_, ?_, ?_⟩ <;> simp [World.cell?, h]
theorem law_big (ba : Option Addr) (bn bc : Nat) (l : Lg) (st part : Int) (hn : 5000 < bn) (w : World) :
    Calls Tryz.prog 3 #[.slice ba bn bc, .agg #[.int .i64 l.base, .int .i64 l.term, .int .i64 l.mtu, .int .i64 l.subs, .int .i32 l.ini, .int .i32 l.ses, .int .i32 l.str], .int .i64 st, .int .i64 part] w fun e w' => e = .returned (.bool true) ∧ Below w.heap.size w w' := by
  have h1 : (bn : Int) > 5000 := by omega
  go_enter Tryz.func3, Tryz.ntmps3
  go_wp2_with (go_at_call 5; refine (fixed _).mono ?_; rintro e w' ⟨rfl, hB⟩; have HB := Lib.hid hB; clear hB)
  go_ret
  exact ⟨rfl, (Below.alloc (Below.refl _ _) (Nat.le_refl _) _).trans (HB.out.mono (by simp))⟩
theorem law_rows (l : Lg) (B : Nat → Nat) (bb bo bn bc : Nat) (st part : Int) (F : List Sn) (hF0 : F ≠ []) (hF : F.length ≤ 300) (hFs : Small F.toArray) (a0 a1 a2 a3 a4 a5 : Int) (vs : List Int) (hvs : 1 ≤ vs.length ∧ vs.length ≤ 8) (hn : bn ≤ 5000)
    (n6 : NumsC 6 l B bb bo bn bc a0 a1 a2 a3 a4 a5 vs) (n7 : NumsC 7 l B bb bo bn bc a0 a1 a2 a3 a4 a5 vs) (f8 : FramesC 8 l B bb bo bn bc F) (f9 : FramesC 9 l B bb bo bn bc F) (w : World) (hlt : bb < w.heap.size) (hr : ReadsB w bb bo bn B) :
    Calls Tryz.prog 3 #[.slice (some ⟨bb, bo, none⟩) bn bc, .agg #[.int .i64 l.base, .int .i64 l.term, .int .i64 l.mtu, .int .i64 l.subs, .int .i32 l.ini, .int .i32 l.ses, .int .i32 l.str], .int .i64 st, .int .i64 part] w fun e w' => e = .returned (.bool true) ∧ Below w.heap.size w w' := by
  have h1 : ¬ (bn : Int) > 5000 := by omega
  obtain ⟨W1, hW1⟩ : ∃ W1, w.alloc (.cells #[.int .i64 l.base, .int .i64 l.term, .int .i64 l.mtu, .int .i64 l.subs, .int .i32 l.ini, .int .i32 l.ses, .int .i32 l.str] 24) = W1 := ⟨_, rfl⟩
  obtain ⟨A, hA⟩ : ∃ A, w.heap.size = A := ⟨_, rfl⟩
  have u0 : W1.heap[A]? = some (.cells #[.int .i64 l.base, .int .i64 l.term, .int .i64 l.mtu, .int .i64 l.subs, .int .i32 l.ini, .int .i32 l.ses, .int .i32 l.str] 24) := by rw [← hW1, ← hA]; exact heap_new _ _
  have u1 : Below A w W1 := by rw [← hW1, ← hA]; exact (Below.refl _ _).alloc (Nat.le_refl _) _
  have u2 : W1.heap.size = A + 1 := by rw [← hW1]; simp [hA]
  have hr1 : ReadsB W1 bb bo bn B := hr.below (s := A) (by omega) u1
  have HU := Lib.hid (And.intro u0 (And.intro u1 (And.intro u2 hr1)))
  clear u0 u1 u2 hr hr1
  go_enter Tryz.func3, Tryz.ntmps3
  go_wp2_with (go_at_call 5; refine (fixed _).mono ?_; rintro e w2 ⟨rfl, hB2⟩
               have b2 : Below (A + 1) W1 w2 := by rw [← HU.out.2.2.1]; exact hB2
               obtain ⟨m0, m1, m2, m3, m4, m5, m6⟩ := blk7 ((b2.block A (by omega)).trans HU.out.1)
               have H2 := Lib.hid b2
               clear hB2 b2)
  go_wp2_with (go_at_call 6; refine (n6 _ (by have := H2.out.size; have := HU.out.2.2.1; omega) (HU.out.2.2.2.below (by omega) H2.out)).mono ?_
               rintro e w3 ⟨g1, o1, k1, rfl, hg1, hB3⟩
               obtain ⟨Y3, hY3⟩ : ∃ Y3, w3.heap.size = Y3 := ⟨_, rfl⟩
               obtain ⟨V3, hV3⟩ : ∃ V3, w3.alloc (.cells #[.int .u32 a0, .int .u64 a1, .int .u64 a2, .int .u64 a3, .int .i64 a4, .int .i64 a5, .slice (some ⟨g1, o1, none⟩) vs.length k1] 31) = V3 := ⟨_, rfl⟩
               have b3 : Below (A + 1) W1 w3 := H2.out.trans (hB3.mono (by have := H2.out.size; have := HU.out.2.2.1; omega))
               have bb3 : Below (A + 1) W1 V3 := by rw [← hV3]; exact b3.alloc (by have := b3.size; have := HU.out.2.2.1; omega) _
               have hy3 : V3.heap[Y3]? = some (.cells #[.int .u32 a0, .int .u64 a1, .int .u64 a2, .int .u64 a3, .int .i64 a4, .int .i64 a5, .slice (some ⟨g1, o1, none⟩) vs.length k1] 31) := by rw [← hV3, ← hY3]; exact heap_new _ _
               have hg1' : ViewAt V3 g1 o1 vs := by rw [← hV3]; exact (ViewAt.mk' hvs.1 hg1).below ((Below.refl _ _).alloc (Nat.le_refl _) _)
               obtain ⟨m0, m1, m2, m3, m4, m5, m6⟩ := blk7 ((bb3.block A (by omega)).trans HU.out.1)
               have H3 := Lib.hid (And.intro bb3 (And.intro hy3 hg1'))
               clear hB3 b3 bb3 hy3 hg1 hg1')
  go_wp2_with (go_at_call 7; refine (n7 _ (by have := H3.out.1.size; have := HU.out.2.2.1; omega) (HU.out.2.2.2.below (by omega) H3.out.1)).mono ?_
               rintro e w4 ⟨g2, o2, k2, rfl, hg2, hB4⟩
               obtain ⟨Y4, hY4⟩ : ∃ Y4, w4.heap.size = Y4 := ⟨_, rfl⟩
               obtain ⟨V4, hV4⟩ : ∃ V4, w4.alloc (.cells #[.int .u32 a0, .int .u64 a1, .int .u64 a2, .int .u64 a3, .int .i64 a4, .int .i64 a5, .slice (some ⟨g2, o2, none⟩) vs.length k2] 31) = V4 := ⟨_, rfl⟩
               have bV : Below V3.heap.size V3 V4 := by rw [← hV4]; exact hB4.alloc hB4.size _
               have bb4 : Below (A + 1) W1 V4 := H3.out.1.trans (bV.mono (by have := H3.out.1.size; have := HU.out.2.2.1; omega))
               have hy4 : V4.heap[Y4]? = some (.cells #[.int .u32 a0, .int .u64 a1, .int .u64 a2, .int .u64 a3, .int .i64 a4, .int .i64 a5, .slice (some ⟨g2, o2, none⟩) vs.length k2] 31) := by rw [← hV4, ← hY4]; exact heap_new _ _
               have hg2' : ViewAt V4 g2 o2 vs := by rw [← hV4]; exact (ViewAt.mk' hvs.1 hg2).below ((Below.refl _ _).alloc (Nat.le_refl _) _)
               have hy3 := (bV.block Y3 (Array.getElem?_eq_some_iff.1 H3.out.2.1).1).trans H3.out.2.1
               have hg1' := H3.out.2.2.below bV
               obtain ⟨m0, m1, m2, m3, m4, m5, m6⟩ := blk7 ((bb4.block A (by omega)).trans HU.out.1)
               have H4 := Lib.hid (And.intro bb4 (And.intro (And.intro hy3 hg1') (And.intro hy4 hg2')))
               clear hB4 bV bb4 hy3 hy4 hg2 hg1' hg2')
  go_wp2_with (go_at_call 8; refine (f8 _ (by have := H4.out.1.size; have := HU.out.2.2.1; omega) (HU.out.2.2.2.below (by omega) H4.out.1)).mono ?_
               rintro e w5 ⟨s1, rfl, ⟨r1, c1, rfl, hx1⟩, hB5⟩
               obtain ⟨x1, rfl, hx1, hx1r⟩ := hx1 hF0
               have bb5 : Below (A + 1) W1 w5 := H4.out.1.trans (hB5.mono (by have := H4.out.1.size; have := HU.out.2.2.1; omega))
               obtain ⟨m0, m1, m2, m3, m4, m5, m6⟩ := blk7 ((bb5.block A (by omega)).trans HU.out.1)
               have H5 := Lib.hid (And.intro bb5 (And.intro (And.intro hx1 hx1r) hB5))
               clear bb5 hx1 hx1r hB5)
  go_wp2_with (go_at_call 9; refine (f9 _ (by have := H5.out.1.size; have := HU.out.2.2.1; omega) (HU.out.2.2.2.below (by omega) H5.out.1)).mono ?_
               rintro e w6 ⟨s2, rfl, ⟨r2, c2, rfl, hx2⟩, hB6⟩
               obtain ⟨x2, rfl, hx2, hx2r⟩ := hx2 hF0
               have H6 := Lib.hid (And.intro (H5.out.1.trans (hB6.mono (by have := H5.out.1.size; have := HU.out.2.2.1; omega))) (And.intro (And.intro hx2 hx2r) hB6))
               clear hx2 hx2r hB6)
  clear n6 n7 f8 f9
  go_loopw [17, 19, 51] (fun s p t wr => ∃ k : Nat, k ≤ F.length ∧ t = .int .i64 k ∧ s = .int .i64 (cntS F.toArray st k : Nat) ∧ Hid (Below w6.heap.size w6 wr)) (fun _ _ t _ => F.length - (intOf t).toNat)
  case atStart => exact ⟨0, Nat.zero_le _, rfl, rfl, Lib.hid (Below.refl _ _)⟩
  case round =>
    obtain ⟨k, hk, rfl, rfl, hbel⟩ := hrel
    by_cases hlt2 : k < F.length
    · obtain ⟨c0, c1', c2', c3, c4, c5, c6, c7, c8, c9, c10, c11⟩ := (H6.out.2.1.2.below H6.out.2.1.1 hbel.out) k (by simpa using hlt2)
      simp only [Nat.zero_add] at c0 c1' c2' c3 c4 c5 c6 c7 c8 c9 c10 c11
      obtain ⟨x, hx⟩ : ∃ x, F.toArray[k]! = x := ⟨_, rfl⟩
      rw [hx] at c0 c1' c2' c3 c4 c5 c6 c7 c8 c9 c10 c11
      have h3 : (k : Int) < (F.length : Int) := by omega
      have h4 : (0 : Int) ≤ (k : Int) := by omega
      have h5 := cntS_le F.toArray st k
      obtain ⟨q, hq⟩ : ∃ q, cntS F.toArray st k = q := ⟨_, rfl⟩
      rw [hq] at h5 ⊢
      have HX := Lib.hid (And.intro hx hq)
      clear hx hq
      by_cases hs : x.state = st
      · go_wp2
        go_roundw
        case rel =>
          obtain ⟨e1, e2⟩ := HX.out
          refine ⟨k + 1, by omega, by go_num, ?_, Lib.hid (hbel.out.alloc hbel.out.size _)⟩
          rw [cntS, e1, if_pos hs, e2]; go_num
        case measure => simp [intOf]; omega
      · go_wp2
        go_roundw
        case rel =>
          obtain ⟨e1, e2⟩ := HX.out
          refine ⟨k + 1, by omega, by go_num, ?_, Lib.hid (hbel.out.alloc hbel.out.size _)⟩
          rw [cntS, e1, if_neg hs, e2]
        case measure => simp [intOf]; omega
    · obtain rfl : k = F.length := by omega
      have bR : Below V4.heap.size V4 wr := H5.out.2.2.trans ((H6.out.2.2.trans (hbel.out.mono H6.out.2.2.size)).mono H5.out.2.2.size)
      have b5R : Below w5.heap.size w5 wr := H6.out.2.2.trans (hbel.out.mono H6.out.2.2.size)
      have y3 := (bR.block Y3 (Array.getElem?_eq_some_iff.1 H4.out.2.1.1).1).trans H4.out.2.1.1
      have y4 := (bR.block Y4 (Array.getElem?_eq_some_iff.1 H4.out.2.2.1).1).trans H4.out.2.2.1
      have hv1 := H4.out.2.1.2.below bR
      have hv2 := H4.out.2.2.2.below bR
      have hx1R := H5.out.2.1.2.below H5.out.2.1.1 b5R
      have hx2R := H6.out.2.1.2.below H6.out.2.1.1 hbel.out
      have hxl1 : x1 < wr.heap.size := Nat.lt_of_lt_of_le H5.out.2.1.1 b5R.size
      have hxl2 : x2 < wr.heap.size := Nat.lt_of_lt_of_le H6.out.2.1.1 hbel.out.size
      have bW : Below w.heap.size w wr := by
        rw [hA]
        exact HU.out.2.1.trans ((H4.out.1.trans (bR.mono (by have := H4.out.1.size; have := HU.out.2.2.1; omega))).mono (by omega))
      obtain ⟨p0, p1, p2, p3, p4, p5, p6⟩ := blkV7 y3
      obtain ⟨q0, q1, q2, q3, q4, q5, q6⟩ := blkV7 y4
      have c10 := same_view a0 a1 a2 a3 a4 a5 vs hvs g1 o1 k1 g2 o2 k2 wr hv1 hv2
      have HS := Lib.hid (And.intro hx1R (And.intro hx2R (And.intro hxl1 (And.intro hxl2 bW))))
      clear bR b5R y3 y4 hv1 hv2 hx1R hx2R bW
      go_wp2_with (go_at_call 10; refine c10.mono ?_; clear c10; rintro e z1 ⟨rfl, hZ1⟩
                   have hS1 := HS.out
                   have l1 : x1 < z1.heap.size := Nat.lt_of_lt_of_le hxl1 hZ1.size
                   have l2 : x2 < z1.heap.size := Nat.lt_of_lt_of_le hxl2 hZ1.size
                   have c11 := same_some x1 0 c1 x2 0 c2 F.toArray (by simpa using hF) z1 l1 l2 (hS1.1.below hxl1 hZ1) (hS1.2.1.below hxl2 hZ1)
                   rw [List.size_toArray] at c11
                   have HS1 := Lib.hid (And.intro (hS1.1.below hxl1 hZ1) (And.intro (hS1.2.1.below hxl2 hZ1) (And.intro l1 (And.intro l2 (hS1.2.2.2.2.trans (hZ1.mono hS1.2.2.2.2.size))))))
                   clear hS1 l1 l2 hZ1)
      go_wp2_with (go_at_call 11; refine c11.mono ?_; clear c11; rintro e z2 ⟨rfl, hZ2⟩
                   have l1 : x1 < z2.heap.size := Nat.lt_of_lt_of_le HS1.out.2.2.1 hZ2.size
                   have l2 : x2 < z2.heap.size := Nat.lt_of_lt_of_le HS1.out.2.2.2.1 hZ2.size
                   have r1 := HS1.out.1.below HS1.out.2.2.1 hZ2
                   have r2 := HS1.out.2.1.below HS1.out.2.2.2.1 hZ2
                   have c12 := count_some x1 0 c1 F.toArray st (by simpa using hF) z2 l1 r1
                   rw [List.size_toArray] at c12
                   have HS2 := Lib.hid (And.intro r1 (And.intro r2 (And.intro l1 (And.intro l2 (HS1.out.2.2.2.2.trans (hZ2.mono HS1.out.2.2.2.2.size))))))
                   clear l1 l2 r1 r2 hZ2)
      go_wp2_with (go_at_call 12; refine c12.mono ?_; clear c12; rintro e z3 ⟨rfl, hZ3⟩
                   have l1 : x1 < z3.heap.size := Nat.lt_of_lt_of_le HS2.out.2.2.1 hZ3.size
                   have l2 : x2 < z3.heap.size := Nat.lt_of_lt_of_le HS2.out.2.2.2.1 hZ3.size
                   have r1 := HS2.out.1.below HS2.out.2.2.1 hZ3
                   have r2 := HS2.out.2.1.below HS2.out.2.2.2.1 hZ3
                   have c13 := filled_some x1 0 c1 F.toArray part hFs (by simpa using hF) z3 l1 r1
                   rw [List.size_toArray] at c13
                   have HS3 := Lib.hid (And.intro r1 (And.intro r2 (And.intro l1 (And.intro l2 (HS2.out.2.2.2.2.trans (hZ3.mono HS2.out.2.2.2.2.size))))))
                   clear l1 l2 r1 r2 hZ3)
      go_wp2_with (go_at_call 13; refine c13.mono ?_; clear c13; rintro e z4 ⟨rfl, hZ4⟩
                   have l2 : x2 < z4.heap.size := Nat.lt_of_lt_of_le HS3.out.2.2.2.1 hZ4.size
                   have r2 := HS3.out.2.1.below HS3.out.2.2.2.1 hZ4
                   have c14 := filledR_some x2 0 c2 F.toArray part hFs (by simpa using hF) z4 l2 r2
                   rw [List.size_toArray] at c14
                   have HS4 := Lib.hid (HS3.out.2.2.2.2.trans (hZ4.mono HS3.out.2.2.2.2.size))
                   clear l2 r2 hZ4)
      go_wp2_with (go_at_call 14; refine c14.mono ?_; clear c14; rintro e z5 ⟨rfl, hZ5⟩
                   have HS5 := Lib.hid (HS4.out.trans (hZ5.mono HS4.out.size))
                   clear hZ5)
      go_ret
      exact ⟨rfl, HS5.out⟩
end Go.Proofs.YtndgbfpcnkmihaaGreatDoor.Sy
