/- YtppdhckcempmnaaGreatDoorFold; YtppdhckcempmnaaGreatDoorTally: in one text. -/
import Derived.Test.YtppdhckcempmnaaGreatDoorB2
/- Tallies added up over a trace: the program's fold. -/
namespace Go.Proofs.YtppdhckcempmnaaGreatDoor.Ce
open Go Go.RowKit Go.Lib
set_option maxRecDepth 1000000 in
set_option maxHeartbeats 12800000 in
theorem fold_all (al : Option Addr) (cl : Nat) (l : Array Ev)  (w : World)  (hT : Tr w al l) (hn : l.size ≤ 600) :
    Calls Tryz.prog 51 #[.slice al l.size cl, .agg #[.int .i64 0, .int .i64 0, .int .i64 0, .int .i64 0, .int .i64 0, .int .i64 0, .int .i64 0, .int .i64 0, .int .i64 0, .int .i64 0], .func (.func 19) #[] #[], .func (.func 52) #[] #[]] w fun e w' => e = .returned (foldT (fun _ => true) l l.size).val ∧ Below w.heap.size w w' := by
  have HT := Lib.hid hT
  clear hT
  go_enter Tryz.func51, Tryz.ntmps51
  go_wp2_with fail
  obtain ⟨B, hBB⟩ : ∃ B, w.heap.size = B := ⟨_, rfl⟩
  have h0 : ((w.alloc (.cells #[.int .i64 0, .int .i64 0, .int .i64 0, .int .i64 0, .int .i64 0, .int .i64 0, .int .i64 0, .int .i64 0, .int .i64 0, .int .i64 0] 28)).alloc (.cells #[.int .i64 0, .int .i64 0, .int .i64 0, .int .i64 0, .int .i64 0, .int .i64 0, .int .i64 0, .int .i64 0, .int .i64 0, .int .i64 0] 28)).heap[B]? = some (.cells #[.int .i64 0, .int .i64 0, .int .i64 0, .int .i64 0, .int .i64 0, .int .i64 0, .int .i64 0, .int .i64 0, .int .i64 0, .int .i64 0] 28 (0, 0)) := by
    rw [Below.heap_alloc _ _ _ (by simp; omega), ← hBB]; exact heap_new _ _
  have h1 : ((w.alloc (.cells #[.int .i64 0, .int .i64 0, .int .i64 0, .int .i64 0, .int .i64 0, .int .i64 0, .int .i64 0, .int .i64 0, .int .i64 0, .int .i64 0] 28)).alloc (.cells #[.int .i64 0, .int .i64 0, .int .i64 0, .int .i64 0, .int .i64 0, .int .i64 0, .int .i64 0, .int .i64 0, .int .i64 0, .int .i64 0] 28)).heap[B + 1]? = some (.cells #[.int .i64 0, .int .i64 0, .int .i64 0, .int .i64 0, .int .i64 0, .int .i64 0, .int .i64 0, .int .i64 0, .int .i64 0, .int .i64 0] 28 (0, 0)) := by
    have s1 : (w.alloc (.cells #[.int .i64 0, .int .i64 0, .int .i64 0, .int .i64 0, .int .i64 0, .int .i64 0, .int .i64 0, .int .i64 0, .int .i64 0, .int .i64 0] 28)).heap.size = B + 1 := by simp [hBB]
    rw [← s1]; exact heap_new _ _
  have hB0 : Below B w ((w.alloc (.cells #[.int .i64 0, .int .i64 0, .int .i64 0, .int .i64 0, .int .i64 0, .int .i64 0, .int .i64 0, .int .i64 0, .int .i64 0, .int .i64 0] 28)).alloc (.cells #[.int .i64 0, .int .i64 0, .int .i64 0, .int .i64 0, .int .i64 0, .int .i64 0, .int .i64 0, .int .i64 0, .int .i64 0, .int .i64 0] 28)) := by
    rw [← hBB]; exact ((Below.refl _ _).alloc (Nat.le_refl _) _).alloc (by simp) _
  have HI := Lib.hid (And.intro h0 (And.intro h1 hB0))
  clear h0 h1 hB0
  simp only [hBB]
  go_loopw [13] (fun s wr => ∃ k : Nat, k ≤ l.size ∧ s = .int .i64 k ∧ Hid (wr.heap[B]? = some (.cells #[.int .i64 (foldT (fun _ => true) l k).f0, .int .i64 (foldT (fun _ => true) l k).f1, .int .i64 (foldT (fun _ => true) l k).f2, .int .i64 (foldT (fun _ => true) l k).f3, .int .i64 (foldT (fun _ => true) l k).f4, .int .i64 (foldT (fun _ => true) l k).f5, .int .i64 (foldT (fun _ => true) l k).f6, .int .i64 (foldT (fun _ => true) l k).f7, .int .i64 (foldT (fun _ => true) l k).f8, .int .i64 (foldT (fun _ => true) l k).f9] 28 (0, 0)) ∧ wr.heap[B + 1]? = some (.cells #[.int .i64 0, .int .i64 0, .int .i64 0, .int .i64 0, .int .i64 0, .int .i64 0, .int .i64 0, .int .i64 0, .int .i64 0, .int .i64 0] 28 (0, 0)) ∧ Below B w wr)) (fun s _ => l.size - (RowKit.intOf s).toNat)
  case atStart => exact ⟨0, Nat.zero_le _, rfl, HI⟩
  case round =>
    obtain ⟨k, hk, rfl, HR⟩ := hrel
    by_cases hlt : k < l.size
    · obtain ⟨b, o, rfl, hb, hA⟩ := (HT.out.below (by rw [hBB]; exact HR.out.2.2)) k hlt
      obtain ⟨c0, c1, c2, c3, c4, c5, c6, c7, c8, c9, c10, c11⟩ := hA
      obtain ⟨x, hx⟩ : ∃ x, l[k]! = x := ⟨_, rfl⟩
      have hok := foldT_ok (fun _ => true) l k
      obtain ⟨t, ht⟩ : ∃ t, foldT (fun _ => true) l k = t := ⟨_, rfl⟩
      have hnext : foldT ((fun _ => true)) l (k + 1) = if x.pk = 0 ∧ ((fun _ => true)) x = true then plus t (one x) else t := by
        rw [ht] at hok
        rw [foldT, hx, ht, step_eq hok]
      rw [ht] at HR
      rw [hx] at c0 c1 c2 c3 c4 c5 c6 c7 c8 c9 c10 c11
      obtain ⟨r, hr⟩ : ∃ r, plus t (one x) = r := ⟨_, rfl⟩
      have c52 := fun W => sum1_any t x W
      have cc : ∀ W, Below B w W → Calls Tryz.prog 19 #[x.val] W fun e w1 => e = .returned (.bool ((fun _ => true) x)) ∧ Below W.heap.size W w1 := fun W _ => always_any x W
      obtain ⟨cb, hcb⟩ : ∃ cb, ((fun _ => true)) x = cb := ⟨_, rfl⟩
      rw [hr] at c52 hnext
      rw [hcb] at hnext
      simp only [hcb] at cc
      clear hcb
      have HX := Lib.hid hnext
      clear hnext hr ht hx hok
      have h1 : (k : Int) < (l.size : Int) := by omega
      have h2 : (0 : Int) ≤ (k : Int) := by omega
      obtain ⟨pk, act, pn, ak, at_, n, v, ww, bo, bl, bc, av, done, ao, al2, ac⟩ := x
      obtain ⟨a0, a1, a2, a3, a4, a5, a6, a7, a8, a9⟩ := t
      obtain ⟨r0, r1, r2, r3, r4, r5, r6, r7, r8, r9⟩ := r
      unfold Tl.val Ev.val at c52
      unfold Ev.val at cc
      dsimp only at c0 c1 c2 c3 c4 c5 c6 c7 c8 c9 c10 c11 HR HX c52 cc
      obtain ⟨W1, hW1⟩ : ∃ W1, wr.alloc (.cells #[.int .i64 pk, .int .i64 act, .int .i64 pn, .int .i64 ak, .int .i64 at_, .int .i64 n, .int .u64 v, .int .u64 ww, .slice bo bl bc, .int .u64 av, .bool done, .slice ao al2 ac] 67) = W1 := ⟨_, rfl⟩
      obtain ⟨A, hA⟩ : ∃ A, wr.heap.size = A := ⟨_, rfl⟩
      have hBlt : B + 1 < A := by have := (Array.getElem?_eq_some_iff.1 HR.out.2.1).1; omega
      have u0 : W1.heap[A]? = some (.cells #[.int .i64 pk, .int .i64 act, .int .i64 pn, .int .i64 ak, .int .i64 at_, .int .i64 n, .int .u64 v, .int .u64 ww, .slice bo bl bc, .int .u64 av, .bool done, .slice ao al2 ac] 67 (0, 0)) := by rw [← hW1, ← hA]; exact heap_new _ _
      have u1 : W1.heap[B]? = some (.cells #[.int .i64 a0, .int .i64 a1, .int .i64 a2, .int .i64 a3, .int .i64 a4, .int .i64 a5, .int .i64 a6, .int .i64 a7, .int .i64 a8, .int .i64 a9] 28 (0, 0)) := by rw [← hW1, Below.heap_alloc _ _ _ (by omega)]; exact HR.out.1
      have u2 : W1.heap[B + 1]? = some (.cells #[.int .i64 0, .int .i64 0, .int .i64 0, .int .i64 0, .int .i64 0, .int .i64 0, .int .i64 0, .int .i64 0, .int .i64 0, .int .i64 0] 28 (0, 0)) := by rw [← hW1, Below.heap_alloc _ _ _ (by omega)]; exact HR.out.2.1
      have u3 : Below B w W1 := by rw [← hW1]; exact HR.out.2.2.alloc (by omega) _
      have hsz : W1.heap.size = A + 1 := by rw [← hW1]; simp [hA]
      have HU := Lib.hid (And.intro u0 (And.intro u1 (And.intro u2 (And.intro u3 hsz))))
      obtain ⟨m0, m1, m2, m3, m4, m5, m6, m7, m8, m9, m10, m11⟩ := blk12 u0
      clear u0 u1 u2 u3 hsz HR HI
      by_cases hpk : pk = 0
      · subst hpk
        cases cb
        · go_wp2_with (first
            | (go_at_call 19
               refine (cc _ HU.out.2.2.2.1).mono ?_
               clear cc
               rintro e w1 ⟨rfl, hB1⟩
               have v0 := (hB1.block A (by have := HU.out.2.2.2.2; omega)).trans HU.out.1
               have v1 := (hB1.block B (by have := HU.out.2.2.2.2; omega)).trans HU.out.2.1
               have v2 := (hB1.block (B + 1) (by have := HU.out.2.2.2.2; omega)).trans HU.out.2.2.1
               have v3 := HU.out.2.2.2.1.trans (hB1.mono (by have := HU.out.2.2.2.2; omega))
               have v4 := hB1.size
               obtain ⟨n0, n1, n2, n3, n4, n5, n6, n7, n8, n9, n10, n11⟩ := blk12 v0
               obtain ⟨k0, k1, k2, k3, k4, k5, k6, k7, k8, k9, kf0, kf1, kf2, kf3, kf4, kf5, kf6, kf7, kf8, kf9⟩ := blk10 v1
               have HV := Lib.hid (And.intro v0 (And.intro v1 (And.intro v2 (And.intro v3 (show A + 1 ≤ w1.heap.size by have := HU.out.2.2.2.2; omega)))))
               clear hB1 v0 v1 v2 v3 v4)
            | (go_at_call 52
               refine (c52 _).mono ?_
               clear c52
               rintro e w2 ⟨rfl, hB2⟩
               have v1 := (hB2.block B (by have := HV.out.2.2.2.2; omega)).trans HV.out.2.1
               have v2 := (hB2.block (B + 1) (by have := HV.out.2.2.2.2; omega)).trans HV.out.2.2.1
               have v3 := HV.out.2.2.2.1.trans (hB2.mono (by have := HV.out.2.2.2.2; omega))
               obtain ⟨q0, q1, q2, q3, q4, q5, q6, q7, q8, q9, qf0, qf1, qf2, qf3, qf4, qf5, qf6, qf7, qf8, qf9⟩ := blk10 v1
               have HQ := Lib.hid (And.intro v1 (And.intro v2 v3))
               clear hB2 v1 v2 v3))
          go_roundw
          case rel =>
            refine ⟨k + 1, by omega, by go_num, Lib.hid ?_⟩
            rw [HX.out, if_neg (fun h => by cases h.2)]
            exact ⟨HV.out.2.1, HV.out.2.2.1, HV.out.2.2.2.1⟩
          case measure => simp [RowKit.intOf]; omega
        · go_wp2_with (first
            | (go_at_call 19
               refine (cc _ HU.out.2.2.2.1).mono ?_
               clear cc
               rintro e w1 ⟨rfl, hB1⟩
               have v0 := (hB1.block A (by have := HU.out.2.2.2.2; omega)).trans HU.out.1
               have v1 := (hB1.block B (by have := HU.out.2.2.2.2; omega)).trans HU.out.2.1
               have v2 := (hB1.block (B + 1) (by have := HU.out.2.2.2.2; omega)).trans HU.out.2.2.1
               have v3 := HU.out.2.2.2.1.trans (hB1.mono (by have := HU.out.2.2.2.2; omega))
               have v4 := hB1.size
               obtain ⟨n0, n1, n2, n3, n4, n5, n6, n7, n8, n9, n10, n11⟩ := blk12 v0
               obtain ⟨k0, k1, k2, k3, k4, k5, k6, k7, k8, k9, kf0, kf1, kf2, kf3, kf4, kf5, kf6, kf7, kf8, kf9⟩ := blk10 v1
               have HV := Lib.hid (And.intro v0 (And.intro v1 (And.intro v2 (And.intro v3 (show A + 1 ≤ w1.heap.size by have := HU.out.2.2.2.2; omega)))))
               clear hB1 v0 v1 v2 v3 v4)
            | (go_at_call 52
               refine (c52 _).mono ?_
               clear c52
               rintro e w2 ⟨rfl, hB2⟩
               have v1 := (hB2.block B (by have := HV.out.2.2.2.2; omega)).trans HV.out.2.1
               have v2 := (hB2.block (B + 1) (by have := HV.out.2.2.2.2; omega)).trans HV.out.2.2.1
               have v3 := HV.out.2.2.2.1.trans (hB2.mono (by have := HV.out.2.2.2.2; omega))
               obtain ⟨q0, q1, q2, q3, q4, q5, q6, q7, q8, q9, qf0, qf1, qf2, qf3, qf4, qf5, qf6, qf7, qf8, qf9⟩ := blk10 v1
               have HQ := Lib.hid (And.intro v1 (And.intro v2 v3))
               clear hB2 v1 v2 v3))
          obtain ⟨W5, hW5, g1, g2, g3, g4⟩ := set10 HQ.out.1 (.int .i64 r0) (.int .i64 r1) (.int .i64 r2) (.int .i64 r3) (.int .i64 r4) (.int .i64 r5) (.int .i64 r6) (.int .i64 r7) (.int .i64 r8) (.int .i64 r9)
          rw [hW5]
          clear hW5
          go_roundw
          case rel =>
            refine ⟨k + 1, by omega, by go_num, Lib.hid ?_⟩
            rw [HX.out, if_pos (by simp)]
            exact ⟨g1, (g3 (B + 1) (by omega)).trans HQ.out.2.1, g4 B w HQ.out.2.2 (Nat.le_refl _)⟩
          case measure => simp [RowKit.intOf]; omega
      · have hpk' : (pk == 0) = false := by simpa using hpk
        go_wp2_with fail
        go_roundw
        case rel =>
          refine ⟨k + 1, by omega, by go_num, Lib.hid ?_⟩
          rw [HX.out, if_neg (fun h => hpk h.1)]
          exact ⟨HU.out.2.1, HU.out.2.2.1, HU.out.2.2.2.1⟩
        case measure => simp [RowKit.intOf]; omega
    · obtain rfl : k = l.size := by omega
      obtain ⟨t, ht⟩ : ∃ t, foldT ((fun _ => true)) l l.size = t := ⟨_, rfl⟩
      rw [ht] at HR
      have HTT := Lib.hid ht
      clear ht HI
      obtain ⟨a0, a1, a2, a3, a4, a5, a6, a7, a8, a9⟩ := t
      dsimp only at HR
      obtain ⟨k0, k1, k2, k3, k4, k5, k6, k7, k8, k9, kf0, kf1, kf2, kf3, kf4, kf5, kf6, kf7, kf8, kf9⟩ := blk10 HR.out.1
      obtain ⟨q0, q1, q2, q3, q4, q5, q6, q7, q8, q9, qf0, qf1, qf2, qf3, qf4, qf5, qf6, qf7, qf8, qf9⟩ := blk10 HR.out.2.1
      clear kf0 kf1 kf2 kf3 kf4 kf5 kf6 kf7 kf8 kf9
      go_wp2_with fail
      obtain ⟨W5, hW5, g1, g2, g3, g4⟩ := set10 HR.out.2.1 (.int .i64 a0) (.int .i64 a1) (.int .i64 a2) (.int .i64 a3) (.int .i64 a4) (.int .i64 a5) (.int .i64 a6) (.int .i64 a7) (.int .i64 a8) (.int .i64 a9)
      rw [hW5]
      clear hW5
      obtain ⟨p0, p1, p2, p3, p4, p5, p6, p7, p8, p9, _⟩ := blk10 g1
      have HZ := Lib.hid (g4 B w HR.out.2.2 (by omega))
      clear g1 g2 g3 g4
      refine bodyPost_ret (v := .agg #[.int .i64 a0, .int .i64 a1, .int .i64 a2, .int .i64 a3, .int .i64 a4, .int .i64 a5, .int .i64 a6, .int .i64 a7, .int .i64 a8, .int .i64 a9]) (by simp [results, Tryz.results51, go_sem, p0, p1, p2, p3, p4, p5, p6, p7, p8, p9]) rfl ⟨by rw [HTT.out]; rfl, ?_⟩
      rw [hBB]
      exact HZ.out
set_option maxRecDepth 1000000 in
set_option maxHeartbeats 12800000 in
theorem fold_actor (al : Option Addr) (cl : Nat) (l : Array Ev) (z : Int) (pb : Nat) (w : World) (hz : w.cell? ⟨pb, 0, none⟩ = some (.int .i64 z)) (hpb : pb < w.heap.size) (hT : Tr w al l) (hn : l.size ≤ 600) :
    Calls Tryz.prog 51 #[.slice al l.size cl, .agg #[.int .i64 0, .int .i64 0, .int .i64 0, .int .i64 0, .int .i64 0, .int .i64 0, .int .i64 0, .int .i64 0, .int .i64 0, .int .i64 0], .func (.func 24) #[] #[.pointer (some ⟨pb, 0, none⟩)], .func (.func 52) #[] #[]] w fun e w' => e = .returned (foldT (fun x => x.act == z) l l.size).val ∧ Below w.heap.size w w' := by
  have HT := Lib.hid hT
  clear hT
  go_enter Tryz.func51, Tryz.ntmps51
  go_wp2_with fail
  obtain ⟨B, hBB⟩ : ∃ B, w.heap.size = B := ⟨_, rfl⟩
  have h0 : ((w.alloc (.cells #[.int .i64 0, .int .i64 0, .int .i64 0, .int .i64 0, .int .i64 0, .int .i64 0, .int .i64 0, .int .i64 0, .int .i64 0, .int .i64 0] 28)).alloc (.cells #[.int .i64 0, .int .i64 0, .int .i64 0, .int .i64 0, .int .i64 0, .int .i64 0, .int .i64 0, .int .i64 0, .int .i64 0, .int .i64 0] 28)).heap[B]? = some (.cells #[.int .i64 0, .int .i64 0, .int .i64 0, .int .i64 0, .int .i64 0, .int .i64 0, .int .i64 0, .int .i64 0, .int .i64 0, .int .i64 0] 28 (0, 0)) := by
    rw [Below.heap_alloc _ _ _ (by simp; omega), ← hBB]; exact heap_new _ _
  have h1 : ((w.alloc (.cells #[.int .i64 0, .int .i64 0, .int .i64 0, .int .i64 0, .int .i64 0, .int .i64 0, .int .i64 0, .int .i64 0, .int .i64 0, .int .i64 0] 28)).alloc (.cells #[.int .i64 0, .int .i64 0, .int .i64 0, .int .i64 0, .int .i64 0, .int .i64 0, .int .i64 0, .int .i64 0, .int .i64 0, .int .i64 0] 28)).heap[B + 1]? = some (.cells #[.int .i64 0, .int .i64 0, .int .i64 0, .int .i64 0, .int .i64 0, .int .i64 0, .int .i64 0, .int .i64 0, .int .i64 0, .int .i64 0] 28 (0, 0)) := by
    have s1 : (w.alloc (.cells #[.int .i64 0, .int .i64 0, .int .i64 0, .int .i64 0, .int .i64 0, .int .i64 0, .int .i64 0, .int .i64 0, .int .i64 0, .int .i64 0] 28)).heap.size = B + 1 := by simp [hBB]
    rw [← s1]; exact heap_new _ _
  have hB0 : Below B w ((w.alloc (.cells #[.int .i64 0, .int .i64 0, .int .i64 0, .int .i64 0, .int .i64 0, .int .i64 0, .int .i64 0, .int .i64 0, .int .i64 0, .int .i64 0] 28)).alloc (.cells #[.int .i64 0, .int .i64 0, .int .i64 0, .int .i64 0, .int .i64 0, .int .i64 0, .int .i64 0, .int .i64 0, .int .i64 0, .int .i64 0] 28)) := by
    rw [← hBB]; exact ((Below.refl _ _).alloc (Nat.le_refl _) _).alloc (by simp) _
  have HI := Lib.hid (And.intro h0 (And.intro h1 hB0))
  clear h0 h1 hB0
  simp only [hBB]
  go_loopw [13] (fun s wr => ∃ k : Nat, k ≤ l.size ∧ s = .int .i64 k ∧ Hid (wr.heap[B]? = some (.cells #[.int .i64 (foldT (fun x => x.act == z) l k).f0, .int .i64 (foldT (fun x => x.act == z) l k).f1, .int .i64 (foldT (fun x => x.act == z) l k).f2, .int .i64 (foldT (fun x => x.act == z) l k).f3, .int .i64 (foldT (fun x => x.act == z) l k).f4, .int .i64 (foldT (fun x => x.act == z) l k).f5, .int .i64 (foldT (fun x => x.act == z) l k).f6, .int .i64 (foldT (fun x => x.act == z) l k).f7, .int .i64 (foldT (fun x => x.act == z) l k).f8, .int .i64 (foldT (fun x => x.act == z) l k).f9] 28 (0, 0)) ∧ wr.heap[B + 1]? = some (.cells #[.int .i64 0, .int .i64 0, .int .i64 0, .int .i64 0, .int .i64 0, .int .i64 0, .int .i64 0, .int .i64 0, .int .i64 0, .int .i64 0] 28 (0, 0)) ∧ Below B w wr)) (fun s _ => l.size - (RowKit.intOf s).toNat)
  case atStart => exact ⟨0, Nat.zero_le _, rfl, HI⟩
  case round =>
    obtain ⟨k, hk, rfl, HR⟩ := hrel
    by_cases hlt : k < l.size
    · obtain ⟨b, o, rfl, hb, hA⟩ := (HT.out.below (by rw [hBB]; exact HR.out.2.2)) k hlt
      obtain ⟨c0, c1, c2, c3, c4, c5, c6, c7, c8, c9, c10, c11⟩ := hA
      obtain ⟨x, hx⟩ : ∃ x, l[k]! = x := ⟨_, rfl⟩
      have hok := foldT_ok (fun x => x.act == z) l k
      obtain ⟨t, ht⟩ : ∃ t, foldT (fun x => x.act == z) l k = t := ⟨_, rfl⟩
      have hnext : foldT ((fun x => x.act == z)) l (k + 1) = if x.pk = 0 ∧ ((fun x => x.act == z)) x = true then plus t (one x) else t := by
        rw [ht] at hok
        rw [foldT, hx, ht, step_eq hok]
      rw [ht] at HR
      rw [hx] at c0 c1 c2 c3 c4 c5 c6 c7 c8 c9 c10 c11
      obtain ⟨r, hr⟩ : ∃ r, plus t (one x) = r := ⟨_, rfl⟩
      have c52 := fun W => sum1_any t x W
      have cc : ∀ W, Below B w W → Calls Tryz.prog 24 #[x.val, .pointer (some ⟨pb, 0, none⟩)] W fun e w1 => e = .returned (.bool ((fun x : Ev => x.act == z) x)) ∧ Below W.heap.size W w1 := fun W hBW => actor1_any x z pb 0 W ((hBW.cell (p := ⟨pb, 0, none⟩) (by show pb < B; omega)).trans hz) (by have := hBW.size; omega)
      obtain ⟨cb, hcb⟩ : ∃ cb, ((fun x => x.act == z)) x = cb := ⟨_, rfl⟩
      rw [hr] at c52 hnext
      rw [hcb] at hnext
      simp only [hcb] at cc
      clear hcb
      have HX := Lib.hid hnext
      clear hnext hr ht hx hok
      have h1 : (k : Int) < (l.size : Int) := by omega
      have h2 : (0 : Int) ≤ (k : Int) := by omega
      obtain ⟨pk, act, pn, ak, at_, n, v, ww, bo, bl, bc, av, done, ao, al2, ac⟩ := x
      obtain ⟨a0, a1, a2, a3, a4, a5, a6, a7, a8, a9⟩ := t
      obtain ⟨r0, r1, r2, r3, r4, r5, r6, r7, r8, r9⟩ := r
      unfold Tl.val Ev.val at c52
      unfold Ev.val at cc
      dsimp only at c0 c1 c2 c3 c4 c5 c6 c7 c8 c9 c10 c11 HR HX c52 cc
      obtain ⟨W1, hW1⟩ : ∃ W1, wr.alloc (.cells #[.int .i64 pk, .int .i64 act, .int .i64 pn, .int .i64 ak, .int .i64 at_, .int .i64 n, .int .u64 v, .int .u64 ww, .slice bo bl bc, .int .u64 av, .bool done, .slice ao al2 ac] 67) = W1 := ⟨_, rfl⟩
      obtain ⟨A, hA⟩ : ∃ A, wr.heap.size = A := ⟨_, rfl⟩
      have hBlt : B + 1 < A := by have := (Array.getElem?_eq_some_iff.1 HR.out.2.1).1; omega
      have u0 : W1.heap[A]? = some (.cells #[.int .i64 pk, .int .i64 act, .int .i64 pn, .int .i64 ak, .int .i64 at_, .int .i64 n, .int .u64 v, .int .u64 ww, .slice bo bl bc, .int .u64 av, .bool done, .slice ao al2 ac] 67 (0, 0)) := by rw [← hW1, ← hA]; exact heap_new _ _
      have u1 : W1.heap[B]? = some (.cells #[.int .i64 a0, .int .i64 a1, .int .i64 a2, .int .i64 a3, .int .i64 a4, .int .i64 a5, .int .i64 a6, .int .i64 a7, .int .i64 a8, .int .i64 a9] 28 (0, 0)) := by rw [← hW1, Below.heap_alloc _ _ _ (by omega)]; exact HR.out.1
      have u2 : W1.heap[B + 1]? = some (.cells #[.int .i64 0, .int .i64 0, .int .i64 0, .int .i64 0, .int .i64 0, .int .i64 0, .int .i64 0, .int .i64 0, .int .i64 0, .int .i64 0] 28 (0, 0)) := by rw [← hW1, Below.heap_alloc _ _ _ (by omega)]; exact HR.out.2.1
      have u3 : Below B w W1 := by rw [← hW1]; exact HR.out.2.2.alloc (by omega) _
      have hsz : W1.heap.size = A + 1 := by rw [← hW1]; simp [hA]
      have HU := Lib.hid (And.intro u0 (And.intro u1 (And.intro u2 (And.intro u3 hsz))))
      obtain ⟨m0, m1, m2, m3, m4, m5, m6, m7, m8, m9, m10, m11⟩ := blk12 u0
      clear u0 u1 u2 u3 hsz HR HI
      by_cases hpk : pk = 0
      · subst hpk
        cases cb
        · go_wp2_with (first
            | (go_at_call 24
               refine (cc _ HU.out.2.2.2.1).mono ?_
               clear cc
               rintro e w1 ⟨rfl, hB1⟩
               have v0 := (hB1.block A (by have := HU.out.2.2.2.2; omega)).trans HU.out.1
               have v1 := (hB1.block B (by have := HU.out.2.2.2.2; omega)).trans HU.out.2.1
               have v2 := (hB1.block (B + 1) (by have := HU.out.2.2.2.2; omega)).trans HU.out.2.2.1
               have v3 := HU.out.2.2.2.1.trans (hB1.mono (by have := HU.out.2.2.2.2; omega))
               have v4 := hB1.size
               obtain ⟨n0, n1, n2, n3, n4, n5, n6, n7, n8, n9, n10, n11⟩ := blk12 v0
               obtain ⟨k0, k1, k2, k3, k4, k5, k6, k7, k8, k9, kf0, kf1, kf2, kf3, kf4, kf5, kf6, kf7, kf8, kf9⟩ := blk10 v1
               have HV := Lib.hid (And.intro v0 (And.intro v1 (And.intro v2 (And.intro v3 (show A + 1 ≤ w1.heap.size by have := HU.out.2.2.2.2; omega)))))
               clear hB1 v0 v1 v2 v3 v4)
            | (go_at_call 52
               refine (c52 _).mono ?_
               clear c52
               rintro e w2 ⟨rfl, hB2⟩
               have v1 := (hB2.block B (by have := HV.out.2.2.2.2; omega)).trans HV.out.2.1
               have v2 := (hB2.block (B + 1) (by have := HV.out.2.2.2.2; omega)).trans HV.out.2.2.1
               have v3 := HV.out.2.2.2.1.trans (hB2.mono (by have := HV.out.2.2.2.2; omega))
               obtain ⟨q0, q1, q2, q3, q4, q5, q6, q7, q8, q9, qf0, qf1, qf2, qf3, qf4, qf5, qf6, qf7, qf8, qf9⟩ := blk10 v1
               have HQ := Lib.hid (And.intro v1 (And.intro v2 v3))
               clear hB2 v1 v2 v3))
          go_roundw
          case rel =>
            refine ⟨k + 1, by omega, by go_num, Lib.hid ?_⟩
            rw [HX.out, if_neg (fun h => by cases h.2)]
            exact ⟨HV.out.2.1, HV.out.2.2.1, HV.out.2.2.2.1⟩
          case measure => simp [RowKit.intOf]; omega
        · go_wp2_with (first
            | (go_at_call 24
               refine (cc _ HU.out.2.2.2.1).mono ?_
               clear cc
               rintro e w1 ⟨rfl, hB1⟩
               have v0 := (hB1.block A (by have := HU.out.2.2.2.2; omega)).trans HU.out.1
               have v1 := (hB1.block B (by have := HU.out.2.2.2.2; omega)).trans HU.out.2.1
               have v2 := (hB1.block (B + 1) (by have := HU.out.2.2.2.2; omega)).trans HU.out.2.2.1
               have v3 := HU.out.2.2.2.1.trans (hB1.mono (by have := HU.out.2.2.2.2; omega))
               have v4 := hB1.size
               obtain ⟨n0, n1, n2, n3, n4, n5, n6, n7, n8, n9, n10, n11⟩ := blk12 v0
               obtain ⟨k0, k1, k2, k3, k4, k5, k6, k7, k8, k9, kf0, kf1, kf2, kf3, kf4, kf5, kf6, kf7, kf8, kf9⟩ := blk10 v1
               have HV := Lib.hid (And.intro v0 (And.intro v1 (And.intro v2 (And.intro v3 (show A + 1 ≤ w1.heap.size by have := HU.out.2.2.2.2; omega)))))
               clear hB1 v0 v1 v2 v3 v4)
            | (go_at_call 52
               refine (c52 _).mono ?_
               clear c52
               rintro e w2 ⟨rfl, hB2⟩
               have v1 := (hB2.block B (by have := HV.out.2.2.2.2; omega)).trans HV.out.2.1
               have v2 := (hB2.block (B + 1) (by have := HV.out.2.2.2.2; omega)).trans HV.out.2.2.1
               have v3 := HV.out.2.2.2.1.trans (hB2.mono (by have := HV.out.2.2.2.2; omega))
               obtain ⟨q0, q1, q2, q3, q4, q5, q6, q7, q8, q9, qf0, qf1, qf2, qf3, qf4, qf5, qf6, qf7, qf8, qf9⟩ := blk10 v1
               have HQ := Lib.hid (And.intro v1 (And.intro v2 v3))
               clear hB2 v1 v2 v3))
          obtain ⟨W5, hW5, g1, g2, g3, g4⟩ := set10 HQ.out.1 (.int .i64 r0) (.int .i64 r1) (.int .i64 r2) (.int .i64 r3) (.int .i64 r4) (.int .i64 r5) (.int .i64 r6) (.int .i64 r7) (.int .i64 r8) (.int .i64 r9)
          rw [hW5]
          clear hW5
          go_roundw
          case rel =>
            refine ⟨k + 1, by omega, by go_num, Lib.hid ?_⟩
            rw [HX.out, if_pos (by simp)]
            exact ⟨g1, (g3 (B + 1) (by omega)).trans HQ.out.2.1, g4 B w HQ.out.2.2 (Nat.le_refl _)⟩
          case measure => simp [RowKit.intOf]; omega
      · have hpk' : (pk == 0) = false := by simpa using hpk
        go_wp2_with fail
        go_roundw
        case rel =>
          refine ⟨k + 1, by omega, by go_num, Lib.hid ?_⟩
          rw [HX.out, if_neg (fun h => hpk h.1)]
          exact ⟨HU.out.2.1, HU.out.2.2.1, HU.out.2.2.2.1⟩
        case measure => simp [RowKit.intOf]; omega
    · obtain rfl : k = l.size := by omega
      obtain ⟨t, ht⟩ : ∃ t, foldT ((fun x => x.act == z)) l l.size = t := ⟨_, rfl⟩
      rw [ht] at HR
      have HTT := Lib.hid ht
      clear ht HI
      obtain ⟨a0, a1, a2, a3, a4, a5, a6, a7, a8, a9⟩ := t
      dsimp only at HR
      obtain ⟨k0, k1, k2, k3, k4, k5, k6, k7, k8, k9, kf0, kf1, kf2, kf3, kf4, kf5, kf6, kf7, kf8, kf9⟩ := blk10 HR.out.1
      obtain ⟨q0, q1, q2, q3, q4, q5, q6, q7, q8, q9, qf0, qf1, qf2, qf3, qf4, qf5, qf6, qf7, qf8, qf9⟩ := blk10 HR.out.2.1
      clear kf0 kf1 kf2 kf3 kf4 kf5 kf6 kf7 kf8 kf9
      go_wp2_with fail
      obtain ⟨W5, hW5, g1, g2, g3, g4⟩ := set10 HR.out.2.1 (.int .i64 a0) (.int .i64 a1) (.int .i64 a2) (.int .i64 a3) (.int .i64 a4) (.int .i64 a5) (.int .i64 a6) (.int .i64 a7) (.int .i64 a8) (.int .i64 a9)
      rw [hW5]
      clear hW5
      obtain ⟨p0, p1, p2, p3, p4, p5, p6, p7, p8, p9, _⟩ := blk10 g1
      have HZ := Lib.hid (g4 B w HR.out.2.2 (by omega))
      clear g1 g2 g3 g4
      refine bodyPost_ret (v := .agg #[.int .i64 a0, .int .i64 a1, .int .i64 a2, .int .i64 a3, .int .i64 a4, .int .i64 a5, .int .i64 a6, .int .i64 a7, .int .i64 a8, .int .i64 a9]) (by simp [results, Tryz.results51, go_sem, p0, p1, p2, p3, p4, p5, p6, p7, p8, p9]) rfl ⟨by rw [HTT.out]; rfl, ?_⟩
      rw [hBB]
      exact HZ.out
end Go.Proofs.YtppdhckcempmnaaGreatDoor.Ce

/- The program's tallies: of an actor, of all. -/
namespace Go.Proofs.YtppdhckcempmnaaGreatDoor.Ce
open Go Go.RowKit Go.Lib
set_option maxRecDepth 1000000 in
set_option maxHeartbeats 6400000 in
theorem sum_all (al : Option Addr) (cl : Nat) (l : Array Ev)  (w : World)  (hT : Tr w al l) (hn : l.size ≤ 600) :
    Calls Tryz.prog 23 #[.slice al l.size cl, .func (.func 19) #[] #[]] w fun e w' => e = .returned (foldT (fun _ => true) l l.size).val ∧ Below w.heap.size w w' := by
  have hB0 : Below w.heap.size w (w.alloc (.cells #[.int .i64 0, .int .i64 0, .int .i64 0, .int .i64 0, .int .i64 0, .int .i64 0, .int .i64 0, .int .i64 0, .int .i64 0, .int .i64 0] 28)) := (Below.refl _ _).alloc (Nat.le_refl _) _
  have h0 : (w.alloc (.cells #[.int .i64 0, .int .i64 0, .int .i64 0, .int .i64 0, .int .i64 0, .int .i64 0, .int .i64 0, .int .i64 0, .int .i64 0, .int .i64 0] 28)).heap[w.heap.size]? = some (.cells #[.int .i64 0, .int .i64 0, .int .i64 0, .int .i64 0, .int .i64 0, .int .i64 0, .int .i64 0, .int .i64 0, .int .i64 0, .int .i64 0] 28 (0, 0)) := heap_new _ _
  have hsz : (w.alloc (.cells #[.int .i64 0, .int .i64 0, .int .i64 0, .int .i64 0, .int .i64 0, .int .i64 0, .int .i64 0, .int .i64 0, .int .i64 0, .int .i64 0] 28)).heap.size = w.heap.size + 1 := by simp
  have c51 := fold_all al cl l (w.alloc (.cells #[.int .i64 0, .int .i64 0, .int .i64 0, .int .i64 0, .int .i64 0, .int .i64 0, .int .i64 0, .int .i64 0, .int .i64 0, .int .i64 0] 28)) (hT.below hB0) hn
  have HH := Lib.hid (And.intro hB0 (And.intro h0 hsz))
  clear hB0 h0 hsz hT
  obtain ⟨t, ht⟩ : ∃ t, foldT (fun _ => true) l l.size = t := ⟨_, rfl⟩
  rw [ht] at c51
  have HTT := Lib.hid ht
  clear ht
  obtain ⟨a0, a1, a2, a3, a4, a5, a6, a7, a8, a9⟩ := t
  unfold Tl.val at c51
  dsimp only at c51
  go_enter Tryz.func23, Tryz.ntmps23
  go_wp2_with (go_at_call 51; refine c51.mono ?_; clear c51; rintro e w2 ⟨rfl, hB2⟩; have v1 := (hB2.block w.heap.size (by have := HH.out.2.2; omega)).trans HH.out.2.1; obtain ⟨q0, q1, q2, q3, q4, q5, q6, q7, q8, q9, qf0, qf1, qf2, qf3, qf4, qf5, qf6, qf7, qf8, qf9⟩ := blk10 v1; have HV := Lib.hid (And.intro v1 (HH.out.1.trans (hB2.mono (by have := HH.out.2.2; omega)))); clear hB2 v1)
  obtain ⟨W5, hW5, g1, g2, g3, g4⟩ := set10 HV.out.1 (.int .i64 a0) (.int .i64 a1) (.int .i64 a2) (.int .i64 a3) (.int .i64 a4) (.int .i64 a5) (.int .i64 a6) (.int .i64 a7) (.int .i64 a8) (.int .i64 a9)
  rw [hW5]
  clear hW5
  obtain ⟨p0, p1, p2, p3, p4, p5, p6, p7, p8, p9, _⟩ := blk10 g1
  have HZ := Lib.hid (g4 w.heap.size w HV.out.2 (by omega))
  clear g1 g2 g3 g4
  refine bodyPost_ret (v := .agg #[.int .i64 a0, .int .i64 a1, .int .i64 a2, .int .i64 a3, .int .i64 a4, .int .i64 a5, .int .i64 a6, .int .i64 a7, .int .i64 a8, .int .i64 a9]) (by simp [results, Tryz.results23, go_sem, p0, p1, p2, p3, p4, p5, p6, p7, p8, p9]) rfl ⟨by rw [HTT.out]; rfl, ?_⟩
  exact HZ.out
set_option maxRecDepth 1000000 in
set_option maxHeartbeats 6400000 in
theorem sum_actor (al : Option Addr) (cl : Nat) (l : Array Ev) (z : Int) (pb : Nat) (w : World) (hz : w.cell? ⟨pb, 0, none⟩ = some (.int .i64 z)) (hpb : pb < w.heap.size) (hT : Tr w al l) (hn : l.size ≤ 600) :
    Calls Tryz.prog 23 #[.slice al l.size cl, .func (.func 24) #[] #[.pointer (some ⟨pb, 0, none⟩)]] w fun e w' => e = .returned (foldT (fun x => x.act == z) l l.size).val ∧ Below w.heap.size w w' := by
  have hB0 : Below w.heap.size w (w.alloc (.cells #[.int .i64 0, .int .i64 0, .int .i64 0, .int .i64 0, .int .i64 0, .int .i64 0, .int .i64 0, .int .i64 0, .int .i64 0, .int .i64 0] 28)) := (Below.refl _ _).alloc (Nat.le_refl _) _
  have h0 : (w.alloc (.cells #[.int .i64 0, .int .i64 0, .int .i64 0, .int .i64 0, .int .i64 0, .int .i64 0, .int .i64 0, .int .i64 0, .int .i64 0, .int .i64 0] 28)).heap[w.heap.size]? = some (.cells #[.int .i64 0, .int .i64 0, .int .i64 0, .int .i64 0, .int .i64 0, .int .i64 0, .int .i64 0, .int .i64 0, .int .i64 0, .int .i64 0] 28 (0, 0)) := heap_new _ _
  have hsz : (w.alloc (.cells #[.int .i64 0, .int .i64 0, .int .i64 0, .int .i64 0, .int .i64 0, .int .i64 0, .int .i64 0, .int .i64 0, .int .i64 0, .int .i64 0] 28)).heap.size = w.heap.size + 1 := by simp
  have c51 := fold_actor al cl l z pb (w.alloc (.cells #[.int .i64 0, .int .i64 0, .int .i64 0, .int .i64 0, .int .i64 0, .int .i64 0, .int .i64 0, .int .i64 0, .int .i64 0, .int .i64 0] 28)) ((hB0.cell (p := ⟨pb, 0, none⟩) hpb).trans hz) (by omega) (hT.below hB0) hn
  have HH := Lib.hid (And.intro hB0 (And.intro h0 hsz))
  clear hB0 h0 hsz hT
  obtain ⟨t, ht⟩ : ∃ t, foldT (fun x => x.act == z) l l.size = t := ⟨_, rfl⟩
  rw [ht] at c51
  have HTT := Lib.hid ht
  clear ht
  obtain ⟨a0, a1, a2, a3, a4, a5, a6, a7, a8, a9⟩ := t
  unfold Tl.val at c51
  dsimp only at c51
  go_enter Tryz.func23, Tryz.ntmps23
  go_wp2_with (go_at_call 51; refine c51.mono ?_; clear c51; rintro e w2 ⟨rfl, hB2⟩; have v1 := (hB2.block w.heap.size (by have := HH.out.2.2; omega)).trans HH.out.2.1; obtain ⟨q0, q1, q2, q3, q4, q5, q6, q7, q8, q9, qf0, qf1, qf2, qf3, qf4, qf5, qf6, qf7, qf8, qf9⟩ := blk10 v1; have HV := Lib.hid (And.intro v1 (HH.out.1.trans (hB2.mono (by have := HH.out.2.2; omega)))); clear hB2 v1)
  obtain ⟨W5, hW5, g1, g2, g3, g4⟩ := set10 HV.out.1 (.int .i64 a0) (.int .i64 a1) (.int .i64 a2) (.int .i64 a3) (.int .i64 a4) (.int .i64 a5) (.int .i64 a6) (.int .i64 a7) (.int .i64 a8) (.int .i64 a9)
  rw [hW5]
  clear hW5
  obtain ⟨p0, p1, p2, p3, p4, p5, p6, p7, p8, p9, _⟩ := blk10 g1
  have HZ := Lib.hid (g4 w.heap.size w HV.out.2 (by omega))
  clear g1 g2 g3 g4
  refine bodyPost_ret (v := .agg #[.int .i64 a0, .int .i64 a1, .int .i64 a2, .int .i64 a3, .int .i64 a4, .int .i64 a5, .int .i64 a6, .int .i64 a7, .int .i64 a8, .int .i64 a9]) (by simp [results, Tryz.results23, go_sem, p0, p1, p2, p3, p4, p5, p6, p7, p8, p9]) rfl ⟨by rw [HTT.out]; rfl, ?_⟩
  exact HZ.out
set_option maxRecDepth 1000000 in
set_option maxHeartbeats 6400000 in
theorem all_any (al : Option Addr) (cl : Nat) (l : Array Ev) (w : World) (hT : Tr w al l) (hn : l.size ≤ 600) :
    Calls Tryz.prog 9 #[.slice al l.size cl] w fun e w' => e = .returned (foldT (fun _ => true) l l.size).val ∧ Below w.heap.size w w' := by
  have hB0 : Below w.heap.size w (w.alloc (.cells #[.int .i64 0, .int .i64 0, .int .i64 0, .int .i64 0, .int .i64 0, .int .i64 0, .int .i64 0, .int .i64 0, .int .i64 0, .int .i64 0] 28)) := (Below.refl _ _).alloc (Nat.le_refl _) _
  have h0 : (w.alloc (.cells #[.int .i64 0, .int .i64 0, .int .i64 0, .int .i64 0, .int .i64 0, .int .i64 0, .int .i64 0, .int .i64 0, .int .i64 0, .int .i64 0] 28)).heap[w.heap.size]? = some (.cells #[.int .i64 0, .int .i64 0, .int .i64 0, .int .i64 0, .int .i64 0, .int .i64 0, .int .i64 0, .int .i64 0, .int .i64 0, .int .i64 0] 28 (0, 0)) := heap_new _ _
  have hsz : (w.alloc (.cells #[.int .i64 0, .int .i64 0, .int .i64 0, .int .i64 0, .int .i64 0, .int .i64 0, .int .i64 0, .int .i64 0, .int .i64 0, .int .i64 0] 28)).heap.size = w.heap.size + 1 := by simp
  have c51 := sum_all al cl l (w.alloc (.cells #[.int .i64 0, .int .i64 0, .int .i64 0, .int .i64 0, .int .i64 0, .int .i64 0, .int .i64 0, .int .i64 0, .int .i64 0, .int .i64 0] 28)) (hT.below hB0) hn
  have HH := Lib.hid (And.intro hB0 (And.intro h0 hsz))
  clear hB0 h0 hsz hT
  obtain ⟨t, ht⟩ : ∃ t, foldT (fun _ => true) l l.size = t := ⟨_, rfl⟩
  rw [ht] at c51
  have HTT := Lib.hid ht
  clear ht
  obtain ⟨a0, a1, a2, a3, a4, a5, a6, a7, a8, a9⟩ := t
  unfold Tl.val at c51
  dsimp only at c51
  go_enter Tryz.func9, Tryz.ntmps9
  go_wp2_with (go_at_call 23; refine c51.mono ?_; clear c51; rintro e w2 ⟨rfl, hB2⟩; have v1 := (hB2.block w.heap.size (by have := HH.out.2.2; omega)).trans HH.out.2.1; obtain ⟨q0, q1, q2, q3, q4, q5, q6, q7, q8, q9, qf0, qf1, qf2, qf3, qf4, qf5, qf6, qf7, qf8, qf9⟩ := blk10 v1; have HV := Lib.hid (And.intro v1 (HH.out.1.trans (hB2.mono (by have := HH.out.2.2; omega)))); clear hB2 v1)
  obtain ⟨W5, hW5, g1, g2, g3, g4⟩ := set10 HV.out.1 (.int .i64 a0) (.int .i64 a1) (.int .i64 a2) (.int .i64 a3) (.int .i64 a4) (.int .i64 a5) (.int .i64 a6) (.int .i64 a7) (.int .i64 a8) (.int .i64 a9)
  rw [hW5]
  clear hW5
  obtain ⟨p0, p1, p2, p3, p4, p5, p6, p7, p8, p9, _⟩ := blk10 g1
  have HZ := Lib.hid (g4 w.heap.size w HV.out.2 (by omega))
  clear g1 g2 g3 g4
  refine bodyPost_ret (v := .agg #[.int .i64 a0, .int .i64 a1, .int .i64 a2, .int .i64 a3, .int .i64 a4, .int .i64 a5, .int .i64 a6, .int .i64 a7, .int .i64 a8, .int .i64 a9]) (by simp [results, Tryz.results9, go_sem, p0, p1, p2, p3, p4, p5, p6, p7, p8, p9]) rfl ⟨by rw [HTT.out]; rfl, ?_⟩
  exact HZ.out
set_option maxRecDepth 1000000 in
set_option maxHeartbeats 6400000 in
theorem actor_any (al : Option Addr) (cl : Nat) (l : Array Ev) (z : Int) (w : World) (hT : Tr w al l) (hn : l.size ≤ 600) :
    Calls Tryz.prog 7 #[.slice al l.size cl, .int .i64 z] w fun e w' => e = .returned (foldT (fun x => x.act == z) l l.size).val ∧ Below w.heap.size w w' := by
  have hsz : (w.alloc (.cells #[.int .i64 z] 3)).heap.size = w.heap.size + 1 := by simp
  have hB0 : Below w.heap.size w ((w.alloc (.cells #[.int .i64 z] 3)).alloc (.cells #[.int .i64 0, .int .i64 0, .int .i64 0, .int .i64 0, .int .i64 0, .int .i64 0, .int .i64 0, .int .i64 0, .int .i64 0, .int .i64 0] 28)) := ((Below.refl _ _).alloc (Nat.le_refl _) _).alloc (by omega) _
  have hz : ((w.alloc (.cells #[.int .i64 z] 3)).alloc (.cells #[.int .i64 0, .int .i64 0, .int .i64 0, .int .i64 0, .int .i64 0, .int .i64 0, .int .i64 0, .int .i64 0, .int .i64 0, .int .i64 0] 28)).cell? ⟨w.heap.size, 0, none⟩ = some (.int .i64 z) := by
    have h1 : ((w.alloc (.cells #[.int .i64 z] 3)).alloc (.cells #[.int .i64 0, .int .i64 0, .int .i64 0, .int .i64 0, .int .i64 0, .int .i64 0, .int .i64 0, .int .i64 0, .int .i64 0, .int .i64 0] 28)).heap[w.heap.size]? = some (.cells #[.int .i64 z] 3 (0, 0)) := by
      rw [Below.heap_alloc _ _ _ (by omega)]; exact heap_new _ _
    simp [World.cell?, h1]
  have h0 : ((w.alloc (.cells #[.int .i64 z] 3)).alloc (.cells #[.int .i64 0, .int .i64 0, .int .i64 0, .int .i64 0, .int .i64 0, .int .i64 0, .int .i64 0, .int .i64 0, .int .i64 0, .int .i64 0] 28)).heap[w.heap.size + 1]? = some (.cells #[.int .i64 0, .int .i64 0, .int .i64 0, .int .i64 0, .int .i64 0, .int .i64 0, .int .i64 0, .int .i64 0, .int .i64 0, .int .i64 0] 28 (0, 0)) := by rw [← hsz]; exact heap_new _ _
  have hsz2 : ((w.alloc (.cells #[.int .i64 z] 3)).alloc (.cells #[.int .i64 0, .int .i64 0, .int .i64 0, .int .i64 0, .int .i64 0, .int .i64 0, .int .i64 0, .int .i64 0, .int .i64 0, .int .i64 0] 28)).heap.size = w.heap.size + 2 := by simp
  have c51 := sum_actor al cl l z w.heap.size ((w.alloc (.cells #[.int .i64 z] 3)).alloc (.cells #[.int .i64 0, .int .i64 0, .int .i64 0, .int .i64 0, .int .i64 0, .int .i64 0, .int .i64 0, .int .i64 0, .int .i64 0, .int .i64 0] 28)) hz (by omega) (hT.below hB0) hn
  have HH := Lib.hid (And.intro hB0 (And.intro h0 hsz2))
  clear hB0 h0 hsz hT hz hsz2
  obtain ⟨t, ht⟩ : ∃ t, foldT (fun x => x.act == z) l l.size = t := ⟨_, rfl⟩
  rw [ht] at c51
  have HTT := Lib.hid ht
  clear ht
  obtain ⟨a0, a1, a2, a3, a4, a5, a6, a7, a8, a9⟩ := t
  unfold Tl.val at c51
  dsimp only at c51
  go_enter Tryz.func7, Tryz.ntmps7
  go_wp2_with (go_at_call 23; refine c51.mono ?_; clear c51; rintro e w2 ⟨rfl, hB2⟩; have v1 := (hB2.block (w.heap.size + 1) (by have := HH.out.2.2; omega)).trans HH.out.2.1; obtain ⟨q0, q1, q2, q3, q4, q5, q6, q7, q8, q9, qf0, qf1, qf2, qf3, qf4, qf5, qf6, qf7, qf8, qf9⟩ := blk10 v1; have HV := Lib.hid (And.intro v1 (HH.out.1.trans (hB2.mono (by have := HH.out.2.2; omega)))); clear hB2 v1)
  obtain ⟨W5, hW5, g1, g2, g3, g4⟩ := set10 HV.out.1 (.int .i64 a0) (.int .i64 a1) (.int .i64 a2) (.int .i64 a3) (.int .i64 a4) (.int .i64 a5) (.int .i64 a6) (.int .i64 a7) (.int .i64 a8) (.int .i64 a9)
  rw [hW5]
  clear hW5
  obtain ⟨p0, p1, p2, p3, p4, p5, p6, p7, p8, p9, _⟩ := blk10 g1
  have HZ := Lib.hid (g4 w.heap.size w HV.out.2 (by omega))
  clear g1 g2 g3 g4
  refine bodyPost_ret (v := .agg #[.int .i64 a0, .int .i64 a1, .int .i64 a2, .int .i64 a3, .int .i64 a4, .int .i64 a5, .int .i64 a6, .int .i64 a7, .int .i64 a8, .int .i64 a9]) (by simp [results, Tryz.results7, go_sem, p0, p1, p2, p3, p4, p5, p6, p7, p8, p9]) rfl ⟨by rw [HTT.out]; rfl, ?_⟩
  exact HZ.out
/-- which events the document counts -/
def cntR (z : Int) (all : Bool) (x : Ev) : Bool := all || x.act == z
end Go.Proofs.YtppdhckcempmnaaGreatDoor.Ce
