/- The document's tally. -/
import Derived.Test.YtppdhckcempmnaaGreatDoorB4
namespace Go.Proofs.YtppdhckcempmnaaGreatDoor.Ce
open Go Go.RowKit Go.Lib
theorem ak_cases_d (z : Int) (d : Bool) : z = 0 ∨ z = 1 ∨ z = 2 ∨ z = 3 ∨ (z = 4 ∧ d = true) ∨ (z = 4 ∧ d = false) ∨ z = 5 ∨ z = 6 ∨ ((z == 0) = false ∧ (z == 1) = false ∧ (z == 2) = false ∧ (z == 3) = false ∧ (z == 4) = false ∧ (z == 5) = false ∧ (z == 6) = false) := by
  rcases ak_cases z with h | h | h | h | h | h | h | h
  · exact .inl h
  · exact .inr (.inl h)
  · exact .inr (.inr (.inl h))
  · exact .inr (.inr (.inr (.inl h)))
  · cases d with
    | true => exact .inr (.inr (.inr (.inr (.inl ⟨h, rfl⟩))))
    | false => exact .inr (.inr (.inr (.inr (.inr (.inl ⟨h, rfl⟩)))))
  · exact .inr (.inr (.inr (.inr (.inr (.inr (.inl h))))))
  · exact .inr (.inr (.inr (.inr (.inr (.inr (.inr (.inl h)))))))
  · exact .inr (.inr (.inr (.inr (.inr (.inr (.inr (.inr h)))))))
/-- the result's block, the running tally's, and what lay below -/
structure Acc2 (w W : World) (B : Nat) (t : Tl) : Prop where
  z : W.heap[B]? = some (.cells #[.int .i64 0, .int .i64 0, .int .i64 0, .int .i64 0, .int .i64 0, .int .i64 0, .int .i64 0, .int .i64 0, .int .i64 0, .int .i64 0] 28 (0, 0))
  t : W.heap[B + 1]? = some (.cells #[.int .i64 t.f0, .int .i64 t.f1, .int .i64 t.f2, .int .i64 t.f3, .int .i64 t.f4, .int .i64 t.f5, .int .i64 t.f6, .int .i64 t.f7, .int .i64 t.f8, .int .i64 t.f9] 28 (0, 0))
  b : Below B w W
theorem Acc2.s0 {w W : World} {B : Nat} {t : Tl} (h : Acc2 w W B t) (u : Int) : Acc2 w (W.setCell ⟨B + 1, 0, none⟩ (.int .i64 u)) B { t with f0 := u } := by
  have h1 := heap_setAt 0 (.int .i64 u) h.t
  simp only [Array.set!_eq_setIfInBounds, List.setIfInBounds_toArray, List.set_cons_zero] at h1
  exact ⟨(Below.heap_setCell _ _ _ _ (by show ¬ B = B + 1; omega)).trans h.z, h1, h.b.setCell (by show B ≤ B + 1; omega) _⟩
theorem Acc2.s1 {w W : World} {B : Nat} {t : Tl} (h : Acc2 w W B t) (u : Int) : Acc2 w (W.setCell ⟨B + 1, 1, none⟩ (.int .i64 u)) B { t with f1 := u } := by
  have h1 := heap_setAt 1 (.int .i64 u) h.t
  simp only [Array.set!_eq_setIfInBounds, List.setIfInBounds_toArray, List.set_cons_zero, List.set_cons_succ] at h1
  exact ⟨(Below.heap_setCell _ _ _ _ (by show ¬ B = B + 1; omega)).trans h.z, h1, h.b.setCell (by show B ≤ B + 1; omega) _⟩
theorem Acc2.s2 {w W : World} {B : Nat} {t : Tl} (h : Acc2 w W B t) (u : Int) : Acc2 w (W.setCell ⟨B + 1, 2, none⟩ (.int .i64 u)) B { t with f2 := u } := by
  have h1 := heap_setAt 2 (.int .i64 u) h.t
  simp only [Array.set!_eq_setIfInBounds, List.setIfInBounds_toArray, List.set_cons_zero, List.set_cons_succ] at h1
  exact ⟨(Below.heap_setCell _ _ _ _ (by show ¬ B = B + 1; omega)).trans h.z, h1, h.b.setCell (by show B ≤ B + 1; omega) _⟩
theorem Acc2.s3 {w W : World} {B : Nat} {t : Tl} (h : Acc2 w W B t) (u : Int) : Acc2 w (W.setCell ⟨B + 1, 3, none⟩ (.int .i64 u)) B { t with f3 := u } := by
  have h1 := heap_setAt 3 (.int .i64 u) h.t
  simp only [Array.set!_eq_setIfInBounds, List.setIfInBounds_toArray, List.set_cons_zero, List.set_cons_succ] at h1
  exact ⟨(Below.heap_setCell _ _ _ _ (by show ¬ B = B + 1; omega)).trans h.z, h1, h.b.setCell (by show B ≤ B + 1; omega) _⟩
theorem Acc2.s4 {w W : World} {B : Nat} {t : Tl} (h : Acc2 w W B t) (u : Int) : Acc2 w (W.setCell ⟨B + 1, 4, none⟩ (.int .i64 u)) B { t with f4 := u } := by
  have h1 := heap_setAt 4 (.int .i64 u) h.t
  simp only [Array.set!_eq_setIfInBounds, List.setIfInBounds_toArray, List.set_cons_zero, List.set_cons_succ] at h1
  exact ⟨(Below.heap_setCell _ _ _ _ (by show ¬ B = B + 1; omega)).trans h.z, h1, h.b.setCell (by show B ≤ B + 1; omega) _⟩
theorem Acc2.s5 {w W : World} {B : Nat} {t : Tl} (h : Acc2 w W B t) (u : Int) : Acc2 w (W.setCell ⟨B + 1, 5, none⟩ (.int .i64 u)) B { t with f5 := u } := by
  have h1 := heap_setAt 5 (.int .i64 u) h.t
  simp only [Array.set!_eq_setIfInBounds, List.setIfInBounds_toArray, List.set_cons_zero, List.set_cons_succ] at h1
  exact ⟨(Below.heap_setCell _ _ _ _ (by show ¬ B = B + 1; omega)).trans h.z, h1, h.b.setCell (by show B ≤ B + 1; omega) _⟩
theorem Acc2.s6 {w W : World} {B : Nat} {t : Tl} (h : Acc2 w W B t) (u : Int) : Acc2 w (W.setCell ⟨B + 1, 6, none⟩ (.int .i64 u)) B { t with f6 := u } := by
  have h1 := heap_setAt 6 (.int .i64 u) h.t
  simp only [Array.set!_eq_setIfInBounds, List.setIfInBounds_toArray, List.set_cons_zero, List.set_cons_succ] at h1
  exact ⟨(Below.heap_setCell _ _ _ _ (by show ¬ B = B + 1; omega)).trans h.z, h1, h.b.setCell (by show B ≤ B + 1; omega) _⟩
theorem Acc2.s7 {w W : World} {B : Nat} {t : Tl} (h : Acc2 w W B t) (u : Int) : Acc2 w (W.setCell ⟨B + 1, 7, none⟩ (.int .i64 u)) B { t with f7 := u } := by
  have h1 := heap_setAt 7 (.int .i64 u) h.t
  simp only [Array.set!_eq_setIfInBounds, List.setIfInBounds_toArray, List.set_cons_zero, List.set_cons_succ] at h1
  exact ⟨(Below.heap_setCell _ _ _ _ (by show ¬ B = B + 1; omega)).trans h.z, h1, h.b.setCell (by show B ≤ B + 1; omega) _⟩
theorem Acc2.s8 {w W : World} {B : Nat} {t : Tl} (h : Acc2 w W B t) (u : Int) : Acc2 w (W.setCell ⟨B + 1, 8, none⟩ (.int .i64 u)) B { t with f8 := u } := by
  have h1 := heap_setAt 8 (.int .i64 u) h.t
  simp only [Array.set!_eq_setIfInBounds, List.setIfInBounds_toArray, List.set_cons_zero, List.set_cons_succ] at h1
  exact ⟨(Below.heap_setCell _ _ _ _ (by show ¬ B = B + 1; omega)).trans h.z, h1, h.b.setCell (by show B ≤ B + 1; omega) _⟩
theorem Acc2.s9 {w W : World} {B : Nat} {t : Tl} (h : Acc2 w W B t) (u : Int) : Acc2 w (W.setCell ⟨B + 1, 9, none⟩ (.int .i64 u)) B { t with f9 := u } := by
  have h1 := heap_setAt 9 (.int .i64 u) h.t
  simp only [Array.set!_eq_setIfInBounds, List.setIfInBounds_toArray, List.set_cons_zero, List.set_cons_succ] at h1
  exact ⟨(Below.heap_setCell _ _ _ _ (by show ¬ B = B + 1; omega)).trans h.z, h1, h.b.setCell (by show B ≤ B + 1; omega) _⟩
set_option maxRecDepth 1000000 in
set_option maxHeartbeats 25600000 in
theorem tallyR_any (al : Option Addr) (cl : Nat) (l : Array Ev) (z : Int) (all : Bool) (w : World) (hT : Tr w al l) (hn : l.size ≤ 600) :
    Calls Tryz.prog 8 #[.slice al l.size cl, .int .i64 z, .bool all] w fun e w' => e = .returned (foldT (cntR z all) l l.size).val ∧ Below w.heap.size w w' := by
  have HT := Lib.hid hT
  clear hT
  go_enter Tryz.func8, Tryz.ntmps8
  go_wp2_with fail
  obtain ⟨B, hBB⟩ : ∃ B, w.heap.size = B := ⟨_, rfl⟩
  have h0 : ((w.alloc (.cells #[.int .i64 0, .int .i64 0, .int .i64 0, .int .i64 0, .int .i64 0, .int .i64 0, .int .i64 0, .int .i64 0, .int .i64 0, .int .i64 0] 28)).alloc (.cells #[.int .i64 0, .int .i64 0, .int .i64 0, .int .i64 0, .int .i64 0, .int .i64 0, .int .i64 0, .int .i64 0, .int .i64 0, .int .i64 0] 28)).heap[B]? = some (.cells #[.int .i64 0, .int .i64 0, .int .i64 0, .int .i64 0, .int .i64 0, .int .i64 0, .int .i64 0, .int .i64 0, .int .i64 0, .int .i64 0] 28 (0, 0)) := by
    rw [Below.heap_alloc _ _ _ (by simp; omega), ← hBB]; exact heap_new _ _
  have h1 : ((w.alloc (.cells #[.int .i64 0, .int .i64 0, .int .i64 0, .int .i64 0, .int .i64 0, .int .i64 0, .int .i64 0, .int .i64 0, .int .i64 0, .int .i64 0] 28)).alloc (.cells #[.int .i64 0, .int .i64 0, .int .i64 0, .int .i64 0, .int .i64 0, .int .i64 0, .int .i64 0, .int .i64 0, .int .i64 0, .int .i64 0] 28)).heap[B + 1]? = some (.cells #[.int .i64 0, .int .i64 0, .int .i64 0, .int .i64 0, .int .i64 0, .int .i64 0, .int .i64 0, .int .i64 0, .int .i64 0, .int .i64 0] 28 (0, 0)) := by
    have s1 : (w.alloc (.cells #[.int .i64 0, .int .i64 0, .int .i64 0, .int .i64 0, .int .i64 0, .int .i64 0, .int .i64 0, .int .i64 0, .int .i64 0, .int .i64 0] 28)).heap.size = B + 1 := by simp [hBB]
    rw [← s1]; exact heap_new _ _
  have hB0 : Below B w ((w.alloc (.cells #[.int .i64 0, .int .i64 0, .int .i64 0, .int .i64 0, .int .i64 0, .int .i64 0, .int .i64 0, .int .i64 0, .int .i64 0, .int .i64 0] 28)).alloc (.cells #[.int .i64 0, .int .i64 0, .int .i64 0, .int .i64 0, .int .i64 0, .int .i64 0, .int .i64 0, .int .i64 0, .int .i64 0, .int .i64 0] 28)) := by
    rw [← hBB]; exact ((Below.refl _ _).alloc (Nat.le_refl _) _).alloc (by simp) _
  have HI := Lib.hid (show Acc2 w _ B (foldT (cntR z all) l 0) from ⟨h0, h1, hB0⟩)
  clear h0 h1 hB0
  simp only [hBB]
  go_loopw [12] (fun s wr => ∃ k : Nat, k ≤ l.size ∧ s = .int .i64 k ∧ Hid (Acc2 w wr B (foldT (cntR z all) l k))) (fun s _ => l.size - (RowKit.intOf s).toNat)
  case atStart => exact ⟨0, Nat.zero_le _, rfl, HI⟩
  case round =>
    obtain ⟨k, hk, rfl, HR⟩ := hrel
    clear HI
    by_cases hlt : k < l.size
    · obtain ⟨b, o, rfl, hb, hA⟩ := (HT.out.below (by rw [hBB]; exact HR.out.b)) k hlt
      obtain ⟨c0, c1, c2, c3, c4, c5, c6, c7, c8, c9, c10, c11⟩ := hA
      obtain ⟨x, hx⟩ : ∃ x, l[k]! = x := ⟨_, rfl⟩
      obtain ⟨t, ht⟩ : ∃ t, foldT (cntR z all) l k = t := ⟨_, rfl⟩
      have hnext : foldT (cntR z all) l (k + 1) = if x.pk = 0 ∧ cntR z all x = true then stepR t x else t := by rw [foldT, hx, ht]
      rw [ht] at HR
      rw [hx] at c0 c1 c2 c3 c4 c5 c6 c7 c8 c9 c10 c11
      have HX := Lib.hid hnext
      clear hnext ht hx
      have h1 : (k : Int) < (l.size : Int) := by omega
      have h2 : (0 : Int) ≤ (k : Int) := by omega
      obtain ⟨pk, act, pn, ak, at_, n, v, ww, bo, bl, bc, av, done, ao, al2, ac⟩ := x
      obtain ⟨a0, a1, a2, a3, a4, a5, a6, a7, a8, a9⟩ := t
      dsimp only at c0 c1 c2 c3 c4 c5 c6 c7 c8 c9 c10 c11
      obtain ⟨W1, hW1⟩ : ∃ W1, wr.alloc (.cells #[.int .i64 pk, .int .i64 act, .int .i64 pn, .int .i64 ak, .int .i64 at_, .int .i64 n, .int .u64 v, .int .u64 ww, .slice bo bl bc, .int .u64 av, .bool done, .slice ao al2 ac] 67) = W1 := ⟨_, rfl⟩
      obtain ⟨A, hA⟩ : ∃ A, wr.heap.size = A := ⟨_, rfl⟩
      have hBlt : B + 1 < A := by have := (Array.getElem?_eq_some_iff.1 HR.out.t).1; omega
      have u0 : W1.heap[A]? = some (.cells #[.int .i64 pk, .int .i64 act, .int .i64 pn, .int .i64 ak, .int .i64 at_, .int .i64 n, .int .u64 v, .int .u64 ww, .slice bo bl bc, .int .u64 av, .bool done, .slice ao al2 ac] 67 (0, 0)) := by rw [← hW1, ← hA]; exact heap_new _ _
      have hU : Acc2 w W1 B ⟨a0, a1, a2, a3, a4, a5, a6, a7, a8, a9⟩ := by
        rw [← hW1]
        exact ⟨(Below.heap_alloc _ _ _ (by omega)).trans HR.out.z, (Below.heap_alloc _ _ _ (by omega)).trans HR.out.t, HR.out.b.alloc (by omega) _⟩
      obtain ⟨m0, m1, m2, m3, m4, m5, m6, m7, m8, m9, m10, m11⟩ := blk12 u0
      obtain ⟨q0, q1, q2, q3, q4, q5, q6, q7, q8, q9, qf0, qf1, qf2, qf3, qf4, qf5, qf6, qf7, qf8, qf9⟩ := blk10 hU.t
      have HU := Lib.hid hU
      clear u0 hU HR
      have hne : ¬ A = B + 1 := by omega
      have hne2 : ¬ B + 1 = A := by omega
      by_cases hpk : pk = 0
      · subst hpk
        by_cases hc : cntR z all ⟨0, act, pn, ak, at_, n, v, ww, bo, bl, bc, av, done, ao, al2, ac⟩ = true
        · have HC := Lib.hid hc
          have hor : all = true ∨ (all = false ∧ act = z) := by
            unfold cntR at hc
            cases all with
            | true => exact .inl rfl
            | false => exact .inr ⟨rfl, by simpa using hc⟩
          clear hc
          rcases ak_cases_d ak done with rfl | rfl | rfl | rfl | ⟨rfl, rfl⟩ | ⟨rfl, rfl⟩ | rfl | rfl | ⟨e0, e1, e2, e3, e4, e5, e6⟩
          all_goals (rcases hor with rfl | ⟨rfl, rfl⟩)
          all_goals go_wp2
          all_goals go_roundw
          all_goals first
            | (simp [RowKit.intOf]; omega)
            | (refine ⟨k + 1, by omega, by go_num, Lib.hid ?_⟩
               rw [HX.out, if_pos ⟨rfl, HC.out⟩]
               first
                 | exact HU.out.s9 _
                 | exact HU.out.s0 _
                 | exact HU.out.s1 _
                 | exact HU.out.s2 _
                 | exact HU.out.s3 _
                 | exact (HU.out.s3 _).s4 _
                 | exact (HU.out.s5 _).s7 _
                 | exact (HU.out.s6 _).s8 _
                 | (simp only [beq_eq_false_iff_ne, ne_eq] at e0 e1 e2 e3 e4 e5 e6
                    rw [stepR, if_neg e0, if_neg e1, if_neg e2, if_neg e3, if_neg e4, if_neg e5, if_neg e6]
                    exact HU.out))
        · have HC := Lib.hid hc
          have hor : all = false ∧ (act == z) = false := by
            unfold cntR at hc
            cases all with
            | true => exact absurd rfl hc
            | false => exact ⟨rfl, by simpa using hc⟩
          clear hc
          obtain ⟨rfl, hz⟩ := hor
          go_wp2_with fail
          go_roundw
          case rel =>
            refine ⟨k + 1, by omega, by go_num, Lib.hid ?_⟩
            rw [HX.out, if_neg (fun h => HC.out h.2)]
            exact HU.out
          case measure => simp [RowKit.intOf]; omega
      · have hpk' : (pk == 0) = false := by simpa using hpk
        go_wp2_with fail
        go_roundw
        case rel =>
          refine ⟨k + 1, by omega, by go_num, Lib.hid ?_⟩
          rw [HX.out, if_neg (fun h => hpk h.1)]
          exact HU.out
        case measure => simp [RowKit.intOf]; omega
    · obtain rfl : k = l.size := by omega
      obtain ⟨t, ht⟩ : ∃ t, foldT (cntR z all) l l.size = t := ⟨_, rfl⟩
      rw [ht] at HR
      have HTT := Lib.hid ht
      clear ht
      obtain ⟨a0, a1, a2, a3, a4, a5, a6, a7, a8, a9⟩ := t
      obtain ⟨k0, k1, k2, k3, k4, k5, k6, k7, k8, k9, kf0, kf1, kf2, kf3, kf4, kf5, kf6, kf7, kf8, kf9⟩ := blk10 HR.out.t
      obtain ⟨q0, q1, q2, q3, q4, q5, q6, q7, q8, q9, qf0, qf1, qf2, qf3, qf4, qf5, qf6, qf7, qf8, qf9⟩ := blk10 HR.out.z
      clear kf0 kf1 kf2 kf3 kf4 kf5 kf6 kf7 kf8 kf9
      go_wp2_with fail
      obtain ⟨W5, hW5, g1, g2, g3, g4⟩ := set10 HR.out.z (.int .i64 a0) (.int .i64 a1) (.int .i64 a2) (.int .i64 a3) (.int .i64 a4) (.int .i64 a5) (.int .i64 a6) (.int .i64 a7) (.int .i64 a8) (.int .i64 a9)
      rw [hW5]
      clear hW5
      obtain ⟨p0, p1, p2, p3, p4, p5, p6, p7, p8, p9, _⟩ := blk10 g1
      have HZ := Lib.hid (g4 B w HR.out.b (Nat.le_refl _))
      clear g1 g2 g3 g4
      refine bodyPost_ret (v := .agg #[.int .i64 a0, .int .i64 a1, .int .i64 a2, .int .i64 a3, .int .i64 a4, .int .i64 a5, .int .i64 a6, .int .i64 a7, .int .i64 a8, .int .i64 a9]) (by simp [results, Tryz.results8, go_sem, p0, p1, p2, p3, p4, p5, p6, p7, p8, p9]) rfl ⟨by rw [HTT.out]; rfl, ?_⟩
      first | exact HZ.out | (rw [hBB]; exact HZ.out)
end Go.Proofs.YtppdhckcempmnaaGreatDoor.Ce
