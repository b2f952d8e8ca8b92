/- YtppdhckcempmnaaGreatDoorTal; YtppdhckcempmnaaGreatDoorSum; YtppdhckcempmnaaGreatDoorCSt; YtppdhckcempmnaaGreatDoorNote; YtppdhckcempmnaaGreatDoorFoldM: in one text. -/
import Derived.Test.YtppdhckcempmnaaGreatDoorB1
import Derived.Deep.RegionWith
import Derived.Laws.DeepBits32
import Derived.Deep.LoopGhost
/- The tally of an event; two tallies together. -/
namespace Go.Proofs.YtppdhckcempmnaaGreatDoor.Ce
open Go Go.RowKit Go.Lib
def Tl.val (t : Tl) : Value := .agg #[.int .i64 t.f0, .int .i64 t.f1, .int .i64 t.f2, .int .i64 t.f3, .int .i64 t.f4, .int .i64 t.f5, .int .i64 t.f6, .int .i64 t.f7, .int .i64 t.f8, .int .i64 t.f9]
set_option maxRecDepth 1000000 in
set_option maxHeartbeats 6400000 in
theorem one_any (x : Ev) (w : World) : Calls Tryz.prog 54 #[x.val] w fun e w' => e = .returned (one x).val ∧ Below w.heap.size w w' := by
  obtain ⟨pk, act, pn, ak, at_, n, v, ww, bo, bl, bc, av, done, ao, al, ac⟩ := x
  unfold Ev.val
  dsimp only
  go_enter Tryz.func54, Tryz.ntmps54
  rcases ak_cases ak with rfl | rfl | rfl | rfl | rfl | rfl | rfl | ⟨h0, h1, h2, h3, h4, h5, h6⟩
  all_goals try cases done
  all_goals go_wp2
  all_goals refine bodyPost_ret (v := (one _).val) (by first | (simp [results, Tryz.results54, go_sem, one, Tl.val, Tl.zero]; done) | (simp only [beq_eq_false_iff_ne, ne_eq] at h0 h1 h2 h3 h4 h5 h6; simp [results, Tryz.results54, go_sem, one, Tl.val, Tl.zero, *])) rfl ⟨rfl, ?_⟩
  all_goals (repeat first | exact Below.refl _ _ | refine Below.drew ?_ | refine Below.alloc ?_ (by first | (simp; done) | (simp; omega)) _)
set_option maxRecDepth 1000000 in
set_option maxHeartbeats 6400000 in
theorem plus_any (a b : Tl) (w : World) : Calls Tryz.prog 53 #[a.val, b.val] w fun e w' => e = .returned (plus a b).val ∧ Below w.heap.size w w' := by
  obtain ⟨a0, a1, a2, a3, a4, a5, a6, a7, a8, a9⟩ := a
  obtain ⟨b0, b1, b2, b3, b4, b5, b6, b7, b8, b9⟩ := b
  unfold Tl.val plus W64
  dsimp only
  go_enter Tryz.func53, Tryz.ntmps53
  go_wp2
  refine bodyPost_ret (v := .agg _) (by simp [results, Tryz.results53, go_sem]) rfl ⟨rfl, ?_⟩
  repeat first | exact Below.refl _ _ | refine Below.drew ?_ | refine Below.alloc ?_ (by first | (simp; done) | (simp; omega)) _
theorem always_any (x : Ev) (w : World) : Calls Tryz.prog 19 #[x.val] w fun e w' => e = .returned (.bool true) ∧ Below w.heap.size w w' := by
  obtain ⟨pk, act, pn, ak, at_, n, v, ww, bo, bl, bc, av, done, ao, al, ac⟩ := x
  unfold Ev.val
  dsimp only
  go_enter Tryz.func19, Tryz.ntmps19
  go_wp2
  go_ret
  exact ⟨rfl, (Below.refl _ _).alloc (Nat.le_refl _) _⟩
theorem actor1_any (x : Ev) (z : Int) (pb po : Nat) (w : World) (hc : w.cell? ⟨pb, po, none⟩ = some (.int .i64 z)) (hb : pb < w.heap.size) : Calls Tryz.prog 24 #[x.val, .pointer (some ⟨pb, po, none⟩)] w fun e w' => e = .returned (.bool (x.act == z)) ∧ Below w.heap.size w w' := by
  obtain ⟨pk, act, pn, ak, at_, n, v, ww, bo, bl, bc, av, done, ao, al, ac⟩ := x
  unfold Ev.val
  dsimp only
  go_enter Tryz.func24, Tryz.ntmps24
  have hc2 := (World.cell?_alloc_lt w (.cells #[.int .i64 pk, .int .i64 act, .int .i64 pn, .int .i64 ak, .int .i64 at_, .int .i64 n, .int .u64 v, .int .u64 ww, .slice bo bl bc, .int .u64 av, .bool done, .slice ao al ac] 67) ⟨pb, po, none⟩ hb).trans hc
  have hne : ¬ pb = w.heap.size := by omega
  go_wp2
  go_ret
  exact ⟨rfl, (Below.refl _ _).alloc (Nat.le_refl _) _⟩
end Go.Proofs.YtppdhckcempmnaaGreatDoor.Ce

/- Tallies added up over a trace. -/
namespace Go.Proofs.YtppdhckcempmnaaGreatDoor.Ce
open Go Go.RowKit Go.Lib
theorem blk10 {w : World} {b : Nat} {t : TypeId} {v0 v1 v2 v3 v4 v5 v6 v7 v8 v9 : Value} (h : w.heap[b]? = some (.cells #[v0, v1, v2, v3, v4, v5, v6, v7, v8, v9] t (0, 0))) : w.cell? ⟨b, 0, none⟩ = some v0 ∧ w.cell? ⟨b, 1, none⟩ = some v1 ∧ w.cell? ⟨b, 2, none⟩ = some v2 ∧ w.cell? ⟨b, 3, none⟩ = some v3 ∧ w.cell? ⟨b, 4, none⟩ = some v4 ∧ w.cell? ⟨b, 5, none⟩ = some v5 ∧ w.cell? ⟨b, 6, none⟩ = some v6 ∧ w.cell? ⟨b, 7, none⟩ = some v7 ∧ w.cell? ⟨b, 8, none⟩ = some v8 ∧ w.cell? ⟨b, 9, none⟩ = some v9 ∧ w.frozen? ⟨b, 0, none⟩ = false ∧ w.frozen? ⟨b, 1, none⟩ = false ∧ w.frozen? ⟨b, 2, none⟩ = false ∧ w.frozen? ⟨b, 3, none⟩ = false ∧ w.frozen? ⟨b, 4, none⟩ = false ∧ w.frozen? ⟨b, 5, none⟩ = false ∧ w.frozen? ⟨b, 6, none⟩ = false ∧ w.frozen? ⟨b, 7, none⟩ = false ∧ w.frozen? ⟨b, 8, none⟩ = false ∧ w.frozen? ⟨b, 9, none⟩ = false := by
  refine ⟨?_, ?_, ?_, ?_, ?_, ?_, ?_, ?_, ?_, ?_, ?_, ?_, ?_, ?_, ?_, ?_, ?_, ?_, ?_, ?_⟩ <;> simp [World.cell?, World.frozen?, h]
theorem blk12 {w : World} {b : Nat} {t : TypeId} {v0 v1 v2 v3 v4 v5 v6 v7 v8 v9 v10 v11 : Value} (h : w.heap[b]? = some (.cells #[v0, v1, v2, v3, v4, v5, v6, v7, v8, v9, v10, v11] t (0, 0))) : w.cell? ⟨b, 0, none⟩ = some v0 ∧ w.cell? ⟨b, 1, none⟩ = some v1 ∧ w.cell? ⟨b, 2, none⟩ = some v2 ∧ w.cell? ⟨b, 3, none⟩ = some v3 ∧ w.cell? ⟨b, 4, none⟩ = some v4 ∧ w.cell? ⟨b, 5, none⟩ = some v5 ∧ w.cell? ⟨b, 6, none⟩ = some v6 ∧ w.cell? ⟨b, 7, none⟩ = some v7 ∧ w.cell? ⟨b, 8, none⟩ = some v8 ∧ w.cell? ⟨b, 9, none⟩ = some v9 ∧ w.cell? ⟨b, 10, none⟩ = some v10 ∧ w.cell? ⟨b, 11, none⟩ = some v11 := by
  refine ⟨?_, ?_, ?_, ?_, ?_, ?_, ?_, ?_, ?_, ?_, ?_, ?_⟩ <;> simp [World.cell?, h]
theorem heap_setAt {w : World} {b : Nat} {vs : Array Value} {t : TypeId} (i : Nat) (u : Value) (h : w.heap[b]? = some (.cells vs t (0, 0))) : (w.setCell ⟨b, i, none⟩ u).heap[b]? = some (.cells (vs.set! i u) t (0, 0)) := by
  obtain ⟨hlt, hk⟩ := Array.getElem?_eq_some_iff.1 h
  show (w.heap.modify b _)[b]? = _
  rw [Array.getElem?_eq_getElem (by rw [Array.size_modify]; exact hlt), Array.getElem_modify_self, hk]
  rfl
theorem set10 {w : World} {b : Nat} {t : TypeId} {v0 v1 v2 v3 v4 v5 v6 v7 v8 v9 : Value} (h : w.heap[b]? = some (.cells #[v0, v1, v2, v3, v4, v5, v6, v7, v8, v9] t (0, 0))) (r0 r1 r2 r3 r4 r5 r6 r7 r8 r9 : Value) :
    ∃ W, ((((((((((w.setCell ⟨b, 0, none⟩ r0).setCell ⟨b, 1, none⟩ r1).setCell ⟨b, 2, none⟩ r2).setCell ⟨b, 3, none⟩ r3).setCell ⟨b, 4, none⟩ r4).setCell ⟨b, 5, none⟩ r5).setCell ⟨b, 6, none⟩ r6).setCell ⟨b, 7, none⟩ r7).setCell ⟨b, 8, none⟩ r8).setCell ⟨b, 9, none⟩ r9) = W ∧ W.heap[b]? = some (.cells #[r0, r1, r2, r3, r4, r5, r6, r7, r8, r9] t (0, 0)) ∧ W.heap.size = w.heap.size ∧ (∀ k, k ≠ b → W.heap[k]? = w.heap[k]?) ∧ ∀ (B : Nat) (a : World), Below B a w → B ≤ b → Below B a W := by
  have h1 := heap_setAt 0 r0 h
  simp only [Array.set!_eq_setIfInBounds, List.setIfInBounds_toArray, List.set_cons_zero] at h1
  have h2 := heap_setAt 1 r1 h1
  simp only [Array.set!_eq_setIfInBounds, List.setIfInBounds_toArray, List.set_cons_zero, List.set_cons_succ] at h2
  have h3 := heap_setAt 2 r2 h2
  simp only [Array.set!_eq_setIfInBounds, List.setIfInBounds_toArray, List.set_cons_zero, List.set_cons_succ] at h3
  have h4 := heap_setAt 3 r3 h3
  simp only [Array.set!_eq_setIfInBounds, List.setIfInBounds_toArray, List.set_cons_zero, List.set_cons_succ] at h4
  have h5 := heap_setAt 4 r4 h4
  simp only [Array.set!_eq_setIfInBounds, List.setIfInBounds_toArray, List.set_cons_zero, List.set_cons_succ] at h5
  have h6 := heap_setAt 5 r5 h5
  simp only [Array.set!_eq_setIfInBounds, List.setIfInBounds_toArray, List.set_cons_zero, List.set_cons_succ] at h6
  have h7 := heap_setAt 6 r6 h6
  simp only [Array.set!_eq_setIfInBounds, List.setIfInBounds_toArray, List.set_cons_zero, List.set_cons_succ] at h7
  have h8 := heap_setAt 7 r7 h7
  simp only [Array.set!_eq_setIfInBounds, List.setIfInBounds_toArray, List.set_cons_zero, List.set_cons_succ] at h8
  have h9 := heap_setAt 8 r8 h8
  simp only [Array.set!_eq_setIfInBounds, List.setIfInBounds_toArray, List.set_cons_zero, List.set_cons_succ] at h9
  have h10 := heap_setAt 9 r9 h9
  simp only [Array.set!_eq_setIfInBounds, List.setIfInBounds_toArray, List.set_cons_zero, List.set_cons_succ] at h10
  refine ⟨_, rfl, h10, by simp [World.setCell], fun k hk => ?_, fun B a hB hb => ?_⟩
  · repeat rw [Below.heap_setCell _ _ _ k (by simpa using hk)]
  · exact ((((((((((hB.setCell hb _).setCell hb _).setCell hb _).setCell hb _).setCell hb _).setCell hb _).setCell hb _).setCell hb _).setCell hb _).setCell hb _)
theorem heap_new (w : World) (o : Obj) : (w.alloc o).heap[w.heap.size]? = some o := by
  show (w.heap.push _)[w.heap.size]? = _
  rw [Array.getElem?_push_size]
theorem three (w : World) (x y z : Obj) : ∃ W, ((w.alloc x).alloc y).alloc z = W ∧ W.heap.size = w.heap.size + 3 ∧ Below w.heap.size w W ∧ W.heap[w.heap.size]? = some x ∧ W.heap[w.heap.size + 1]? = some y ∧ W.heap[w.heap.size + 1 + 1]? = some z := by
  have s1 : (w.alloc x).heap.size = w.heap.size + 1 := by simp
  have s2 : ((w.alloc x).alloc y).heap.size = w.heap.size + 1 + 1 := by simp
  refine ⟨_, rfl, by simp, (((Below.refl _ _).alloc (Nat.le_refl _) _).alloc (by simp) _).alloc (by simp; omega) _, ?_, ?_, ?_⟩
  · rw [Below.heap_alloc _ _ _ (by omega), Below.heap_alloc _ _ _ (by omega)]; exact heap_new _ _
  · rw [Below.heap_alloc _ _ _ (by omega), ← s1]; exact heap_new _ _
  · rw [← s2]; exact heap_new _ _
set_option maxRecDepth 1000000 in
set_option maxHeartbeats 6400000 in
theorem sum1_any (t : Tl) (x : Ev) (w : World) : Calls Tryz.prog 52 #[t.val, x.val] w fun e w' => e = .returned (plus t (one x)).val ∧ Below w.heap.size w w' := by
  have c1 := fun W => one_any x W
  have c2 := fun W => plus_any t (one x) W
  generalize one x = o at c1 c2 ⊢
  generalize plus t o = r at c2 ⊢
  obtain ⟨pk, act, pn, ak, at_, n, v, ww, bo, bl, bc, av, done, ao, al, ac⟩ := x
  obtain ⟨a0, a1, a2, a3, a4, a5, a6, a7, a8, a9⟩ := t
  obtain ⟨o0, o1, o2, o3, o4, o5, o6, o7, o8, o9⟩ := o
  obtain ⟨r0, r1, r2, r3, r4, r5, r6, r7, r8, r9⟩ := r
  unfold Tl.val at c1 c2 ⊢
  unfold Ev.val at c1 ⊢
  dsimp only at c1 c2 ⊢
  go_enter Tryz.func52, Tryz.ntmps52
  go_wp2_with fail
  obtain ⟨W0, hW0, hs, hB, h0, h1, h2⟩ := three w (.cells #[.int .i64 a0, .int .i64 a1, .int .i64 a2, .int .i64 a3, .int .i64 a4, .int .i64 a5, .int .i64 a6, .int .i64 a7, .int .i64 a8, .int .i64 a9] 28) (.cells #[.int .i64 pk, .int .i64 act, .int .i64 pn, .int .i64 ak, .int .i64 at_, .int .i64 n, .int .u64 v, .int .u64 ww, .slice bo bl bc, .int .u64 av, .bool done, .slice ao al ac] 67) (.cells #[.int .i64 0, .int .i64 0, .int .i64 0, .int .i64 0, .int .i64 0, .int .i64 0, .int .i64 0, .int .i64 0, .int .i64 0, .int .i64 0] 28)
  rw [hW0]
  clear hW0
  obtain ⟨B, hBB⟩ : ∃ B, w.heap.size = B := ⟨_, rfl⟩
  rw [hBB] at hs h0 h1 h2
  simp only [hBB]
  obtain ⟨k0, k1, k2, k3, k4, k5, k6, k7, k8, k9, kf0, kf1, kf2, kf3, kf4, kf5, kf6, kf7, kf8, kf9⟩ := blk10 h0
  obtain ⟨m0, m1, m2, m3, m4, m5, m6, m7, m8, m9, m10, m11⟩ := blk12 h1
  have HB := Lib.hid (show Below B w W0 from by rw [← hBB]; exact hB)
  have H0 := Lib.hid h0
  have H2 := Lib.hid h2
  have HS := Lib.hid hs
  clear hB h0 h1 h2 hs kf0 kf1 kf2 kf3 kf4 kf5 kf6 kf7 kf8 kf9
  go_region_with
    (first
      | (go_at_call 54
         refine (c1 _).mono ?_
         clear c1
         rintro e w1 ⟨rfl, hB1⟩
         have h01 := (hB1.block B (by first | (simp; done) | (have := HS.out; simp; omega))).trans H0.out
         have h21 := (hB1.block (B + 1 + 1) (by have := HS.out; simp; omega)).trans H2.out
         have HB1 := Lib.hid (HB.out.drew.trans (hB1.mono (by have := HS.out; simp; omega)))
         have HS1 := Lib.hid (show B + 3 ≤ w1.heap.size from Nat.le_trans (Nat.le_of_eq HS.out.symm) hB1.size)
         obtain ⟨k0, k1, k2, k3, k4, k5, k6, k7, k8, k9, kf0, kf1, kf2, kf3, kf4, kf5, kf6, kf7, kf8, kf9⟩ := blk10 h01
         have H21 := Lib.hid h21
         clear hB1 h01 h21 kf0 kf1 kf2 kf3 kf4 kf5 kf6 kf7 kf8 kf9)
      | (go_at_call 53
         refine (c2 _).mono ?_
         clear c2
         rintro e w2 ⟨rfl, hB2⟩
         have h22 := (hB2.block (B + 1 + 1) (by have := HS1.out; simp; omega)).trans H21.out
         have HB2 := Lib.hid (show Below B w w2 from (by first | exact HB1.out.trans (hB2.mono (by have := HS1.out; omega)) | exact HB1.out.drew.trans (hB2.mono (by have := HS1.out; simp; omega))))
         obtain ⟨q0, q1, q2, q3, q4, q5, q6, q7, q8, q9, qf0, qf1, qf2, qf3, qf4, qf5, qf6, qf7, qf8, qf9⟩ := blk10 h22
         have H22 := Lib.hid h22
         clear hB2 h22))
  all_goals
    obtain ⟨W5, hW5, g1, g2, g3, g4⟩ := set10 H22.out (.int .i64 r0) (.int .i64 r1) (.int .i64 r2) (.int .i64 r3) (.int .i64 r4) (.int .i64 r5) (.int .i64 r6) (.int .i64 r7) (.int .i64 r8) (.int .i64 r9)
    rw [hW5]
    clear hW5
    obtain ⟨p0, p1, p2, p3, p4, p5, p6, p7, p8, p9, _⟩ := blk10 g1
    have HZ := Lib.hid (g4 B w HB2.out (by omega))
    clear g1 g2 g3 g4
    go_wp2
    refine bodyPost_ret (v := .agg #[.int .i64 r0, .int .i64 r1, .int .i64 r2, .int .i64 r3, .int .i64 r4, .int .i64 r5, .int .i64 r6, .int .i64 r7, .int .i64 r8, .int .i64 r9]) (by simp [results, Tryz.results52, go_sem, p0, p1, p2, p3, p4, p5, p6, p7, p8, p9]) rfl ⟨rfl, ?_⟩
    rw [hBB]
    exact HZ.out
end Go.Proofs.YtppdhckcempmnaaGreatDoor.Ce

/- What stands while the program counts cells, and how each step turns it. -/
namespace Go.Proofs.YtppdhckcempmnaaGreatDoor.Ce
open Go Go.RowKit Go.Lib
open Go.ChangeMaps (setBlock)
theorem and7 (x : Nat) (hx : x < 18446744073709551616) : x &&& 18446744073709551608 = x - x % 8 := by
  apply Nat.eq_of_testBit_eq
  intro i
  rw [Nat.testBit_and]
  have e : x - x % 8 = 2 ^ 3 * (x / 2 ^ 3) := by omega
  have f : 18446744073709551608 = 2 ^ 3 * (2 ^ 61 - 1) := by decide
  rw [e, f, Nat.testBit_two_pow_mul, Nat.testBit_two_pow_mul, Nat.testBit_two_pow_sub_one, Nat.testBit_div_two_pow]
  by_cases h5 : 3 ≤ i
  · simp only [h5, decide_true, Bool.true_and]
    rw [show i - 3 + 3 = i by omega]
    by_cases h : i - 3 < 61
    · simp [h]
    · have : x.testBit i = false := Nat.testBit_lt_two_pow (Nat.lt_of_lt_of_le hx (by
        have : 2 ^ 64 ≤ 2 ^ i := Nat.pow_le_pow_right (by omega) (by omega)
        simpa using this))
      simp [this]
  · simp [h5]
theorem wrap_i64_small (n : Int) (h0 : 0 ≤ n) (h1 : n < 9223372036854775808) : IntKind.i64.wrap n = n := by
  simp [IntKind.wrap, IntKind.bits, IntKind.signed]
  split <;> omega
theorem i64_andNot7 (x : Nat) (hx : x < 9223372036854775808) : bits .andNot .i64 (x : Int) 7 = ((x - x % 8 : Nat) : Int) := by
  show IntKind.i64.wrap ((BitVec.ofInt 64 (x : Int) &&& ~~~BitVec.ofInt 64 7).toNat : Int) = _
  have h1 : (BitVec.ofInt 64 7).toNat = 7 := by decide
  rw [BitVec.toNat_and, BitVec.toNat_not, ofInt_u64 x (by omega), h1, show 2 ^ 64 - 1 - 7 = 18446744073709551608 by decide, and7 x (by omega)]
  exact wrap_i64_small _ (by omega) (by omega)
theorem andNot7 (z : Int) (h0 : 0 ≤ z) (h1 : z ≤ 131072) : bits .andNot .i64 z 7 = z / 8 * 8 := by
  obtain ⟨x, rfl⟩ : ∃ x : Nat, z = x := ⟨z.toNat, by omega⟩
  rw [i64_andNot7 x (by omega)]
  omega
def pb (e : Cl × Nat) : Int × Nat := (e.1.p, e.2)
def Cl.obj (c : Cl) : Obj := .cells #[.int .i64 c.p, .int .i64 c.lk, .int .i64 c.wr] 34 (0, 0)
structure CS (w0 w : World) (mb : Nat) (es : List (Cl × Nat)) : Prop where
  hB : Below w0.heap.size w0 w
  m0 : w0.heap.size ≤ mb
  map : w.heap[mb]? = some (.map (mkI (es.map pb) 0).toArray es.length)
  cells : ∀ e ∈ es, w.heap[e.2]? = some e.1.obj
  nd : (es.map (·.2)).Nodup
  base : ∀ e ∈ es, w0.heap.size ≤ e.2
  fm : ∀ e ∈ es, e.2 ≠ mb
  once : (es.map (·.1.p)).Nodup
  inp : ∀ e ∈ es, InP e.1.p
theorem CS.lt {w0 w : World} {mb : Nat} {es : List (Cl × Nat)} (h : CS w0 w mb es) : mb < w.heap.size ∧ ∀ e ∈ es, e.2 < w.heap.size :=
  ⟨(Array.getElem?_eq_some_iff.1 h.map).1, fun e he => (Array.getElem?_eq_some_iff.1 (h.cells e he)).1⟩
theorem CS.grow {w0 w w' : World} {mb : Nat} {es : List (Cl × Nat)} (h : CS w0 w mb es) (k : Below w.heap.size w w') : CS w0 w' mb es :=
  { h with
    hB := h.hB.trans (k.mono h.hB.size)
    map := (k.block mb h.lt.1).trans h.map
    cells := fun e he => (k.block e.2 (h.lt.2 e he)).trans (h.cells e he) }
theorem CS.keys {w0 w : World} {mb : Nat} {es : List (Cl × Nat)} (h : CS w0 w mb es) : ((es.map pb).map (·.1)).Nodup ∧ (∀ e ∈ es.map pb, InP e.1) ∧ w.heap[mb]? = some (.map (mkI (es.map pb) 0).toArray (es.map pb).length) := by
  refine ⟨?_, fun e he => ?_, by rw [List.length_map]; exact h.map⟩
  · have : (es.map pb).map (·.1) = es.map (·.1.p) := by simp [List.map_map, Function.comp_def, pb]
    rw [this]; exact h.once
  · obtain ⟨x, hx, rfl⟩ := List.mem_map.1 he
    exact h.inp x hx
theorem cell_obj {w : World} {b : Nat} {c : Cl} (h : w.heap[b]? = some c.obj) : w.cell? ⟨b, 0, none⟩ = some (.int .i64 c.p) ∧ w.cell? ⟨b, 1, none⟩ = some (.int .i64 c.lk) ∧ w.cell? ⟨b, 2, none⟩ = some (.int .i64 c.wr) ∧ w.frozen? ⟨b, 1, none⟩ = false ∧ w.frozen? ⟨b, 2, none⟩ = false := by
  refine ⟨?_, ?_, ?_, ?_, ?_⟩ <;> simp [World.cell?, World.frozen?, h, Cl.obj]
/-- a new cell is laid in -/
theorem CS.new {w0 w : World} {mb : Nat} {es : List (Cl × Nat)} (h : CS w0 w mb es) {p : Int} (hp : InP p) (hnew : ∀ e ∈ es, e.1.p ≠ p) :
    CS w0 (setBlock (w.alloc (Cl.obj ⟨p, 0, 0⟩)) mb (.map (mkI (es.map pb ++ [(p, w.heap.size)]) 0).toArray ((es.map pb).length + 1))) mb (es ++ [(⟨p, 0, 0⟩, w.heap.size)]) := by
  obtain ⟨l1, l2⟩ := h.lt
  have hk : ∀ k, k < w.heap.size → k ≠ mb → (setBlock (w.alloc (Cl.obj ⟨p, 0, 0⟩)) mb (.map (mkI (es.map pb ++ [(p, w.heap.size)]) 0).toArray ((es.map pb).length + 1))).heap[k]? = w.heap[k]? := fun k hk hne => by
    simp only [setBlock, Array.getElem?_setIfInBounds, if_neg (show ¬ mb = k from fun e => hne e.symm)]
    exact Below.heap_alloc _ _ _ hk
  exact {
    hB := ⟨h.hB.os, h.hB.tape, h.hB.output, by have := h.hB.size; simp [setBlock]; omega, fun k hk2 => (hk k (by have := h.hB.size; omega) (by have := h.m0; omega)).trans (h.hB.block k hk2)⟩
    m0 := h.m0
    map := by
      rw [List.map_append]
      simp [setBlock, pb, show mb < w.heap.size + 1 by omega]
    cells := fun e he => by
      rcases List.mem_append.1 he with he | he
      · exact (hk _ (l2 e he) (h.fm e he)).trans (h.cells e he)
      · rw [List.mem_singleton.1 he]
        show (setBlock (w.alloc (Cl.obj ⟨p, 0, 0⟩)) mb _).heap[w.heap.size]? = _
        simp only [setBlock, Array.getElem?_setIfInBounds, if_neg (show ¬ mb = w.heap.size by omega)]
        exact heap_new _ _
    nd := by
      rw [List.map_append, List.nodup_append]
      refine ⟨h.nd, by simp, fun a ha b hb e => ?_⟩
      obtain ⟨x, hx, rfl⟩ := List.mem_map.1 ha
      have := l2 x hx
      have : b = w.heap.size := by simpa using hb
      omega
    base := fun e he => by
      rcases List.mem_append.1 he with he | he
      · exact h.base e he
      · rw [List.mem_singleton.1 he]; exact h.hB.size
    fm := fun e he => by
      rcases List.mem_append.1 he with he | he
      · exact h.fm e he
      · rw [List.mem_singleton.1 he]
        show w.heap.size ≠ mb
        omega
    once := by
      rw [List.map_append, List.nodup_append]
      refine ⟨h.once, by simp, fun a ha b hb e => ?_⟩
      obtain ⟨x, hx, rfl⟩ := List.mem_map.1 ha
      have hb : b = p := by simpa using hb
      exact hnew x hx (e.trans hb)
    inp := fun e he => by
      rcases List.mem_append.1 he with he | he
      · exact h.inp e he
      · rw [List.mem_singleton.1 he]; exact hp }
/-- a cell of the map is changed -/
theorem CS.upd {w0 w : World} {mb : Nat} {es : List (Cl × Nat)} (h : CS w0 w mb es) {j : Nat} {c c' : Cl} {b : Nat} (hj : es[j]? = some (c, b)) (hc : c'.p = c.p) {W : World} (hW : W.heap[b]? = some c'.obj) (hk : ∀ k, k ≠ b → W.heap[k]? = w.heap[k]?) (hb : ∀ a B, Below B a w → B ≤ b → Below B a W) :
    CS w0 W mb (es.set j (c', b)) := by
  have hmem := List.mem_of_getElem? hj
  have hpb : (es.set j (c', b)).map pb = es.map pb := by
    rw [List.map_set]
    refine set_self ?_
    rw [List.getElem?_map, hj]
    simp [pb, hc]
  have h2 : (es.set j (c', b)).map (·.2) = es.map (·.2) := by
    rw [List.map_set]
    refine set_self ?_
    rw [List.getElem?_map, hj]
    rfl
  have h3 : (es.set j (c', b)).map (·.1.p) = es.map (·.1.p) := by
    rw [List.map_set]
    refine set_self ?_
    rw [List.getElem?_map, hj]
    simp [hc]
  have hin : ∀ e ∈ es.set j (c', b), e = (c', b) ∨ (e ∈ es ∧ e.2 ≠ b) := fun e he => by
    obtain ⟨i, hi⟩ := List.getElem?_of_mem he
    rw [List.getElem?_set] at hi
    split at hi
    · split at hi
      · exact .inl (Option.some.inj hi).symm
      · cases hi
    · rename_i hne
      refine .inr ⟨List.mem_of_getElem? hi, fun e2 => hne ?_⟩
      obtain ⟨hjl, hje⟩ := List.getElem?_eq_some_iff.1 hj
      obtain ⟨hil, hie⟩ := List.getElem?_eq_some_iff.1 hi
      have hnd := List.pairwise_iff_getElem.1 h.nd
      rcases Nat.lt_trichotomy i j with hij | hij | hij
      · exact absurd (show (es.map (·.2))[i]'(by simpa using hil) = (es.map (·.2))[j]'(by simpa using hjl) by rw [List.getElem_map, List.getElem_map, hje, hie, e2]) (hnd i j (by simpa using hil) (by simpa using hjl) hij)
      · exact hij.symm
      · exact absurd (show (es.map (·.2))[j]'(by simpa using hjl) = (es.map (·.2))[i]'(by simpa using hil) by rw [List.getElem_map, List.getElem_map, hje, hie, e2]) (hnd j i (by simpa using hjl) (by simpa using hil) hij)
  exact {
    hB := hb _ _ h.hB (h.base _ hmem)
    m0 := h.m0
    map := by
      rw [hpb, List.length_set]
      exact (hk mb (fun e => h.fm _ hmem e.symm)).trans h.map
    cells := fun e he => by
      rcases hin e he with rfl | ⟨h1, h2⟩
      · exact hW
      · exact (hk _ h2).trans (h.cells e h1)
    nd := by rw [h2]; exact h.nd
    base := fun e he => by
      rcases hin e he with rfl | ⟨h1, _⟩
      · exact h.base (c, b) hmem
      · exact h.base e h1
    fm := fun e he => by
      rcases hin e he with rfl | ⟨h1, _⟩
      · exact h.fm (c, b) hmem
      · exact h.fm e h1
    once := by rw [h3]; exact h.once
    inp := fun e he => by
      rcases hin e he with rfl | ⟨h1, _⟩
      · have := h.inp _ hmem
        rw [hc]; exact this
      · exact h.inp e h1 }
/-- looked at once more -/
theorem CS.look {w0 w : World} {mb : Nat} {es : List (Cl × Nat)} (h : CS w0 w mb es) {j : Nat} {c : Cl} {b : Nat} (hj : es[j]? = some (c, b)) (u : Int) : CS w0 (w.setCell ⟨b, 1, none⟩ (.int .i64 u)) mb (es.set j (⟨c.p, u, c.wr⟩, b)) := by
  refine h.upd (c' := ⟨c.p, u, c.wr⟩) hj rfl ?_ (fun k hk => Below.heap_setCell _ _ _ k hk) (fun a B hB hb => Below.setCell (p := ⟨b, _, none⟩) hB hb _)
  have h1 := heap_setAt 1 (.int .i64 u) (h.cells _ (List.mem_of_getElem? hj))
  simp only [Array.set!_eq_setIfInBounds, List.setIfInBounds_toArray, List.set_cons_zero, List.set_cons_succ] at h1
  exact h1
theorem CS.write {w0 w : World} {mb : Nat} {es : List (Cl × Nat)} (h : CS w0 w mb es) {j : Nat} {c : Cl} {b : Nat} (hj : es[j]? = some (c, b)) (u : Int) : CS w0 (w.setCell ⟨b, 2, none⟩ (.int .i64 u)) mb (es.set j (⟨c.p, c.lk, u⟩, b)) := by
  refine h.upd (c' := ⟨c.p, c.lk, u⟩) hj rfl ?_ (fun k hk => Below.heap_setCell _ _ _ k hk) (fun a B hB hb => Below.setCell (p := ⟨b, _, none⟩) hB hb _)
  have h1 := heap_setAt 2 (.int .i64 u) (h.cells _ (List.mem_of_getElem? hj))
  simp only [Array.set!_eq_setIfInBounds, List.setIfInBounds_toArray, List.set_cons_zero, List.set_cons_succ] at h1
  exact h1
theorem CS.both {w0 w : World} {mb : Nat} {es : List (Cl × Nat)} (h : CS w0 w mb es) {j : Nat} {c : Cl} {b : Nat} (hj : es[j]? = some (c, b)) (u v : Int) : CS w0 ((w.setCell ⟨b, 1, none⟩ (.int .i64 u)).setCell ⟨b, 2, none⟩ (.int .i64 v)) mb (es.set j (⟨c.p, u, v⟩, b)) := by
  have h1 := (h.look hj u).write (j := j) (c := ⟨c.p, u, c.wr⟩) (b := b) (List.getElem?_set_self (List.getElem?_eq_some_iff.1 hj).1) v
  rw [List.set_set] at h1
  exact h1
end Go.Proofs.YtppdhckcempmnaaGreatDoor.Ce

/- The program's count of one event's cells. -/
namespace Go.Proofs.YtppdhckcempmnaaGreatDoor.Ce
open Go Go.RowKit Go.Lib
open Go.ChangeMaps (setBlock)
def evNote (x : Ev) (M : List Cl) : List Cl := putsM (touched x).2.1 (touched x).2.2 (places x) M
theorem CS.same {w0 w : World} {mb : Nat} {es : List (Cl × Nat)} (h : CS w0 w mb es) {j : Nat} {c : Cl} {b : Nat} (hj : es[j]? = some (c, b)) : CS w0 w mb (es.set j (⟨c.p, c.lk, c.wr⟩, b)) := by
  have e : es.set j (⟨c.p, c.lk, c.wr⟩, b) = es := set_self hj
  rw [e]
  exact h
theorem W64_one : W64 (0 + 1) = 1 := by unfold W64 RowKit.wrap64; omega
theorem bump_tt (p : Int) : bump true true ⟨p, 0, 0⟩ = ⟨p, 1, 1⟩ := by simp only [bump, if_true, W64_one]
theorem bump_tf (p : Int) : bump true false ⟨p, 0, 0⟩ = ⟨p, 1, 0⟩ := by simp only [bump, if_true, if_false, Bool.false_eq_true, W64_one]
theorem bump_ft (p : Int) : bump false true ⟨p, 0, 0⟩ = ⟨p, 0, 1⟩ := by simp only [bump, if_true, if_false, Bool.false_eq_true, W64_one]
theorem bump_ff (p : Int) : bump false false ⟨p, 0, 0⟩ = ⟨p, 0, 0⟩ := rfl
set_option maxRecDepth 1000000 in
set_option maxHeartbeats 6400000 in
theorem note_any (x : Ev) (mb : Nat) (es : List (Cl × Nat)) (w0 w : World) (h : CS w0 w mb es) (hlen : es.length ≤ 5000) :
    Calls Tryz.prog 20 #[.map (some mb), x.val] w fun e w' => e = .returned (.map (some mb)) ∧ ∃ es', CS w0 w' mb es' ∧ es'.map (·.1) = evNote x (es.map (·.1)) := by
  have c47 := fun W => touched_any x W
  unfold Touches at c47
  obtain ⟨⟨n, lo, wt⟩, ht⟩ : ∃ t, touched x = t := ⟨_, rfl⟩
  have hev : evNote x (es.map (·.1)) = putsM lo wt (places x) (es.map (·.1)) := by unfold evNote; rw [ht]
  have hpl : places x = if n < 1 ∨ 8 < n ∨ x.at_ < 0 ∨ 131072 < x.at_ then [] else (x.at_ / 8 * 8) :: (if x.at_ / 8 * 8 + 8 < x.at_ + n then [x.at_ / 8 * 8 + 8] else []) := by unfold places; rw [ht]
  rw [ht] at c47
  dsimp only at c47
  have HEV := Lib.hid (And.intro hev hpl)
  clear hev hpl ht
  have HC := Lib.hid h
  have hsz : w.heap.size = w.heap.size := rfl
  obtain ⟨pk, act, pn, ak, at_, n0, v, ww, bo, bl, bc, av, done, ao, al, ac⟩ := x
  unfold Ev.val at c47 ⊢
  dsimp only at c47 HEV ⊢
  obtain ⟨W1, hW1⟩ : ∃ W1, w.alloc (.cells #[.int .i64 pk, .int .i64 act, .int .i64 pn, .int .i64 ak, .int .i64 at_, .int .i64 n0, .int .u64 v, .int .u64 ww, .slice bo bl bc, .int .u64 av, .bool done, .slice ao al ac] 67) = W1 := ⟨_, rfl⟩
  obtain ⟨A, hA⟩ : ∃ A, w.heap.size = A := ⟨_, rfl⟩
  have u0 : W1.heap[A]? = some (.cells #[.int .i64 pk, .int .i64 act, .int .i64 pn, .int .i64 ak, .int .i64 at_, .int .i64 n0, .int .u64 v, .int .u64 ww, .slice bo bl bc, .int .u64 av, .bool done, .slice ao al ac] 67 (0, 0)) := by rw [← hW1, ← hA]; exact heap_new _ _
  have u1 : CS w0 W1 mb es := by rw [← hW1]; exact h.grow ((Below.refl _ _).alloc (Nat.le_refl _) _)
  have hs1 : W1.heap.size = A + 1 := by rw [← hW1]; simp [hA]
  have HU := Lib.hid (And.intro u0 (And.intro u1 hs1))
  obtain ⟨m0, m1, m2, m3, m4, m5, m6, m7, m8, m9, m10, m11⟩ := blk12 u0
  clear u0 u1 hs1 h hsz
  go_enter Tryz.func20, Tryz.ntmps20
  by_cases hbad : n < 1 ∨ 8 < n ∨ at_ < 0 ∨ 131072 < at_
  · have HP : Hid (places ⟨pk, act, pn, ak, at_, n0, v, ww, bo, bl, bc, av, done, ao, al, ac⟩ = []) := Lib.hid (by rw [HEV.out.2, if_pos hbad])
    have hor : n < 1 ∨ (¬ n < 1 ∧ 8 < n) ∨ (¬ n < 1 ∧ ¬ 8 < n ∧ at_ < 0) ∨ (¬ n < 1 ∧ ¬ 8 < n ∧ ¬ at_ < 0 ∧ 131072 < at_) := by omega
    clear hbad
    rcases hor with h1 | ⟨h1, h2⟩ | ⟨h1, h2, h3⟩ | ⟨h1, h2, h3, h4⟩
    all_goals go_wp2_with (go_at_call 47; refine (c47 _).mono ?_; clear c47; rintro e w1 ⟨rfl, hB1⟩
                           have v0 := (hB1.block A (by have := HU.out.2.2; omega)).trans HU.out.1
                           have v1 := HU.out.2.1.grow hB1
                           obtain ⟨k0, k1, k2, k3, k4, k5, k6, k7, k8, k9, k10, k11⟩ := blk12 v0
                           have HV := Lib.hid v1
                           clear hB1 v0 v1)
    all_goals go_ret
    all_goals exact ⟨rfl, es, HV.out, by rw [HEV.out.1, HP.out]; rfl⟩
  · have hn1 : ¬ n < 1 := fun h => hbad (.inl h)
    have hn8 : ¬ n > 8 := fun h => hbad (.inr (.inl h))
    have ha0 : ¬ at_ < 0 := fun h => hbad (.inr (.inr (.inl h)))
    have ha1 : ¬ at_ > 131072 := fun h => hbad (.inr (.inr (.inr h)))
    have key := andNot7 at_ (by omega) (by omega)
    obtain ⟨q, hq⟩ : ∃ q, at_ / 8 * 8 = q := ⟨_, rfl⟩
    rw [hq] at key
    go_wp2_with (first
      | (go_at_call 47; refine (c47 _).mono ?_; clear c47; rintro e w1 ⟨rfl, hB1⟩
         have v0 := (hB1.block A (by have := HU.out.2.2; omega)).trans HU.out.1
         have v1 := HU.out.2.1.grow hB1
         obtain ⟨k0, k1, k2, k3, k4, k5, k6, k7, k8, k9, k10, k11⟩ := blk12 v0
         have HV := Lib.hid v1
         clear hB1 v0 v1))
    clear k0 k1 k2 k3 k4 k5 k6 k7 k8 k9 k10 k11 m0 m1 m2 m3 m4 m5 m6 m7 m8 m9 m10 m11 key
    have hqa : q ≤ at_ ∧ at_ < q + 8 := by omega
    have HP : Hid (places ⟨pk, act, pn, ak, at_, n0, v, ww, bo, bl, bc, av, done, ao, al, ac⟩ = q :: (if q + 8 < at_ + n then [q + 8] else [])) := Lib.hid (by rw [HEV.out.2, if_neg hbad, hq])
    have hq0 : 0 ≤ q := by omega
    clear hbad hq
    go_loopw [9] (fun s wr => ∃ i : Nat, s = .int .i64 (q + 8 * i) ∧ i ≤ 2 ∧ q + 8 * i < at_ + n + 8 ∧ Hid (∃ es', CS w0 wr mb es' ∧ es'.map (·.1) = putsM lo wt ((places ⟨pk, act, pn, ak, at_, n0, v, ww, bo, bl, bc, av, done, ao, al, ac⟩).take i) (es.map (·.1)) ∧ es'.length ≤ es.length + i)) (fun s _ => (at_ + n - RowKit.intOf s).toNat)
    case atStart => exact ⟨0, by simp, by omega, by omega, Lib.hid ⟨es, HV.out, by simp [putsM], by omega⟩⟩
    case round =>
      obtain ⟨i, rfl, hi2, hi8, HE⟩ := hrel
      clear HV HU
      obtain ⟨p, hp⟩ : ∃ p, q + 8 * (i : Int) = p := ⟨_, rfl⟩
      rw [hp] at hi8 ⊢
      have hsum : IntKind.i64.wrap (at_ + n) = at_ + n := wrap_i64_small _ (by omega) (by omega)
      by_cases hlt : p < at_ + n
      · have hi1 : i ≤ 1 := by omega
        have hps : (places ⟨pk, act, pn, ak, at_, n0, v, ww, bo, bl, bc, av, done, ao, al, ac⟩).take (i + 1) = (places ⟨pk, act, pn, ak, at_, n0, v, ww, bo, bl, bc, av, done, ao, al, ac⟩).take i ++ [p] := by
          rw [HP.out]
          match i, hi1 with
          | 0, _ => simp at hp ⊢; exact hp
          | 1, _ =>
            have : q + 8 < at_ + n := by omega
            rw [if_pos this]
            simp
            omega
        have hip : InP p := ⟨by omega, by omega⟩
        have hp8 : IntKind.i64.wrap (p + 8) = p + 8 := wrap_i64_small _ (by omega) (by omega)
        obtain ⟨es', hC, hM, hL⟩ := HE.out
        obtain ⟨kn, ki, km⟩ := hC.keys
        rcases look_I wr mb (es'.map pb) km kn ki (by simp; omega) hip true with ⟨hl, hnone⟩ | ⟨j, b, hj, hl⟩
        · have hnew : ∀ e ∈ es', e.1.p ≠ p := fun e he => hnone (pb e) (List.mem_map_of_mem he)
          have hN := hC.new hip hnew
          have hI := insert_I (wr.alloc (Cl.obj ⟨p, 0, 0⟩)) mb (es'.map pb) (by rw [Below.heap_alloc _ _ _ hC.lt.1]; exact km) kn ki (by simp; omega) hip hnone wr.heap.size
          unfold Cl.obj at hN hI
          dsimp only at hN hI
          obtain ⟨D, hD⟩ : ∃ D, wr.heap.size = D := ⟨_, rfl⟩
          obtain ⟨WA, hWA⟩ : ∃ WA, wr.alloc (.cells #[.int .i64 p, .int .i64 0, .int .i64 0] 34) = WA := ⟨_, rfl⟩
          rw [hWA, hD] at hN hI
          obtain ⟨W2, hW2⟩ : ∃ W2, setBlock WA mb (.map (mkI (es'.map pb ++ [(p, D)]) 0).toArray ((es'.map pb).length + 1)) = W2 := ⟨_, rfl⟩
          rw [hW2] at hN hI
          have hj2 : (es' ++ [((⟨p, 0, 0⟩ : Cl), D)])[es'.length]? = some (⟨p, 0, 0⟩, D) := by simp
          obtain ⟨x0, x1, x2, f1, f2⟩ := cell_obj (hN.cells _ (List.mem_of_getElem? hj2))
          dsimp only at x1 x2
          have hputs : ((es' ++ [((⟨p, 0, 0⟩ : Cl), D)]).map (·.1)).set es'.length (bump lo wt ⟨p, 0, 0⟩) = putsM lo wt ((places ⟨pk, act, pn, ak, at_, n0, v, ww, bo, bl, bc, av, done, ao, al, ac⟩).take (i + 1)) (es.map (·.1)) := by
            rw [hps, putsM, List.foldl_append]
            show _ = putM lo wt p (putsM lo wt _ _)
            rw [← hM, putM_new (fun x hx => by
              obtain ⟨e, he, rfl⟩ := List.mem_map.1 hx
              exact hnew e he)]
            rw [List.map_append, List.set_append_right _ _ (by simp)]
            simp
          have HZ := Lib.hid (And.intro hN (And.intro hj2 (And.intro hputs (And.intro hp (show (es' ++ [((⟨p, 0, 0⟩ : Cl), D)]).length ≤ es.length + i + 1 by simp; omega)))))
          simp only [if_true] at hl
          clear hC hj2 hputs hp hM kn ki km hps HE hL x0 hN hnew hnone hW2
          cases lo <;> cases wt
          all_goals go_wp2
          all_goals go_roundw
          all_goals first
            | (simp only [RowKit.intOf]; omega)
            | (refine ⟨i + 1, by have := HZ.out.2.2.2.1; first | (congr 1; omega) | (simp; omega), by omega, by have := HZ.out.2.2.2.1; omega, Lib.hid ⟨(es' ++ [((⟨p, 0, 0⟩ : Cl), D)]).set es'.length (bump _ _ ⟨p, 0, 0⟩, D), ?_, by rw [List.map_set]; exact HZ.out.2.2.1, by rw [List.length_set]; have := HZ.out.2.2.2.2; omega⟩⟩
               try simp only [bump_tt, bump_tf, bump_ft, bump_ff]
               first
                 | exact HZ.out.1.same HZ.out.2.1
                 | exact HZ.out.1.look HZ.out.2.1 _
                 | exact HZ.out.1.write HZ.out.2.1 _
                 | exact HZ.out.1.both HZ.out.2.1 _ _)
        · obtain ⟨⟨c, b2⟩, hj2, hpb⟩ : ∃ e, es'[j]? = some e ∧ pb e = (p, b) := by
            rw [List.getElem?_map] at hj
            cases he : es'[j]? with
            | none => rw [he] at hj; cases hj
            | some e => rw [he] at hj; exact ⟨e, rfl, by simpa using hj⟩
          obtain ⟨hcp, rfl⟩ : c.p = p ∧ b2 = b := by simpa [pb] using hpb
          obtain ⟨x0, x1, x2, f1, f2⟩ := cell_obj (hC.cells _ (List.mem_of_getElem? hj2))
          have hputs : (es'.map (·.1)).set j (bump lo wt c) = putsM lo wt ((places ⟨pk, act, pn, ak, at_, n0, v, ww, bo, bl, bc, av, done, ao, al, ac⟩).take (i + 1)) (es.map (·.1)) := by
            rw [hps, putsM, List.foldl_append]
            show _ = putM lo wt p (putsM lo wt _ _)
            rw [← hM]
            refine (putM_at (by rw [List.getElem?_map, hj2]; rfl) hcp (fun i' x hi' hx => ?_)).symm
            rw [← hcp]
            have hO : Ce.Once (es'.map (·.1)) := by
              unfold Ce.Once
              rw [List.pairwise_map]
              have := hC.once
              unfold List.Nodup at this
              rw [List.pairwise_map] at this
              exact this
            exact hO.first (by rw [List.getElem?_map, hj2]; rfl) i' x hi' hx
          have HZ := Lib.hid (And.intro hC (And.intro hj2 (And.intro hputs (And.intro hp hL))))
          simp only [if_true] at hl
          clear hC hj2 hputs hp hM hpb hj kn ki km hps HE hL x0
          obtain ⟨cp, lk, wr'⟩ := c
          dsimp only at hcp x1 x2
          obtain rfl : cp = p := hcp
          cases lo <;> cases wt
          all_goals go_wp2
          all_goals go_roundw
          all_goals first
            | (simp only [RowKit.intOf]; omega)
            | (refine ⟨i + 1, by have := HZ.out.2.2.2.1; first | (congr 1; omega) | (simp; omega), by omega, by have := HZ.out.2.2.2.1; omega, Lib.hid ⟨es'.set j (bump _ _ ⟨cp, lk, wr'⟩, b2), ?_, by rw [List.map_set]; exact HZ.out.2.2.1, by rw [List.length_set]; have := HZ.out.2.2.2.2; omega⟩⟩
               first
                 | exact HZ.out.1.same HZ.out.2.1
                 | exact HZ.out.1.look HZ.out.2.1 _
                 | exact HZ.out.1.write HZ.out.2.1 _
                 | exact HZ.out.1.both HZ.out.2.1 _ _)
      · have hall : (places ⟨pk, act, pn, ak, at_, n0, v, ww, bo, bl, bc, av, done, ao, al, ac⟩).take i = places ⟨pk, act, pn, ak, at_, n0, v, ww, bo, bl, bc, av, done, ao, al, ac⟩ := by
          rw [HP.out]
          match i, hi2 with
          | 0, _ => exact absurd (by simp at hp; omega) hlt
          | 1, _ =>
            rw [if_neg (by omega)]
            rfl
          | 2, _ =>
            split <;> rfl
        obtain ⟨es', hC, hM, hL⟩ := HE.out
        rw [hall] at hM
        have HZ := Lib.hid (And.intro hC hM)
        clear hC hM hall hp HE
        go_wp2
        go_ret
        exact ⟨rfl, es', HZ.out.1, by rw [HEV.out.1]; exact HZ.out.2⟩
end Go.Proofs.YtppdhckcempmnaaGreatDoor.Ce

/- The program counts all events' cells. -/
namespace Go.Proofs.YtppdhckcempmnaaGreatDoor.Ce
open Go Go.RowKit Go.Lib
theorem cellsM_len (l : Array Ev) (k : Nat) : (cellsM l k).length ≤ 2 * k := by
  rw [← (cells_both l k).2.length_eq]; exact cellsL_len l k
set_option maxRecDepth 1000000 in
set_option maxHeartbeats 6400000 in
theorem foldM_any (al : Option Addr) (cl : Nat) (l : Array Ev) (mb : Nat) (w0 w : World) (hT : Tr w0 al l) (h : CS w0 w mb []) (hn : l.size ≤ 600) :
    Calls Tryz.prog 18 #[.slice al l.size cl, .map (some mb), .func (.func 19) #[] #[], .func (.func 20) #[] #[]] w fun e w' => e = .returned (.map (some mb)) ∧ ∃ es, CS w0 w' mb es ∧ es.map (·.1) = cellsM l l.size := by
  have HT := Lib.hid hT
  have HC := Lib.hid h
  clear hT h
  go_enter Tryz.func18, Tryz.ntmps18
  go_wp2_with fail
  go_loopw [1, 13] (fun m s wr => m = .map (some mb) ∧ ∃ k : Nat, k ≤ l.size ∧ s = .int .i64 k ∧ Hid (∃ es, CS w0 wr mb es ∧ es.map (·.1) = cellsM l k)) (fun _ s _ => l.size - (RowKit.intOf s).toNat)
  case atStart => exact ⟨rfl, 0, Nat.zero_le _, rfl, Lib.hid ⟨[], HC.out, rfl⟩⟩
  case round =>
    obtain ⟨rfl, k, hk, rfl, HE⟩ := hrel
    clear HC
    obtain ⟨es, hC, hM⟩ := HE.out
    by_cases hlt : k < l.size
    · obtain ⟨b, o, rfl, hb, hA⟩ := (HT.out.below hC.hB) k hlt
      obtain ⟨c0, c1, c2, c3, c4, c5, c6, c7, c8, c9, c10, c11⟩ := hA
      obtain ⟨x, hx⟩ : ∃ x, l[k]! = x := ⟨_, rfl⟩
      have hnext : cellsM l (k + 1) = if x.pk = 0 then evNote x (es.map (·.1)) else es.map (·.1) := by
        rw [cellsM, hx, ← hM]; rfl
      have hlen : es.length ≤ 5000 := by
        have := cellsM_len l k
        rw [← hM, List.length_map] at this
        omega
      rw [hx] at c0 c1 c2 c3 c4 c5 c6 c7 c8 c9 c10 c11
      have c19 := fun W => always_any x W
      have c20 := fun W (hW : CS w0 W mb es) => note_any x mb es w0 W hW hlen
      have HX := Lib.hid hnext
      clear hnext hx hlen HE hM
      have h1 : (k : Int) < (l.size : Int) := by omega
      have h2 : (0 : Int) ≤ (k : Int) := by omega
      obtain ⟨pk, act, pn, ak, at_, n, v, ww, bo, bl, bc, av, done, ao, al2, ac⟩ := x
      unfold Ev.val at c19 c20
      dsimp only at c0 c1 c2 c3 c4 c5 c6 c7 c8 c9 c10 c11 c19 c20 HX
      obtain ⟨W1, hW1⟩ : ∃ W1, wr.alloc (.cells #[.int .i64 pk, .int .i64 act, .int .i64 pn, .int .i64 ak, .int .i64 at_, .int .i64 n, .int .u64 v, .int .u64 ww, .slice bo bl bc, .int .u64 av, .bool done, .slice ao al2 ac] 67) = W1 := ⟨_, rfl⟩
      obtain ⟨A, hA⟩ : ∃ A, wr.heap.size = A := ⟨_, rfl⟩
      have u0 : W1.heap[A]? = some (.cells #[.int .i64 pk, .int .i64 act, .int .i64 pn, .int .i64 ak, .int .i64 at_, .int .i64 n, .int .u64 v, .int .u64 ww, .slice bo bl bc, .int .u64 av, .bool done, .slice ao al2 ac] 67 (0, 0)) := by rw [← hW1, ← hA]; exact heap_new _ _
      have u1 : CS w0 W1 mb es := by rw [← hW1]; exact hC.grow ((Below.refl _ _).alloc (Nat.le_refl _) _)
      have hsz : W1.heap.size = A + 1 := by rw [← hW1]; simp [hA]
      have HU := Lib.hid (And.intro u0 (And.intro u1 hsz))
      obtain ⟨m0, m1, m2, m3, m4, m5, m6, m7, m8, m9, m10, m11⟩ := blk12 u0
      clear u0 u1 hsz hC
      by_cases hpk : pk = 0
      · subst hpk
        go_wp2_with (first
          | (go_at_call 19
             refine (c19 _).mono ?_
             clear c19
             rintro e w1 ⟨rfl, hB1⟩
             have v0 := (hB1.block A (by have := HU.out.2.2; omega)).trans HU.out.1
             have v1 := HU.out.2.1.grow hB1
             obtain ⟨n0, n1, n2, n3, n4, n5, n6, n7, n8, n9, n10, n11⟩ := blk12 v0
             have HV := Lib.hid v1
             clear hB1 v0 v1)
          | (go_at_call 20
             refine (c20 _ HV.out).mono ?_
             clear c20
             rintro e w2 ⟨rfl, hE⟩
             have HQ := Lib.hid hE
             clear hE))
        go_roundw
        case rel =>
          refine ⟨by first | trivial | rfl, k + 1, by omega, by go_num, Lib.hid ?_⟩
          rw [HX.out, if_pos (by simp)]
          exact HQ.out
        case measure => simp [RowKit.intOf]; omega
      · have hpk' : (pk == 0) = false := by simpa using hpk
        go_wp2_with fail
        go_roundw
        case rel =>
          refine ⟨by first | trivial | rfl, k + 1, by omega, by go_num, Lib.hid ?_⟩
          rw [HX.out, if_neg hpk]
          exact ⟨es, HU.out.2.1, rfl⟩
        case measure => simp [RowKit.intOf]; omega
    · obtain rfl : k = l.size := by omega
      clear hC hM
      go_wp2_with fail
      go_ret
      exact ⟨rfl, HE.out⟩
end Go.Proofs.YtppdhckcempmnaaGreatDoor.Ce
