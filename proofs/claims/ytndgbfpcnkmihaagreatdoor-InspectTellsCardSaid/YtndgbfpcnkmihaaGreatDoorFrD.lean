/- The document's Frames, where a log is there. -/
import Derived.Test.YtndgbfpcnkmihaaGreatDoorFrP
import Derived.Deep.RegionHeld3
import Derived.Maps.AppendAt
import Derived.OwnWalk
import Derived.Test.YtndgbfpcnkmihaaGreatDoorOwnKit
namespace Go.Proofs.YtndgbfpcnkmihaaGreatDoor.Sy
open Go Go.RowKit Go.Lib Go.Base Go.Proofs.YtndgbfpcnkmihaaGreatDoor.Ba Go.Proofs.YtndgbfpcnkmihaaGreatDoor
theorem Tryz.info42 : (Tryz.prog.info? 42).map (fun i => (i.zero, i.size, i.bytes)) = some (some (.agg #[.int .i64 0, .int .i64 0, .int .i32 0, .int .u8 0, .int .u8 0, .int .u16 0, .int .i32 0, .int .i32 0, .int .i32 0, .int .i32 0, .int .u64 0, .int .i64 0]), 12, 56) := by kernel_rfl
theorem blkF9 {w : World} {b : Nat} {t : TypeId} {v0 v1 v2 v3 v4 v5 v6 v7 v8 : Value} (h : w.heap[b]? = some (.cells #[v0, v1, v2, v3, v4, v5, v6, v7, v8] t (0, 0))) : w.cell? ⟨b, 0, none⟩ = some v0 ∧ w.cell? ⟨b, 1, none⟩ = some v1 ∧ w.cell? ⟨b, 2, none⟩ = some v2 ∧ w.cell? ⟨b, 3, none⟩ = some v3 ∧ w.cell? ⟨b, 4, none⟩ = some v4 ∧ w.cell? ⟨b, 5, none⟩ = some v5 ∧ w.cell? ⟨b, 6, none⟩ = some v6 ∧ w.cell? ⟨b, 7, none⟩ = some v7 ∧ w.cell? ⟨b, 8, none⟩ = some v8 ∧ w.frozen? ⟨b, 8, none⟩ = false := by
  refine ⟨?_, ?_, ?_, ?_, ?_, ?_, ?_, ?_, ?_, ?_⟩ <;> simp [World.cell?, World.frozen?, h]
theorem blkF12 {w : World} {b : Nat} {t : TypeId} {v0 v1 v2 v3 v4 v5 v6 v7 v8 v9 v10 v11 : Value} (h : w.heap[b]? = some (.cells #[v0, v1, v2, v3, v4, v5, v6, v7, v8, v9, v10, v11] t (0, 0))) : w.cell? ⟨b, 0, none⟩ = some v0 ∧ w.cell? ⟨b, 1, none⟩ = some v1 ∧ w.cell? ⟨b, 2, none⟩ = some v2 ∧ w.cell? ⟨b, 3, none⟩ = some v3 ∧ w.cell? ⟨b, 4, none⟩ = some v4 ∧ w.cell? ⟨b, 5, none⟩ = some v5 ∧ w.cell? ⟨b, 6, none⟩ = some v6 ∧ w.cell? ⟨b, 7, none⟩ = some v7 ∧ w.cell? ⟨b, 8, none⟩ = some v8 ∧ w.cell? ⟨b, 9, none⟩ = some v9 ∧ w.cell? ⟨b, 10, none⟩ = some v10 ∧ w.cell? ⟨b, 11, none⟩ = some v11 ∧ w.frozen? ⟨b, 11, none⟩ = false := by
  refine ⟨?_, ?_, ?_, ?_, ?_, ?_, ?_, ?_, ?_, ?_, ?_, ?_, ?_⟩ <;> simp [World.cell?, World.frozen?, h]
def allF (l : Lg) (B : Nat → Nat) : Nat → List Sn
  | 0 => []
  | p + 1 => allF l B p ++ wkF l B p 300 0
theorem allF_succ (l : Lg) (B : Nat → Nat) (p : Nat) : allF l B (p + 1) = allF l B p ++ wkF l B p 300 0 := by rw [allF]
theorem heap_set11 {w : World} {b : Nat} {t : TypeId} {v0 v1 v2 v3 v4 v5 v6 v7 v8 v9 v10 v11 : Value} (u : Value) (h : w.heap[b]? = some (.cells #[v0, v1, v2, v3, v4, v5, v6, v7, v8, v9, v10, v11] t (0, 0))) : (w.setCell ⟨b, 11, none⟩ u).heap[b]? = some (.cells #[v0, v1, v2, v3, v4, v5, v6, v7, v8, v9, v10, u] t (0, 0)) := by
  obtain ⟨hlt, hk⟩ := Array.getElem?_eq_some_iff.1 h
  show (w.heap.modify b _)[b]? = _
  rw [Array.getElem?_eq_getElem (by rw [Array.size_modify]; exact hlt), Array.getElem_modify_self, hk]
  rfl
theorem cell_newL (w : World) (t : TypeId) (L : List Value) : ∀ j u, L[j]? = some u → (w.alloc (.cells L.toArray t)).cell? ((⟨w.heap.size, 0, none⟩ : Addr).add j) = some u := by
  intro j u hj
  rw [Addr.add_lit]
  simp only [World.cell?, heap_new]
  simpa using hj
theorem wkF_le (l : Lg) (B : Nat → Nat) (p : Int) (n : Nat) (off : Int) (h : 0 ≤ off) : ((wkF l B p n off).length : Int) * 32 ≤ max 0 (l.term - off) := wkF_len l B p n off h
theorem allF_le (l : Lg) (ht : 0 ≤ l.term) (B : Nat → Nat) : ∀ p : Nat, ((allF l B p).length : Int) * 32 ≤ p * l.term
  | 0 => by simp [allF]
  | p + 1 => by
    have ih := allF_le l ht B p
    have h := wkF_len l B p 300 0 (Int.le_refl _)
    rw [allF_succ, List.length_append]
    have e : ((p + 1 : Nat) : Int) * l.term = p * l.term + l.term := by rw [Int.natCast_add, Int.add_mul]; simp
    rw [e]
    omega
set_option maxHeartbeats 6400000 in
set_option maxRecDepth 1000000 in
theorem framesR_some (l : Lg) (hl : l.ok) (B : Nat → Nat) (hB : ∀ j, B j < 256) (bb bo bn bc : Nat) (hcap : bn ≤ bc) (hbn : bn < 4611686018427387904) (hth : l.there bn) (w : World) (hlt : bb < w.heap.size) (hr : ReadsB w bb bo bn B) :
    Calls Tryz.prog 9 #[.slice (some ⟨bb, bo, none⟩) bn bc, .agg #[.int .i64 l.base, .int .i64 l.term, .int .i64 l.mtu, .int .i64 l.subs, .int .i32 l.ini, .int .i32 l.ses, .int .i32 l.str]] w fun e w' => ∃ s, e = .returned (.tuple #[s, .int .i64 0]) ∧ w'.ownsRow w.heap.size 42 12 s (allF l B 3).length (rowS (allF l B 3)) ∧ Below w.heap.size w w' := by
  obtain ⟨F, hF⟩ : ∃ F, allF l B 3 = F := ⟨_, rfl⟩
  rw [hF]
  have HFF := Lib.hid hF
  clear hF
  have c25 := fun W => thereR_yes l hl (ba := some ⟨bb, bo, none⟩) (bc := bc) hbn hth W
  have c30 := fun p h0 h1 W => partAtR_any l hl p h0 h1 W
  unfold Lg.val at c25 c30
  have hlb := Lg.ok.bounds hl
  have hth2 := hth.2
  obtain ⟨W1, hW1⟩ : ∃ W1, w.alloc (.cells #[.int .i64 l.base, .int .i64 l.term, .int .i64 l.mtu, .int .i64 l.subs, .int .i32 l.ini, .int .i32 l.ses, .int .i32 l.str] 24) = W1 := ⟨_, rfl⟩
  obtain ⟨A, hA⟩ : ∃ A, w.heap.size = A := ⟨_, rfl⟩
  have u0 : W1.heap[A]? = some (.cells #[.int .i64 l.base, .int .i64 l.term, .int .i64 l.mtu, .int .i64 l.subs, .int .i32 l.ini, .int .i32 l.ses, .int .i32 l.str] 24 (0, 0)) := by rw [← hW1, ← hA]; exact heap_new _ _
  have u1 : Below A w W1 := by rw [← hW1, ← hA]; exact (Below.refl _ _).alloc (Nat.le_refl _) _
  have u2 : W1.heap.size = A + 1 := by rw [← hW1]; simp [hA]
  have HU := Lib.hid (And.intro u0 (And.intro u1 u2))
  obtain ⟨m0, m1, m2, m3, m4, m5, m6⟩ := blk7 u0
  clear u0 u1 u2
  go_enter Tryz.func9, Tryz.ntmps9
  go_wp2_with (go_at_call 25; refine (c25 _).mono ?_; clear c25; rintro e w2 ⟨rfl, hB1⟩; have HV := Lib.hid hB1; clear hB1)
  go_loopw [6, 7] (fun s p wr => ∃ k : Nat, k ≤ 3 ∧ p = .int .i64 k ∧ Hid (wr.ownsRow (A + 1) 42 12 s (allF l B k).length (rowS (allF l B k)) ∧ Below (A + 1) W1 wr)) (fun _ p _ => 3 - (intOf p).toNat)
  case atStart => exact ⟨0, Nat.zero_le _, rfl, Lib.hid ⟨World.ownsRow_nil _ _ _ _, by have := HV.out; rw [HU.out.2.2] at this; exact this⟩⟩
  case round =>
    obtain ⟨k, hk, rfl, H⟩ := hrel
    by_cases hk3 : k < 3
    · have k3 : (k : Int) < 3 := by omega
      go_wp2
      go_loopw [6, 8] (fun s o wr2 => ∃ (n : Nat) (ls : List Sn) (x : Int), o = .int .i64 x ∧ 0 ≤ x ∧ x ≤ l.term ∧ l.term - x < 32 * n ∧ ls ++ wkF l B k n x = wkF l B k 300 0 ∧ ls.length * 32 ≤ x ∧ Hid (wr2.ownsRow (A + 1) 42 12 s (allF l B k ++ ls).length (rowS (allF l B k ++ ls)) ∧ Below (A + 1) W1 wr2)) (fun _ o _ => (l.term - intOf o).toNat)
      case atStart => exact ⟨300, [], 0, rfl, by omega, by omega, by omega, rfl, by simp, by rw [List.append_nil]; exact H⟩
      case round =>
        obtain ⟨n, ls, x, rfl, hx0, hx1, hn, hls, hll, G⟩ := hrel
        obtain ⟨m0, m1, m2, m3, m4, m5, m6⟩ := blk7 ((G.out.2.block A (by omega)).trans HU.out.1)
        by_cases hc : x + 32 ≤ l.term
        · have hlt2 : bb < wr.heap.size := by have := G.out.2.size; have := HU.out.2.1.size; omega
          have hread := (hr.below hlt ((HU.out.2.1.mono (by omega)).trans (G.out.2.mono (by omega))))
          obtain ⟨X, hX⟩ : ∃ X, l.base + l.term * k + x = X := ⟨_, rfl⟩
          have hkk : l.term * k ≤ l.term * 2 := Int.mul_le_mul_of_nonneg_left (by omega) (by omega)
          have hkk0 : 0 ≤ l.term * k := Int.mul_nonneg (by omega) (by omega)
          have e1 : wrap64 (l.base + l.term * k + x) = X := (IntWalk.wrap64_in _ (by omega)).trans hX
          have e2 : wrap64 (x + 32) = x + 32 := IntWalk.wrap64_in _ (by omega)
          have e3 : wrap64 (l.term - x) = l.term - x := IntWalk.wrap64_in _ (by omega)
          have hX0 : 0 ≤ X := by omega
          have hX1 : X + 32 ≤ bn := by omega
          have HL := Lib.hid (And.intro hls (And.intro hll (And.intro hn (And.intro hX (And.intro hlb (And.intro hX0 (And.intro hX1 (And.intro hx0 hx1))))))))
          have HR := Lib.hid (And.intro hread hlt2)
          have hxl : x + 32 ≤ l.term := hc
          clear hls hn hll hlb hth2 hth hX0 hX1 hread hlt2 hkk hkk0 hx0 hx1
          obtain ⟨i0, hi, hz0, hz1, hz2⟩ := info_parts Tryz.info42
          have HI := Lib.hid (And.intro hi (And.intro hz0 (And.intro hz1 hz2)))
          clear hi hz0 hz1 hz2
          have HNL := Lib.hid (show (allF l B k ++ ls).length + 1 ≤ 1100 by have := HL.out.2.1; have := HL.out.2.2.2.2.1; have ha := allF_le l (by omega) B k; have : (k : Int) * l.term ≤ 2 * l.term := Int.mul_le_mul_of_nonneg_right (by omega) (by omega); rw [List.length_append]; omega)
          obtain ⟨f0, hf0⟩ : ∃ f, (snF B 0 0 X).len = f := ⟨_, rfl⟩
          obtain ⟨f1, hf1⟩ : ∃ f, (snF B 0 0 X).r3 = f := ⟨_, rfl⟩
          obtain ⟨f2, hf2⟩ : ∃ f, (snF B 0 0 X).r4 = f := ⟨_, rfl⟩
          obtain ⟨f3, hf3⟩ : ∃ f, (snF B 0 0 X).r5 = f := ⟨_, rfl⟩
          obtain ⟨f4, hf4⟩ : ∃ f, (snF B 0 0 X).r6 = f := ⟨_, rfl⟩
          obtain ⟨f5, hf5⟩ : ∃ f, (snF B 0 0 X).r7 = f := ⟨_, rfl⟩
          obtain ⟨f6, hf6⟩ : ∃ f, (snF B 0 0 X).r8 = f := ⟨_, rfl⟩
          obtain ⟨f7, hf7⟩ : ∃ f, (snF B 0 0 X).r9 = f := ⟨_, rfl⟩
          obtain ⟨f8, hf8⟩ : ∃ f, (snF B 0 0 X).r10 = f := ⟨_, rfl⟩
          have HF := Lib.hid (And.intro hf0 (And.intro hf1 (And.intro hf2 (And.intro hf3 (And.intro hf4 (And.intro hf5 (And.intro hf6 (And.intro hf7 hf8))))))))
          clear hX
          go_wp2_with (go_at_call 30; go_must (refine (c30 k (by omega) (by omega) _).mono ?_; rintro e w3 ⟨rfl, hB3⟩; have HB3 := Lib.hid hB3; clear hB3))
          rw [e1]
          refine (frameAt (B := B) hB (bo := bo) (bc := bc) hcap hbn X HL.out.2.2.2.2.2.1 HL.out.2.2.2.2.2.2.1 w3 (by have := HB3.out.size; have := HR.out.2; omega) (HR.out.1.below HR.out.2 HB3.out)).mono ?_
          rw [hf0, hf1, hf2, hf3, hf4, hf5, hf6, hf7, hf8]
          clear hf0 hf1 hf2 hf3 hf4 hf5 hf6 hf7 hf8
          rintro e w4 ⟨rfl, hB4⟩
          obtain ⟨W5, hW5⟩ : ∃ W5, w4.alloc (.cells #[.int .i32 f0, .int .u8 f1, .int .u8 f2, .int .u16 f3, .int .i32 f4, .int .i32 f5, .int .i32 f6, .int .i32 f7, .int .u64 f8] 40) = W5 := ⟨_, rfl⟩
          obtain ⟨A5, hA5⟩ : ∃ A5, w4.heap.size = A5 := ⟨_, rfl⟩
          have v0 : W5.heap[A5]? = some (.cells #[.int .i32 f0, .int .u8 f1, .int .u8 f2, .int .u16 f3, .int .i32 f4, .int .i32 f5, .int .i32 f6, .int .i32 f7, .int .u64 f8] 40) := by rw [← hW5, ← hA5]; exact heap_new _ _
          have hB34 := HB3.out.trans (hB4.mono HB3.out.size)
          have hB5 : Below wr.heap.size wr W5 := by rw [← hW5]; exact hB34.alloc hB34.size _
          have hA5' : wr.heap.size ≤ A5 := by rw [← hA5]; exact hB34.size
          have HV5 := Lib.hid (And.intro v0 (And.intro hB5 hA5'))
          obtain ⟨n0, n1, n2, n3, n4, n5, n6, n7, n8', n9⟩ := blkF9 v0
          obtain ⟨m0, m1, m2, m3, m4, m5, m6⟩ := blk7 ((hB5.block A (by have := G.out.2.size; have := HU.out.2.2; omega)).trans ((G.out.2.block A (by omega)).trans HU.out.1))
          clear hB4 hB34 hB5 v0
          have hf0b := s32_bd (n8 B X % 4294967296)
          rw [show s32 (n8 B X % 4294967296) = f0 from HF.out.1] at hf0b
          have cS := fun W => sizeR_at f0 (l.term - x) hf0b.1 (by omega) W
          obtain ⟨Z, hZ⟩ : ∃ Z, szI f0 (l.term - x) = Z := ⟨_, rfl⟩
          have hZb := szI_bd f0 (l.term - x)
          unfold szD at cS
          rw [hZ] at cS hZb
          by_cases hz : Z = 0
          · rw [if_pos hz] at cS
            have HZ := Lib.hid (And.intro hZ (And.intro hZb (And.intro hf0b hz)))
            clear hZ hZb hf0b hz
            go_wp2_with (go_at_call 31; go_must (rw [e3]; refine (cS _).mono ?_; clear cS; rintro e w6 ⟨rfl, hB6⟩; have HB6 := Lib.hid hB6; clear hB6))
            refine ⟨⟨k + 1, by omega, by go_num, Lib.hid ?_⟩, by simp [intOf]; omega⟩
            obtain ⟨n, rfl⟩ : ∃ n', n = n' + 1 := ⟨n - 1, by have := HL.out.2.2.1; omega⟩
            have hwk := HL.out.1
            rw [wkF, if_neg (fun h => h.2 (by rw [HL.out.2.2.2.1, show lenF B X = f0 from HF.out.1, HZ.out.1]; exact HZ.out.2.2.2)), List.append_nil] at hwk
            rw [allF_succ, ← hwk]
            have hBB := (HV5.out.2.1.trans (HB6.out.mono HV5.out.2.1.size))
            exact ⟨own_kept G.out.1 (Nat.le_refl _) hBB, G.out.2.trans (hBB.mono (by have := HU.out.2.2; have := G.out.2.size; omega))⟩
          · rw [if_neg hz] at cS
            have hZ32 := (hZb hz).1
            have hz0 : ¬ Z < 0 := by omega
            have e4 : wrap64 (x + Z) = x + Z := IntWalk.wrap64_in _ (by have := (hZb hz).2.1; have := HL.out; omega)
            have HZ := Lib.hid (And.intro hZ (And.intro (hZb hz) (And.intro hf0b hz)))
            clear hZ hZb hf0b hz
            by_cases g1 : f0 < 0
            · have hnl := HNL.out
              go_wp2_with
               (first
                | (go_at_call 31
                   go_must (rw [e3]
                            refine (cS _).mono ?_
                            clear cS
                            rintro e w6 ⟨rfl, hB6⟩
                            have s6 := hB6.size
                            have hB56 := HV5.out.2.1.trans (hB6.mono HV5.out.2.1.size)
                            obtain ⟨A7, hA7⟩ : ∃ A7, w6.heap.size = A7 := ⟨_, rfl⟩
                            have hA7' : wr.heap.size ≤ A7 := by have := hB56.size; omega
                            obtain ⟨W7, hW7⟩ : ∃ W7, w6.alloc (.cells #[.int .i64 k, .int .i64 x, .int .i32 f0, .int .u8 f1, .int .u8 f2, .int .u16 f3, .int .i32 f4, .int .i32 f5, .int .i32 f6, .int .i32 f7, .int .u64 f8, .int .i64 2] 42) = W7 := ⟨_, rfl⟩
                            have v7 : W7.heap[A7]? = some (.cells #[.int .i64 k, .int .i64 x, .int .i32 f0, .int .u8 f1, .int .u8 f2, .int .u16 f3, .int .i32 f4, .int .i32 f5, .int .i32 f6, .int .i32 f7, .int .u64 f8, .int .i64 2] 42) := by rw [← hW7, ← hA7]; exact heap_new _ _
                            have hB67 : Below w6.heap.size w6 W7 := by rw [← hW7]; exact (Below.refl _ _).alloc (Nat.le_refl _) _
                            have v5' := (hB6.block A5 (by have := (Array.getElem?_eq_some_iff.1 HV5.out.1).1; omega)).trans HV5.out.1
                            obtain ⟨o0, o1, o2, o3, o4, o5, o6, o7, o8, o9⟩ := blkF9 v5'
                            have v5 : W7.heap[A5]? = _ := (hB67.block A5 (by have := (Array.getElem?_eq_some_iff.1 HV5.out.1).1; omega)).trans ((hB6.block A5 (by have := (Array.getElem?_eq_some_iff.1 HV5.out.1).1; omega)).trans HV5.out.1)
                            obtain ⟨n0, n1, n2, n3, n4, n5, n6, n7, n8', n9⟩ := blkF9 v5
                            obtain ⟨q0, q1, q2, q3, q4, q5, q6, q7, q8, q9, q10, q11, q12⟩ := blkF12 v7
                            have hBr7 : Below wr.heap.size wr W7 := by rw [← hW7]; exact hB56.alloc hB56.size _
                            obtain ⟨W8, hW8⟩ : ∃ W8, W7.setCell ⟨A7, 11, none⟩ (.int .i64 1) = W8 := ⟨_, rfl⟩
                            have vX : W8.heap[A7]? = some (.cells #[.int .i64 k, .int .i64 x, .int .i32 f0, .int .u8 f1, .int .u8 f2, .int .u16 f3, .int .i32 f4, .int .i32 f5, .int .i32 f6, .int .i32 f7, .int .u64 f8, .int .i64 1] 42) := by rw [← hW8]; exact heap_set11 _ v7
                            have hBrX : Below wr.heap.size wr W8 := by rw [← hW8]; exact hBr7.setCell (p := ⟨A7, 11, none⟩) hA7' _
                            have sX : wr.heap.size < W8.heap.size := by have := (Array.getElem?_eq_some_iff.1 vX).1; omega
                            obtain ⟨p0, p1, p2, p3, p4, p5, p6, p7, p8, p9, p10, p11, p12⟩ := blkF12 vX
                            have hownX := G.out.1
                            have hown := own_kept hownX (Nat.le_refl _) hBrX
                            have HX7 := Lib.hid (And.intro hBrX (And.intro vX (And.intro hA7' sX)))
                            clear s6 hB56 hB67 v5 v5' v7 hBr7 hB6 hownX hA7' hBrX vX sX))
                | (at_builtin
                   go_must (refine wpList_append_own_at _ rfl _ _ 35 rfl (A + 1) 42 i0 (.agg #[.int .i64 0, .int .i64 0, .int .i32 0, .int .u8 0, .int .u8 0, .int .u16 0, .int .i32 0, .int .i32 0, .int .i32 0, .int .i32 0, .int .u64 0, .int .i64 0]) 12 56 Tryz.underlying35 HI.out.1 HI.out.2.1 HI.out.2.2.1 HI.out.2.2.2 rfl (by decide) _ _ _ rfl (hown.alloc _) ⟨W8.heap.size, 0, none⟩ 1 1 [.int .i64 k, .int .i64 x, .int .i32 f0, .int .u8 f1, .int .u8 f2, .int .u16 f3, .int .i32 f4, .int .i32 f5, .int .i32 f6, .int .i32 f7, .int .u64 f8, .int .i64 1] rfl rfl (cell_newL _ _ _) (by intro u hu; simp at hu; rcases hu with rfl | rfl | rfl | rfl | rfl | rfl | rfl | rfl | rfl | rfl | rfl | rfl <;> rfl) (Nat.le_trans hnl (by decide)) (by omega) (by have := HX7.out.2.2.2; have := HU.out.2.2; have := G.out.2.size; simp; omega) ?_
                            intro v' w9 hown9 hgrow9 hnil9 hat9
                            have HY := Lib.hid (show w9.ownsRow (A + 1) 42 12 v' _ _ ∧ Below (A + 1) wr w9 from ⟨hown9, Below.grown (((HX7.out.1).mono (by have := HU.out.2.2; have := G.out.2.size; omega)).alloc (by have := HX7.out.2.2.2; have := HU.out.2.2; have := G.out.2.size; omega) _) hgrow9 (by have := HX7.out.2.2.2; have := HU.out.2.2; have := G.out.2.size; simp; omega) (fun j hj => (hown.lt _ hj).1)⟩)
                            clear hown9 hgrow9 hnil9 hat9)))
              obtain ⟨n, rfl⟩ : ∃ n', n = n' + 1 := ⟨n - 1, by have := HL.out.2.2.1; omega⟩
              have hcond : x + 32 ≤ l.term ∧ szI (lenF B (l.base + l.term * k + x)) (l.term - x) ≠ 0 := ⟨hxl, by rw [HL.out.2.2.2.1, show lenF B X = f0 from HF.out.1, HZ.out.1]; exact HZ.out.2.2.2⟩
              have hwk := HL.out.1
              rw [wkF, if_pos hcond, HL.out.2.2.2.1, show lenF B X = f0 from HF.out.1, HZ.out.1] at hwk
              refine ⟨⟨n, ls ++ [snF B k x X], x + Z, by rw [e4], by have := HL.out; omega, by have := HZ.out.2.1; omega, by have := HL.out.2.2.1; push_cast at this; omega, by rw [List.append_assoc]; exact hwk, by have := HL.out.2.1; rw [List.length_append]; simp; omega, Lib.hid ⟨?_, (G.out.2).trans (HY.out.2)⟩⟩, by simp [intOf]; rw [e4]; omega⟩
              have hcl : Sn.cells (snF B k x X) = [.int .i64 k, .int .i64 x, .int .i32 f0, .int .u8 f1, .int .u8 f2, .int .u16 f3, .int .i32 f4, .int .i32 f5, .int .i32 f6, .int .i32 f7, .int .u64 f8, .int .i64 1] := by
                have h := HF.out
                simp only [Sn.cells, snF] at h ⊢
                rw [h.1, h.2.1, h.2.2.1, h.2.2.2.1, h.2.2.2.2.1, h.2.2.2.2.2.1, h.2.2.2.2.2.2.1, h.2.2.2.2.2.2.2.1, h.2.2.2.2.2.2.2.2]
                rw [sttF, if_pos g1]
              have := HY.out.1
              rw [← hcl, ← rowS_snoc, List.append_assoc] at this
              rw [show (allF l B k ++ (ls ++ [snF B k x X])).length = (allF l B k ++ ls).length + 1 by simp; omega]
              exact this
            · by_cases g2 : f3 = 0
              · subst g2
                have hnl := HNL.out
                go_wp2_with
                 (first
                  | (go_at_call 31
                     go_must (rw [e3]
                              refine (cS _).mono ?_
                              clear cS
                              rintro e w6 ⟨rfl, hB6⟩
                              have s6 := hB6.size
                              have hB56 := HV5.out.2.1.trans (hB6.mono HV5.out.2.1.size)
                              obtain ⟨A7, hA7⟩ : ∃ A7, w6.heap.size = A7 := ⟨_, rfl⟩
                              have hA7' : wr.heap.size ≤ A7 := by have := hB56.size; omega
                              obtain ⟨W7, hW7⟩ : ∃ W7, w6.alloc (.cells #[.int .i64 k, .int .i64 x, .int .i32 f0, .int .u8 f1, .int .u8 f2, .int .u16 0, .int .i32 f4, .int .i32 f5, .int .i32 f6, .int .i32 f7, .int .u64 f8, .int .i64 2] 42) = W7 := ⟨_, rfl⟩
                              have v7 : W7.heap[A7]? = some (.cells #[.int .i64 k, .int .i64 x, .int .i32 f0, .int .u8 f1, .int .u8 f2, .int .u16 0, .int .i32 f4, .int .i32 f5, .int .i32 f6, .int .i32 f7, .int .u64 f8, .int .i64 2] 42) := by rw [← hW7, ← hA7]; exact heap_new _ _
                              have hB67 : Below w6.heap.size w6 W7 := by rw [← hW7]; exact (Below.refl _ _).alloc (Nat.le_refl _) _
                              have v5' := (hB6.block A5 (by have := (Array.getElem?_eq_some_iff.1 HV5.out.1).1; omega)).trans HV5.out.1
                              obtain ⟨o0, o1, o2, o3, o4, o5, o6, o7, o8, o9⟩ := blkF9 v5'
                              have v5 : W7.heap[A5]? = _ := (hB67.block A5 (by have := (Array.getElem?_eq_some_iff.1 HV5.out.1).1; omega)).trans ((hB6.block A5 (by have := (Array.getElem?_eq_some_iff.1 HV5.out.1).1; omega)).trans HV5.out.1)
                              obtain ⟨n0, n1, n2, n3, n4, n5, n6, n7, n8', n9⟩ := blkF9 v5
                              obtain ⟨q0, q1, q2, q3, q4, q5, q6, q7, q8, q9, q10, q11, q12⟩ := blkF12 v7
                              have hBr7 : Below wr.heap.size wr W7 := by rw [← hW7]; exact hB56.alloc hB56.size _
                              obtain ⟨W8, hW8⟩ : ∃ W8, W7.setCell ⟨A7, 11, none⟩ (.int .i64 3) = W8 := ⟨_, rfl⟩
                              have vX : W8.heap[A7]? = some (.cells #[.int .i64 k, .int .i64 x, .int .i32 f0, .int .u8 f1, .int .u8 f2, .int .u16 0, .int .i32 f4, .int .i32 f5, .int .i32 f6, .int .i32 f7, .int .u64 f8, .int .i64 3] 42) := by rw [← hW8]; exact heap_set11 _ v7
                              have hBrX : Below wr.heap.size wr W8 := by rw [← hW8]; exact hBr7.setCell (p := ⟨A7, 11, none⟩) hA7' _
                              have sX : wr.heap.size < W8.heap.size := by have := (Array.getElem?_eq_some_iff.1 vX).1; omega
                              obtain ⟨p0, p1, p2, p3, p4, p5, p6, p7, p8, p9, p10, p11, p12⟩ := blkF12 vX
                              have hownX := G.out.1
                              have hown := own_kept hownX (Nat.le_refl _) hBrX
                              have HX7 := Lib.hid (And.intro hBrX (And.intro vX (And.intro hA7' sX)))
                              clear s6 hB56 hB67 v5 v5' v7 hBr7 hB6 hownX hA7' hBrX vX sX))
                  | (at_builtin
                     go_must (refine wpList_append_own_at _ rfl _ _ 35 rfl (A + 1) 42 i0 (.agg #[.int .i64 0, .int .i64 0, .int .i32 0, .int .u8 0, .int .u8 0, .int .u16 0, .int .i32 0, .int .i32 0, .int .i32 0, .int .i32 0, .int .u64 0, .int .i64 0]) 12 56 Tryz.underlying35 HI.out.1 HI.out.2.1 HI.out.2.2.1 HI.out.2.2.2 rfl (by decide) _ _ _ rfl (hown.alloc _) ⟨W8.heap.size, 0, none⟩ 1 1 [.int .i64 k, .int .i64 x, .int .i32 f0, .int .u8 f1, .int .u8 f2, .int .u16 0, .int .i32 f4, .int .i32 f5, .int .i32 f6, .int .i32 f7, .int .u64 f8, .int .i64 3] rfl rfl (cell_newL _ _ _) (by intro u hu; simp at hu; rcases hu with rfl | rfl | rfl | rfl | rfl | rfl | rfl | rfl | rfl | rfl | rfl | rfl <;> rfl) (Nat.le_trans hnl (by decide)) (by omega) (by have := HX7.out.2.2.2; have := HU.out.2.2; have := G.out.2.size; simp; omega) ?_
                              intro v' w9 hown9 hgrow9 hnil9 hat9
                              have HY := Lib.hid (show w9.ownsRow (A + 1) 42 12 v' _ _ ∧ Below (A + 1) wr w9 from ⟨hown9, Below.grown (((HX7.out.1).mono (by have := HU.out.2.2; have := G.out.2.size; omega)).alloc (by have := HX7.out.2.2.2; have := HU.out.2.2; have := G.out.2.size; omega) _) hgrow9 (by have := HX7.out.2.2.2; have := HU.out.2.2; have := G.out.2.size; simp; omega) (fun j hj => (hown.lt _ hj).1)⟩)
                              clear hown9 hgrow9 hnil9 hat9)))
                obtain ⟨n, rfl⟩ : ∃ n', n = n' + 1 := ⟨n - 1, by have := HL.out.2.2.1; omega⟩
                have hcond : x + 32 ≤ l.term ∧ szI (lenF B (l.base + l.term * k + x)) (l.term - x) ≠ 0 := ⟨hxl, by rw [HL.out.2.2.2.1, show lenF B X = f0 from HF.out.1, HZ.out.1]; exact HZ.out.2.2.2⟩
                have hwk := HL.out.1
                rw [wkF, if_pos hcond, HL.out.2.2.2.1, show lenF B X = f0 from HF.out.1, HZ.out.1] at hwk
                refine ⟨⟨n, ls ++ [snF B k x X], x + Z, by rw [e4], by have := HL.out; omega, by have := HZ.out.2.1; omega, by have := HL.out.2.2.1; push_cast at this; omega, by rw [List.append_assoc]; exact hwk, by have := HL.out.2.1; rw [List.length_append]; simp; omega, Lib.hid ⟨?_, (G.out.2).trans (HY.out.2)⟩⟩, by simp [intOf]; rw [e4]; omega⟩
                have hcl : Sn.cells (snF B k x X) = [.int .i64 k, .int .i64 x, .int .i32 f0, .int .u8 f1, .int .u8 f2, .int .u16 0, .int .i32 f4, .int .i32 f5, .int .i32 f6, .int .i32 f7, .int .u64 f8, .int .i64 3] := by
                  have h := HF.out
                  simp only [Sn.cells, snF] at h ⊢
                  rw [h.1, h.2.1, h.2.2.1, h.2.2.2.1, h.2.2.2.2.1, h.2.2.2.2.2.1, h.2.2.2.2.2.2.1, h.2.2.2.2.2.2.2.1, h.2.2.2.2.2.2.2.2]
                  rw [sttF, if_neg (Int.not_lt.2 g1), if_pos rfl]
                have := HY.out.1
                rw [← hcl, ← rowS_snoc, List.append_assoc] at this
                rw [show (allF l B k ++ (ls ++ [snF B k x X])).length = (allF l B k ++ ls).length + 1 by simp; omega]
                exact this
              · have hnl := HNL.out
                go_wp2_with
                 (first
                  | (go_at_call 31
                     go_must (rw [e3]
                              refine (cS _).mono ?_
                              clear cS
                              rintro e w6 ⟨rfl, hB6⟩
                              have s6 := hB6.size
                              have hB56 := HV5.out.2.1.trans (hB6.mono HV5.out.2.1.size)
                              obtain ⟨A7, hA7⟩ : ∃ A7, w6.heap.size = A7 := ⟨_, rfl⟩
                              have hA7' : wr.heap.size ≤ A7 := by have := hB56.size; omega
                              obtain ⟨W7, hW7⟩ : ∃ W7, w6.alloc (.cells #[.int .i64 k, .int .i64 x, .int .i32 f0, .int .u8 f1, .int .u8 f2, .int .u16 f3, .int .i32 f4, .int .i32 f5, .int .i32 f6, .int .i32 f7, .int .u64 f8, .int .i64 2] 42) = W7 := ⟨_, rfl⟩
                              have v7 : W7.heap[A7]? = some (.cells #[.int .i64 k, .int .i64 x, .int .i32 f0, .int .u8 f1, .int .u8 f2, .int .u16 f3, .int .i32 f4, .int .i32 f5, .int .i32 f6, .int .i32 f7, .int .u64 f8, .int .i64 2] 42) := by rw [← hW7, ← hA7]; exact heap_new _ _
                              have hB67 : Below w6.heap.size w6 W7 := by rw [← hW7]; exact (Below.refl _ _).alloc (Nat.le_refl _) _
                              have v5' := (hB6.block A5 (by have := (Array.getElem?_eq_some_iff.1 HV5.out.1).1; omega)).trans HV5.out.1
                              obtain ⟨o0, o1, o2, o3, o4, o5, o6, o7, o8, o9⟩ := blkF9 v5'
                              have v5 : W7.heap[A5]? = _ := (hB67.block A5 (by have := (Array.getElem?_eq_some_iff.1 HV5.out.1).1; omega)).trans ((hB6.block A5 (by have := (Array.getElem?_eq_some_iff.1 HV5.out.1).1; omega)).trans HV5.out.1)
                              obtain ⟨n0, n1, n2, n3, n4, n5, n6, n7, n8', n9⟩ := blkF9 v5
                              obtain ⟨q0, q1, q2, q3, q4, q5, q6, q7, q8, q9, q10, q11, q12⟩ := blkF12 v7
                              have hBr7 : Below wr.heap.size wr W7 := by rw [← hW7]; exact hB56.alloc hB56.size _
                              have vX := v7
                              have hBrX := hBr7
                              have sX : wr.heap.size < W7.heap.size := by have := (Array.getElem?_eq_some_iff.1 v7).1; omega
                              have hownX := G.out.1
                              have hown := own_kept hownX (Nat.le_refl _) hBrX
                              have HX7 := Lib.hid (And.intro hBrX (And.intro vX (And.intro hA7' sX)))
                              clear s6 hB56 hB67 v5 v5' v7 hBr7 hB6 hownX hA7' hBrX vX sX))
                  | (at_builtin
                     go_must (refine wpList_append_own_at _ rfl _ _ 35 rfl (A + 1) 42 i0 (.agg #[.int .i64 0, .int .i64 0, .int .i32 0, .int .u8 0, .int .u8 0, .int .u16 0, .int .i32 0, .int .i32 0, .int .i32 0, .int .i32 0, .int .u64 0, .int .i64 0]) 12 56 Tryz.underlying35 HI.out.1 HI.out.2.1 HI.out.2.2.1 HI.out.2.2.2 rfl (by decide) _ _ _ rfl (hown.alloc _) ⟨W7.heap.size, 0, none⟩ 1 1 [.int .i64 k, .int .i64 x, .int .i32 f0, .int .u8 f1, .int .u8 f2, .int .u16 f3, .int .i32 f4, .int .i32 f5, .int .i32 f6, .int .i32 f7, .int .u64 f8, .int .i64 2] rfl rfl (cell_newL _ _ _) (by intro u hu; simp at hu; rcases hu with rfl | rfl | rfl | rfl | rfl | rfl | rfl | rfl | rfl | rfl | rfl | rfl <;> rfl) (Nat.le_trans hnl (by decide)) (by omega) (by have := HX7.out.2.2.2; have := HU.out.2.2; have := G.out.2.size; simp; omega) ?_
                              intro v' w9 hown9 hgrow9 hnil9 hat9
                              have HY := Lib.hid (show w9.ownsRow (A + 1) 42 12 v' _ _ ∧ Below (A + 1) wr w9 from ⟨hown9, Below.grown (((HX7.out.1).mono (by have := HU.out.2.2; have := G.out.2.size; omega)).alloc (by have := HX7.out.2.2.2; have := HU.out.2.2; have := G.out.2.size; omega) _) hgrow9 (by have := HX7.out.2.2.2; have := HU.out.2.2; have := G.out.2.size; simp; omega) (fun j hj => (hown.lt _ hj).1)⟩)
                              clear hown9 hgrow9 hnil9 hat9)))
                obtain ⟨n, rfl⟩ : ∃ n', n = n' + 1 := ⟨n - 1, by have := HL.out.2.2.1; omega⟩
                have hcond : x + 32 ≤ l.term ∧ szI (lenF B (l.base + l.term * k + x)) (l.term - x) ≠ 0 := ⟨hxl, by rw [HL.out.2.2.2.1, show lenF B X = f0 from HF.out.1, HZ.out.1]; exact HZ.out.2.2.2⟩
                have hwk := HL.out.1
                rw [wkF, if_pos hcond, HL.out.2.2.2.1, show lenF B X = f0 from HF.out.1, HZ.out.1] at hwk
                refine ⟨⟨n, ls ++ [snF B k x X], x + Z, by rw [e4], by have := HL.out; omega, by have := HZ.out.2.1; omega, by have := HL.out.2.2.1; push_cast at this; omega, by rw [List.append_assoc]; exact hwk, by have := HL.out.2.1; rw [List.length_append]; simp; omega, Lib.hid ⟨?_, (G.out.2).trans (HY.out.2)⟩⟩, by simp [intOf]; rw [e4]; omega⟩
                have hcl : Sn.cells (snF B k x X) = [.int .i64 k, .int .i64 x, .int .i32 f0, .int .u8 f1, .int .u8 f2, .int .u16 f3, .int .i32 f4, .int .i32 f5, .int .i32 f6, .int .i32 f7, .int .u64 f8, .int .i64 2] := by
                  have h := HF.out
                  simp only [Sn.cells, snF] at h ⊢
                  rw [h.1, h.2.1, h.2.2.1, h.2.2.2.1, h.2.2.2.2.1, h.2.2.2.2.2.1, h.2.2.2.2.2.2.1, h.2.2.2.2.2.2.2.1, h.2.2.2.2.2.2.2.2]
                  rw [sttF, if_neg (Int.not_lt.2 g1), if_neg g2]
                have := HY.out.1
                rw [← hcl, ← rowS_snoc, List.append_assoc] at this
                rw [show (allF l B k ++ (ls ++ [snF B k x X])).length = (allF l B k ++ ls).length + 1 by simp; omega]
                exact this
        · go_wp2
          have hw : wkF l B k n x = [] := by cases n with | zero => rfl | succ n => unfold wkF; rw [if_neg (fun h => hc h.1)]
          rw [hw, List.append_nil] at hls
          subst hls
          refine ⟨⟨k + 1, by omega, by go_num, ?_⟩, by simp [intOf]; omega⟩
          rw [allF_succ]
          exact G
    · obtain rfl : k = 3 := by omega
      have HA := Lib.hid hA
      have HW := Lib.hid hW1
      clear hW1
      go_wp2
      go_ret2
      refine ⟨u6, rfl, ?_, ?_⟩
      · rw [HA.out]; have := own_base H.out.1 (base' := A) (by omega); rw [HFF.out] at this; exact this
      · rw [HA.out]; exact HU.out.2.1.trans (H.out.2.mono (by omega))
end Go.Proofs.YtndgbfpcnkmihaaGreatDoor.Sy
