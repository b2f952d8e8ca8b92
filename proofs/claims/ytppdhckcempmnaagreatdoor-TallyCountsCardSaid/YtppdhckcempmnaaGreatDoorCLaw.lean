/- TallyCounts answers true, for every trace and every actor. -/
import Derived.Test.YtppdhckcempmnaaGreatDoorB3
import Derived.Test.YtppdhckcempmnaaGreatDoorCRef
import Derived.Test.YtppdhckcempmnaaGreatDoorTRef
import Derived.Test.YtppdhckcempmnaaGreatDoorFix
namespace Go.Proofs.YtppdhckcempmnaaGreatDoor.Ce
open Go Go.RowKit Go.Lib Go.Maps
theorem fixed (w : World) : Calls Tryz.prog 4 #[] w fun e w' => e = .returned (.bool true) ∧ Below w.heap.size w w' := _root_.YtppdhckcempmnaaGreatDoorS.fixed w
set_option maxRecDepth 1000000
set_option maxHeartbeats 6400000
theorem law_many (al : Option Addr) (cl : Nat) (l : Array Ev) (z : Int) (w : World) (hT : Tr w al l) (hn : l.size ≤ 9223372036854775807) (hf : ¬ Few l) :
    Calls Tryz.prog 3 #[.slice al l.size cl, .int .i64 z] w fun e w' => e = .returned (.bool true) ∧ Below w.heap.size w w' := by
  have hd : decide (Few l) = false := decide_eq_false hf
  have HT := Lib.hid hT
  clear hT hf
  go_enter Tryz.func3, Tryz.ntmps3
  go_wp2_with (first
    | (go_at_call 4
       refine (fixed _).mono ?_
       rintro e w1 ⟨rfl, hB⟩
       have c5 := few_any al cl l w1 (HT.out.below hB) hn
       rw [hd] at c5
       have HB := Lib.hid hB
       clear hB)
    | (go_at_call 5
       refine c5.mono ?_
       clear c5
       rintro e w2 ⟨rfl, hB⟩
       have HB2 := Lib.hid hB
       clear hB))
  go_ret
  exact ⟨rfl, HB.out.trans (HB2.out.mono HB.out.size)⟩
theorem cnt_same (z : Int) : (fun x : Ev => x.act == z) = cntR z false := by
  funext x; simp [cntR]
theorem cnt_all : (fun _ : Ev => true) = cntR 0 true := by
  funext x; simp [cntR]
theorem law_few (al : Option Addr) (cl : Nat) (l : Array Ev) (z : Int) (w : World) (hT : Tr w al l) (hf : Few l) :
    Calls Tryz.prog 3 #[.slice al l.size cl, .int .i64 z] w fun e w' => e = .returned (.bool true) ∧ Below w.heap.size w w' := by
  have hd : decide (Few l) = true := decide_eq_true hf
  have hn : l.size ≤ 600 := hf.1
  have hlen := cellsL_len l l.size
  obtain ⟨L, hL⟩ : ∃ L, cellsL l l.size = L := ⟨_, rfl⟩
  rw [hL] at hlen
  have hL13 : L.length ≤ 1300 := by omega
  obtain ⟨ta, hta⟩ : ∃ t, foldT (cntR z false) l l.size = t := ⟨_, rfl⟩
  obtain ⟨tb, htb⟩ : ∃ t, foldT (cntR 0 true) l l.size = t := ⟨_, rfl⟩
  have HT := Lib.hid hT
  have c7 : ∀ W, Tr W al l → Calls Tryz.prog 7 #[.slice al l.size cl, .int .i64 z] W fun e w' => e = .returned ta.val ∧ Below W.heap.size W w' := fun W h => by
    have := actor_any al cl l z W h hn
    rwa [cnt_same, hta] at this
  have c8a : ∀ W, Tr W al l → Calls Tryz.prog 8 #[.slice al l.size cl, .int .i64 z, .bool false] W fun e w' => e = .returned ta.val ∧ Below W.heap.size W w' := fun W h => by
    have := tallyR_any al cl l z false W h hn
    rwa [hta] at this
  have c8b : ∀ W, Tr W al l → Calls Tryz.prog 8 #[.slice al l.size cl, .int .i64 0, .bool true] W fun e w' => e = .returned tb.val ∧ Below W.heap.size W w' := fun W h => by
    have := tallyR_any al cl l 0 true W h hn
    rwa [htb] at this
  have c9 : ∀ W, Tr W al l → Calls Tryz.prog 9 #[.slice al l.size cl] W fun e w' => e = .returned tb.val ∧ Below W.heap.size W w' := fun W h => by
    have := all_any al cl l W h hn
    rwa [cnt_all, htb] at this
  have c6 : ∀ W, Tr W al l → Calls Tryz.prog 6 #[.slice al l.size cl] W fun e w' => ∃ v, e = .returned v ∧ RowS W w' v L := fun W h => by
    refine (cells_any al cl l W h hn).mono ?_
    rintro e w' ⟨v, rfl, h1, h2⟩
    rw [hL] at h1
    exact ⟨v, rfl, h1, h2⟩
  have c11 : ∀ W, Tr W al l → Calls Tryz.prog 11 #[.slice al l.size cl] W fun e w' => ∃ v, e = .returned v ∧ RowS W w' v L := fun W h => by
    have := cellsR_any al cl l W h hn
    rwa [hL] at this
  have c5 : ∀ W, Tr W al l → Calls Tryz.prog 5 #[.slice al l.size cl] W fun e w' => e = .returned (.bool true) ∧ Below W.heap.size W w' := fun W h => by
    have := few_any al cl l W h (by omega)
    rwa [hd] at this
  clear hta htb hL hd hT hf hlen
  obtain ⟨a0, a1, a2, a3, a4, a5, a6, a7, a8, a9⟩ := ta
  obtain ⟨b0, b1, b2, b3, b4, b5, b6, b7, b8, b9⟩ := tb
  unfold Tl.val at c7 c8a c8b c9
  dsimp only at c7 c8a c8b c9
  go_enter Tryz.func3, Tryz.ntmps3
  go_wp2_with (first
    | (go_at_call 4
       refine (fixed _).mono ?_
       rintro e w1 ⟨rfl, hB⟩
       have T1 := HT.out.below hB
       have k5 := c5 w1 T1
       have B1 := Lib.hid hB
       have HT1 := Lib.hid T1
       clear hB c5 T1)
    | (go_at_call 5
       refine k5.mono ?_
       clear k5
       rintro e w2 ⟨rfl, hB⟩
       have T2 := HT1.out.below hB
       have k6 := c6 w2 T2
       have B2 := Lib.hid (B1.out.trans (hB.mono B1.out.size))
       have HT2 := Lib.hid T2
       clear hB c6 T2)
    | (go_at_call 6
       refine k6.mono ?_
       clear k6
       rintro e w3 ⟨v, rfl, hR⟩
       have T3 := HT2.out.below hR.b
       have k7 := c7 w3 T3
       have B3 := Lib.hid (B2.out.trans (hR.b.mono B2.out.size))
       have HT3 := Lib.hid T3
       obtain ⟨ao, cap, rfl, _, hao⟩ := hR.form
       have HR3 := Lib.hid (And.intro hR hao)
       clear c7 T3 hR hao)
    | (go_at_call 7
       refine k7.mono ?_
       clear k7
       rintro e w4 ⟨rfl, hB⟩
       have T4 := HT3.out.below hB
       have k8 := c8a w4 T4
       have B4 := Lib.hid (B3.out.trans (hB.mono B3.out.size))
       have HT4 := Lib.hid T4
       have HR4 := Lib.hid (HR3.out.1.grow hB)
       clear hB c8a T4)
    | (go_at_call 8
       refine k8.mono ?_
       clear k8
       rintro e w5 ⟨rfl, hB⟩
       have T5 := HT4.out.below hB
       have k9 := c9 w5 T5
       have B5 := Lib.hid (B4.out.trans (hB.mono B4.out.size))
       have HT5 := Lib.hid T5
       have HR5 := Lib.hid (HR4.out.grow hB)
       clear hB c9 T5)
    | (go_at_call 9
       refine k9.mono ?_
       clear k9
       rintro e w6 ⟨rfl, hB⟩
       have T6 := HT5.out.below hB
       have k88 := c8b w6 T6
       have B6 := Lib.hid (B5.out.trans (hB.mono B5.out.size))
       have HT6 := Lib.hid T6
       have HR6 := Lib.hid (HR5.out.grow hB)
       clear hB c8b T6)
    | (go_at_call 8
       refine k88.mono ?_
       clear k88
       rintro e w7 ⟨rfl, hB⟩
       have T7 := HT6.out.below hB
       have k11 := c11 w7 T7
       have B7 := Lib.hid (B6.out.trans (hB.mono B6.out.size))
       have HR7 := Lib.hid (HR6.out.grow hB)
       clear hB c11 T7)
    | (go_at_call 11
       refine k11.mono ?_
       clear k11
       rintro e w8 ⟨v2, rfl, hR⟩
       have B8 := Lib.hid (B7.out.trans (hR.b.mono B7.out.size))
       have R8 := HR7.out.grow hR.b
       obtain ⟨ao2, cap2, rfl, _, _⟩ := hR.form
       have k10 := same_any ao ao2 cap cap2 L _ _ w8 R8 hR hL13
       have HR8 := Lib.hid R8
       clear hR R8)
    | (go_at_call 10
       refine k10.mono ?_
       clear k10
       rintro e w9 ⟨rfl, hB⟩
       have B9 := Lib.hid (B8.out.trans (hB.mono B8.out.size))
       have HR9 := Lib.hid (HR8.out.grow hB)
       clear hB)
    | fail)
  cases L with
  | nil =>
    refine (hot_none ao cap _).mono ?_
    rintro e w10 ⟨rfl, hB⟩
    have B10 := Lib.hid (B9.out.trans (hB.mono B9.out.size))
    clear hB
    go_wp2_with fail
    refine wp_loop_rounds 1 ?_
    rw [rounds_succ]
    go_wp2
    go_ret
    exact ⟨rfl, B10.out.alloc B10.out.size _⟩
  | cons c0 rest =>
    obtain ⟨g, rfl⟩ := HR3.out.2 0 c0 rfl
    have hrl : rest.length ≤ 1300 := by simp at hL13; omega
    refine (hot_any g cap c0 rest _ _ HR9.out hrl).mono ?_
    rintro e w10 ⟨rfl, hB⟩
    have B10 := B9.out.trans (hB.mono B9.out.size)
    have R10 := HR9.out.grow hB
    clear hB
    obtain ⟨m, hm⟩ : ∃ m, rest.foldl mx c0 = m := ⟨_, rfl⟩
    have hbest : (∀ x ∈ c0 :: rest, x.sm ≤ m.sm) ∧ ∃ A B, c0 :: rest = A ++ m :: B ∧ ∀ x ∈ A, x.sm < m.sm := by
      have := foldl_best rest c0
      rw [← hm]
      exact this
    rw [hm]
    obtain ⟨hle, A, Bs, hAB, hA⟩ := hbest
    obtain ⟨N, hN⟩ : ∃ N, (c0 :: rest).length = N := ⟨_, rfl⟩
    have hNA : A.length < N := by rw [← hN, hAB]; simp
    have hpos : (0 : Int) < (N : Int) := by omega
    have hN13 : N ≤ 1301 := by rw [← hN]; simp; omega
    have hpos2 : ((N : Int) > 0) := hpos
    have hlt10 : ∀ W, Below w10.heap.size w10 W → ∀ k x, (c0 :: rest)[k]? = some x → g < w10.heap.size ∧ W.cell? ⟨g, k * 3, none⟩ = some (.int .i64 x.p) ∧ W.cell? ⟨g, k * 3 + 1, none⟩ = some (.int .i64 x.lk) ∧ W.cell? ⟨g, k * 3 + 2, none⟩ = some (.int .i64 x.wr) := fun W hW k x hk => by
      obtain ⟨x0, x1, x2, _, _, hg, _⟩ := R10.cells hk
      exact ⟨hg, (hW.cell (p := ⟨g, k * 3, none⟩) hg).trans x0, (hW.cell (p := ⟨g, k * 3 + 1, none⟩) hg).trans x1, (hW.cell (p := ⟨g, k * 3 + 2, none⟩) hg).trans x2⟩
    have HH := Lib.hid (And.intro B10 (And.intro hle (And.intro hAB (And.intro hA (And.intro hNA hlt10)))))
    rw [hN]
    clear B10 R10 hle hAB hA hlt10 hm
    have HN := Lib.hid hN
    clear hN
    obtain ⟨mp, ml, mw⟩ := m
    unfold Cl.val
    dsimp only
    have hN0 : 0 < N := by omega
    go_wp2_with fail
    obtain ⟨B, hBB⟩ : ∃ B, w10.heap.size = B := ⟨_, rfl⟩
    have u0 : (w10.alloc (.cells #[.int .i64 mp, .int .i64 ml, .int .i64 mw] 34)).heap[B]? = some (.cells #[.int .i64 mp, .int .i64 ml, .int .i64 mw] 34 (0, 0)) := by rw [← hBB]; exact heap_new _ _
    have u1 : Below B w10 (w10.alloc (.cells #[.int .i64 mp, .int .i64 ml, .int .i64 mw] 34)) := by rw [← hBB]; exact (Below.refl _ _).alloc (Nat.le_refl _) _
    have HI := Lib.hid (And.intro u0 u1)
    clear u0 u1
    simp only [hBB]
    go_loopw [50] (fun s wr => ∃ k : Nat, k ≤ A.length ∧ s = .int .i64 k ∧ Hid (wr.heap[B]? = some (.cells #[.int .i64 mp, .int .i64 ml, .int .i64 mw] 34 (0, 0)) ∧ Below B w10 wr)) (fun s _ => N - (RowKit.intOf s).toNat)
    case atStart => exact ⟨0, Nat.zero_le _, rfl, HI⟩
    case round =>
      obtain ⟨k, hk, rfl, HW⟩ := hrel
      clear HI
      have hkN : k < N := by have := HH.out.2.2.2.2.1; omega
      have h1 : (k : Int) < (N : Int) := by omega
      have h2 : (0 : Int) ≤ (k : Int) := by omega
      obtain ⟨x, hx⟩ : ∃ x, (c0 :: rest)[k]? = some x := ⟨(c0 :: rest)[k]'(by have := HN.out; omega), List.getElem?_eq_getElem (by have := HN.out; omega)⟩
      obtain ⟨hg, x0, x1, x2⟩ := HH.out.2.2.2.2.2 wr (by rw [hBB]; exact HW.out.2) k x hx
      rw [hBB] at hg
      have hBw : B < wr.heap.size := (Array.getElem?_eq_some_iff.1 HW.out.1).1
      have v0 : (wr.alloc (.cells #[.int .i64 x.p, .int .i64 x.lk, .int .i64 x.wr] 34)).heap[B]? = some (.cells #[.int .i64 mp, .int .i64 ml, .int .i64 mw] 34 (0, 0)) := (Below.heap_alloc _ _ _ hBw).trans HW.out.1
      obtain ⟨y0, y1, y2, _, _, _⟩ := blk3 v0
      have hle := HH.out.2.1 x (List.mem_of_getElem? hx)
      have hAB := HH.out.2.2.1
      by_cases hkA : k < A.length
      · have hlt : x.sm < Cl.sm ⟨mp, ml, mw⟩ := by
          rw [hAB, List.getElem?_append_left hkA] at hx
          exact HH.out.2.2.2.1 x (List.mem_of_getElem? hx)
        obtain ⟨xp, xl, xw⟩ := x
        unfold Cl.sm W64 at hlt
        dsimp only at hlt x0 x1 x2 y0 y1 y2
        have g1 : ¬ wrap64 (xl + xw) > wrap64 (ml + mw) := by omega
        have g2 : ¬ wrap64 (xl + xw) = wrap64 (ml + mw) := by omega
        have g3 : (wrap64 (xl + xw) == wrap64 (ml + mw)) = false := by simpa using g2
        have HV := Lib.hid (And.intro v0 (HW.out.2.alloc (Nat.le_of_lt hBw) (.cells #[.int .i64 xp, .int .i64 xl, .int .i64 xw] 34)))
        have HK := Lib.hid hkA
        clear hle hAB hx hkA hlt v0
        go_wp2_with fail
        go_roundw
        case rel => exact ⟨k + 1, HK.out, by go_num, HV⟩
        case measure => simp only [RowKit.intOf]; omega
      · obtain rfl : k = A.length := by omega
        rw [hAB, List.getElem?_append_right (Nat.le_refl _), Nat.sub_self] at hx
        obtain rfl : (⟨mp, ml, mw⟩ : Cl) = x := by simpa using hx
        dsimp only at x0 x1 x2 y0 y1 y2
        have g1 : ¬ wrap64 (ml + mw) > wrap64 (ml + mw) := by omega
        clear hle hAB hx hkA v0
        go_wp2_with fail
        go_ret
        refine ⟨by simp, ?_⟩
        exact HH.out.1.trans ((HW.out.2.alloc (Nat.le_of_lt hBw) _).mono (by have := HH.out.1.size; omega))
end Go.Proofs.YtppdhckcempmnaaGreatDoor.Ce
