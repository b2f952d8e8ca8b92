/- The program's Linear: what it answers. -/
import Derived.Test.YtkbbpjknakajeaaTOdd
import Derived.Test.YtkbbpjknakajeaaLawC
import Derived.OwnWalk
namespace Go.Proofs.Ytkbbpjknakajeaa.Li
open Go.RowKit Go.Shelf Go.Sort
def noRow (e : Int) : Ending := .returned (.tuple #[.slice none 0 0, .bool false, .int .i64 e])
/-- what both answer -/
def LinRes (l : Array QOp) (w : World) (e : Ending) (w' : World) : Prop := Below w.heap.size w w' ∧
  ((10 < l.size ∧ e = noRow 12) ∨ (l.size ≤ 10 ∧ AnyOdd l ∧ e = noRow 1) ∨ (l.size ≤ 10 ∧ ¬ AnyOdd l ∧ goal l [] l.size = none ∧ e = noRow 0) ∨
    (l.size ≤ 10 ∧ ¬ AnyOdd l ∧ ∃ r a c, goal l [] l.size = some r ∧ e = .returned (.tuple #[.slice a r.length c, .bool true, .int .i64 0]) ∧ SliceOf w' a r.toArray ∧ r.length ≤ c))
theorem info4' : (Try.prog.info? 4).map (fun i => (i.zero, i.size, i.bytes)) = some (some (.bool false), 1, 1) := by kernel_rfl
theorem cOf_start (n : Nat) : (cOf n []).sum = n := by rw [cOf_nil]; simp
set_option maxHeartbeats 1600000 in
theorem lin_many (al : Option Addr) (cl : Nat) (l : Array QOp) (w : World) (h : 10 < l.size) : Calls Try.prog 9 #[.slice al l.size cl] w (LinRes l w) := by
  have h1 : (l.size : Int) > 10 := by omega
  go_enter Try.func9, Try.ntmps9
  go_wp2
  go_ret3
  exact ⟨Below.refl _ _, .inl ⟨h, rfl⟩⟩
theorem find_zero (fb : Nat) (al : Option Addr) (cl : Nat) (w : World) (c0 : w.cell? ⟨fb, 0, none⟩ = some (.slice al 0 cl)) (c2 : w.cell? ⟨fb, 2, none⟩ = some (.slice none 0 0)) :
    Calls Try.prog 31 #[.pointer (some ⟨fb, 0, none⟩), .slice none 0 0] w fun e w' => e = .returned (.bool true) ∧ ∃ n, w' = w.drewN n := by
  go_enter Try.func31, Try.ntmps31
  go_wp2_with fail
  go_quiet (fail)
  go_wp2
  go_ret
  exact ⟨rfl, _, rfl⟩
set_option maxHeartbeats 3200000 in
set_option maxRecDepth 1000000 in
theorem lin_any (al : Option Addr) (cl : Nat) (l : Array QOp) (w : World) (hq : SliceOfQ w al l) (hn : l.size ≤ 10) : Calls Try.prog 9 #[.slice al l.size cl] w (LinRes l w) := by
  obtain ⟨t0, hi, hz0, hz1, hz2⟩ := info_parts info4'
  have h1 : ¬ (l.size : Int) > 10 := by omega
  have c30 := contains_any al cl l w hq (by omega)
  have HQ := Lib.hid hq
  clear hq
  go_enter Try.func9, Try.ntmps9
  go_wp2_with (first
    | (go_at_call 30; refine c30.mono ?_; clear c30; rintro e w1 ⟨r, rfl, hr, hB1⟩; have HR := Lib.hid (And.intro hr hB1); clear hr hB1; cases r)
    | (at_make; refine wpList_make_full _ rfl _ _ 62 rfl w1.heap.size 4 t0 (.bool false) 1 Try.underlying62 hi hz0 hz1 .i64 .i64 _ _ l.size rfl rfl rfl rfl (by rw [hz2]; omega) (Nat.le_trans (by omega : l.size ≤ 100) (by decide)) (Nat.le_refl _) ?_; intro w2 hown2 hgrow2; have HO := Lib.hid (And.intro hown2 hgrow2); clear hown2 hgrow2))
  · have hno : ¬ AnyOdd l := fun h => by have := HR.out.1.2 h; cases this
    have hB2 : Below w.heap.size w w2 := HR.out.2.grown HO.out.2 HR.out.2.size (fun j hj => by cases hj)
    have hB3 := hB2.alloc hB2.size (.cells #[.slice al l.size cl, .slice (some ⟨w1.heap.size, 0, none⟩) l.size l.size, .slice none 0 0] 64)
    have hw12 : w1.heap.size < w2.heap.size := by have := (HO.out.1.lt w1.heap.size rfl).2; exact this
    obtain ⟨fb, hfb⟩ : ∃ fb, w2.heap.size = fb := ⟨_, rfl⟩
    have hblk : (w2.alloc (.cells #[.slice al l.size cl, .slice (some ⟨w1.heap.size, 0, none⟩) l.size l.size, .slice none 0 0] 64)).heap[fb]? = some (.cells #[.slice al l.size cl, .slice (some ⟨w1.heap.size, 0, none⟩) l.size l.size, .slice none 0 0] 64) := by
      rw [← hfb]
      show (w2.heap.push _)[w2.heap.size]? = _
      rw [Array.getElem?_push_size]
    have hown3 := HO.out.1.alloc (.cells #[.slice al l.size cl, .slice (some ⟨w1.heap.size, 0, none⟩) l.size l.size, .slice none 0 0] 64)
    have hsz3 : (w2.alloc (.cells #[.slice al l.size cl, .slice (some ⟨w1.heap.size, 0, none⟩) l.size l.size, .slice none 0 0] 64)).heap.size = fb + 1 := by rw [← hfb]; simp
    obtain ⟨w3, hw3⟩ : ∃ w3, w2.alloc (.cells #[.slice al l.size cl, .slice (some ⟨w1.heap.size, 0, none⟩) l.size l.size, .slice none 0 0] 64) = w3 := ⟨_, rfl⟩
    rw [hw3] at hB3 hblk hown3 hsz3
    simp only [hfb, hw3]
    have c0 : w3.cell? ⟨fb, 0, none⟩ = some (.slice al l.size cl) := by unfold World.cell?; simp [hblk]
    have c1 : w3.cell? ⟨fb, 1, none⟩ = some (.slice (some ⟨w1.heap.size, 0, none⟩) l.size l.size) := by unfold World.cell?; simp [hblk]
    have c2 : w3.cell? ⟨fb, 2, none⟩ = some (.slice none 0 0) := by unfold World.cell?; simp [hblk]
    have f2 : w3.frozen? ⟨fb, 2, none⟩ = false := by unfold World.frozen?; simp [hblk]
    have HF := Lib.hid (And.intro hB3 (And.intro hblk (And.intro hown3 (And.intro hsz3 (And.intro hw12 (And.intro hfb (And.intro c1 (And.intro c2 f2))))))))
    clear hB3 hblk hown3 hsz3 hw12 hfb hw3 hB2 c1 f2
    rcases Nat.eq_zero_or_pos l.size with hz | hp
    · rw [hz] at c0
      have c31 := find_zero fb al cl w3 c0 c2
      clear c0
      go_wp2_with (go_at_call 31; refine c31.mono ?_; clear c31; rintro e w4 ⟨rfl, nq, rfl⟩; have c2' : (w3.drewN nq).cell? ⟨fb, 2, none⟩ = some (.slice none 0 0) := c2; clear c2)
      go_ret3
      exact ⟨below_drewN HF.out.1 _, .inr (.inr (.inr ⟨hn, hno, [], none, 0, by rw [hz]; exact goal_full (Pre.nil l), rfl, .inl rfl, Nat.le_refl _⟩))⟩
    · obtain ⟨bl, ol, rfl, hbl, hrd⟩ : ∃ b off, al = some ⟨b, off, none⟩ ∧ b < w.heap.size ∧ ReadsQ w b off l := by
        rcases HQ.out with h | h
        · omega
        · exact h
      have hFS : FS w3 w1.heap.size fb w1.heap.size bl ol cl l (.slice none 0 0) [] := by
        obtain ⟨q1, q2, q3, q4, q5, q6, q7, q8, q9⟩ := HF.out
        have hs1 := HR.out.2.size
        refine ⟨c0, q7, q8, q9, fun i hi => ?_, fun i => q3.frozenAt i, World.ownsRow_nil _ _ _ _, hrd.below hbl q1, (by omega), (by omega), (by omega), Nat.le_refl _, (fun g hg => by cases hg), (by omega), (by omega), (by omega)⟩
        have := q3.cellAt i (by omega)
        rw [this]
        have e1 : (Value.bool false).cells = #[.bool false] := rfl
        rw [e1, toList_madeCells_one]
        simp [hi]
      have c31 := find_any hn l.size w3 (.slice none 0 0) [] #[] none 0 hFS (Pre.nil l) (by simp) (cOf_start l.size) (.inl ⟨rfl, rfl, rfl⟩) (fun g o h => by cases h) (by have := HF.out.2.2.2.1; have := HF.out.2.2.2.2.1; have := HF.out.2.2.2.2.2.1; omega)
      change Calls Try.prog 31 #[.pointer (some ⟨fb, 0, none⟩), .slice none 0 0] w3 _ at c31
      have HFS := Lib.hid hFS
      clear hFS c0 c2 hrd
      go_wp2_with (go_at_call 31; refine c31.mono ?_; clear c31; rintro e w4 ⟨v', hK, hres⟩; have HK := Lib.hid hK; clear hK; rcases hres with ⟨t, rfl, hg, hF4⟩ | ⟨rfl, hg, hF4⟩; have c24 := hF4.c2; have HG := Lib.hid (And.intro hg hF4); clear hg hF4)
      · have hF4 := HG.out.2
        simp only [List.nil_append] at hF4
        obtain ⟨ao4, vc4, hv4, hle4, hao4⟩ := own_val hF4.row
        subst hv4
        have hS4 : SliceOf w4 ao4 t.toArray := by
          rcases Nat.eq_zero_or_pos t.length with h0 | h0
          · exact .inl (by simpa using h0)
          · obtain ⟨g4, rfl⟩ := hao4 h0
            exact .inr ⟨g4, 0, rfl, (hF4.row.lt g4 rfl).2, holds_reads (own_holds (n := t.length) (zs := t) hF4.row rfl)⟩
        have HS4 := Lib.hid (And.intro hS4 hle4)
        clear hF4 hS4 hle4 hao4 c24
        go_ret3
        refine ⟨HK.out.agr.below HF.out.1 (Nat.le_refl _) (fun x hx => ?_), .inr (.inr (.inr ⟨hn, hno, t, ao4, vc4, HG.out.1, rfl, HS4.out.1, HS4.out.2⟩))⟩
        have hs1 := HR.out.2.size
        have := HF.out.2.2.2.2.2.1
        have := HF.out.2.2.2.2.1
        simp [Value.ownBlock] at hx
        omega
      · go_ret3
        refine ⟨HK.out.agr.below HF.out.1 (Nat.le_refl _) (fun x hx => ?_), .inr (.inr (.inl ⟨hn, hno, hg, rfl⟩))⟩
        have hs1 := HR.out.2.size
        have := HF.out.2.2.2.2.2.1
        have := HF.out.2.2.2.2.1
        simp [Value.ownBlock] at hx
        omega
  · go_ret3
    exact ⟨HR.out.2, .inr (.inl ⟨hn, by have := HR.out.1; simpa using this, rfl⟩)⟩
end Go.Proofs.Ytkbbpjknakajeaa.Li
