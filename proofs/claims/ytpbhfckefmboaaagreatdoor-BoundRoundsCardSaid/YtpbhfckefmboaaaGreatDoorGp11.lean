/- StF, StG, StH: in one text. -/
import Derived.Test.YtpbhfckefmboaaaGreatDoorGp10
set_option linter.unusedVariables false
set_option linter.unusedSimpArgs false
set_option linter.unusedSectionVars false
namespace Go.Proofs.YtpbhfckefmboaaaGreatDoor.Ba
open Go Go.RowKit Go.Lib Go.Base
set_option maxHeartbeats 3200000 in
set_option maxRecDepth 100000 in
theorem kstart_any {w : World} {B : Nat} {l : Lg} (hl : l.ok) {C : Array Value} {t : TypeId} {times : Int} (h : w.heap[B]? = some (.cells C t (0, 0))) (hC : C.size = 13) (hg : LogAt C 4 l) (ht : C[11]? = some (.int .i64 times)) (htb : times ≤ 65536) (hf : C[1]? = some (.func (.func 71) #[.pointer (some ⟨B, 0, none⟩)] #[])) :
    Calls Tryz.prog 74 #[.pointer (some ⟨B, 0, none⟩)] w fun e w' => e = .returned (.tuple #[]) ∧ Turn2 B B w w' := by
  have c1 := cells_at h hf
  have hm := kmore_any hl h hC hg ht htb
  have H := Lib.hid (And.intro h hm)
  clear h hm hg ht hf
  go_enter Tryz.func74, Tryz.ntmps74
  go_wp2_with fail
  refine H.out.2.mono ?_
  rintro e w1 (⟨rfl, rfl⟩ | ⟨c, C', rfl, hT, hc, hB, hk, hW⟩)
  · obtain ⟨v0, e0⟩ := arr_some (C := C) (o := 0) (by omega)
    obtain ⟨v3, e3⟩ := arr_some (C := C) (o := 3) (by omega)
    have k0 := cells_at H.out.1 e0
    have k3 := cells_at H.out.1 e3
    have z0 := cells_fr H.out.1 (o := 0) (by omega)
    have z3 := cells_fr H.out.1 (o := 3) (by omega)
    obtain ⟨W2, hW2⟩ : ∃ V, (w1.setCell ⟨B, 0, none⟩ (.pointer none)).setCell ⟨B, 3, none⟩ (.bool false) = V := ⟨_, rfl⟩
    have r2 : W2.heap[B]? = _ := hW2 ▸ set7 (set7 H.out.1 0 (.pointer none)) 3 (.bool false)
    have cS := Lib.hid (ksettle_any r2 (by simp; omega) (.inl (by simp [Array.getElem?_setIfInBounds, hC])))
    have T2 : Turn2 B B w1 W2 := hW2 ▸ Turn2.setP.trans .setP
    have HT := Lib.hid T2
    clear r2 T2 e0 e3
    go_wp2_with (go_at_call 103; refine cS.out.mono ?_; rintro e w3 ⟨rfl, hB3⟩; have H3 := Lib.hid hB3; clear hB3)
    go_end0
    exact ⟨rfl, HT.out.trans (.of H3.out)⟩
  · obtain ⟨C1, hC1⟩ : ∃ C1, C.setIfInBounds 11 (.int .i64 (times - 1)) = C1 := ⟨_, rfl⟩
    rw [hC1] at hB
    have s1 : C1.size = 13 := by rw [← hC1]; simp [hC]
    obtain ⟨v0, e0⟩ := arr_some (C := C1) (o := 0) (by omega)
    obtain ⟨v3, e3⟩ := arr_some (C := C1) (o := 3) (by omega)
    have k0 := cells_at hB e0
    have k3 := cells_at hB e3
    have z0 := cells_fr hB (o := 0) (by omega)
    have z3 := cells_fr hB (o := 3) (by omega)
    have hBl := (Array.getElem?_eq_some_iff.1 H.out.1).1
    obtain ⟨W2, hW2⟩ : ∃ V, (w1.setCell ⟨B, 0, none⟩ (.pointer (some ⟨c, 0, none⟩))).setCell ⟨B, 3, none⟩ (.bool true) = V := ⟨_, rfl⟩
    have r2 : W2.heap[B]? = _ := hW2 ▸ set7 (set7 hB 0 (.pointer (some ⟨c, 0, none⟩))) 3 (.bool true)
    have k2 : W2.heap[c]? = _ := hW2 ▸ (set_other (by omega)).trans ((set_other (by omega)).trans hk)
    have cS := Lib.hid (ksettle_any r2 (by simp; omega) (.inr ⟨c, C', by simp [Array.getElem?_setIfInBounds, s1], by simp [Array.getElem?_setIfInBounds, s1], k2, hW⟩))
    have T2 : Turn2 B B w1 W2 := hW2 ▸ Turn2.setP.trans .setP
    have HT := Lib.hid (hT.trans T2)
    clear r2 T2 e0 e3 hB hk hT k2 hW
    go_wp2_with (go_at_call 103; refine cS.out.mono ?_; rintro e w3 ⟨rfl, hB3⟩; have H3 := Lib.hid hB3; clear hB3)
    go_end0
    exact ⟨rfl, HT.out.trans (.of H3.out)⟩
/-- a keeper's cells -/
def keepC (l : Lg) (f1 f2 : Value) (times : Int) : Array Value := #[.pointer none, f1, f2, .bool false, .int .i64 l.base, .int .i64 l.term, .int .i64 l.mtu, .int .i64 l.subs, .int .i32 l.ini, .int .i32 l.ses, .int .i32 l.str, .int .i64 times, .int .i64 0]
set_option maxHeartbeats 3200000 in
set_option maxRecDepth 100000 in
theorem keep_any {w : World} {l : Lg} (hl : l.ok) {cleans : Int} :
    Calls Tryz.prog 35 #[l.val, .int .i64 cleans] w fun e w' => ∃ B, e = .returned (.pointer (some ⟨B, 0, none⟩)) ∧ Below w.heap.size w w' ∧ w.heap.size ≤ B := by
  unfold Lg.val
  obtain ⟨X, hX⟩ : ∃ X, w.heap.size = X := ⟨_, rfl⟩
  obtain ⟨tm, htb, htm⟩ : ∃ tm : Int, tm ≤ 65536 ∧ ((cleans ≤ 65536 ∧ tm = cleans) ∨ (¬ cleans ≤ 65536 ∧ tm = 65536)) := by
    by_cases h : cleans ≤ 65536
    · exact ⟨cleans, h, .inl ⟨h, rfl⟩⟩
    · exact ⟨65536, by omega, .inr ⟨h, rfl⟩⟩
  obtain ⟨V1, hV1⟩ : ∃ V, w.alloc (.cells #[.int .i64 l.base, .int .i64 l.term, .int .i64 l.mtu, .int .i64 l.subs, .int .i32 l.ini, .int .i32 l.ses, .int .i32 l.str] 23) = V := ⟨_, rfl⟩
  obtain ⟨V2, hV2⟩ : ∃ V, V1.alloc (.cells (keepC l .nilFunc .nilFunc tm) 162) = V := ⟨_, rfl⟩
  obtain ⟨V3, hV3⟩ : ∃ V, V2.alloc (.cells #[.pointer none] 95) = V := ⟨_, rfl⟩
  obtain ⟨b1, r1, s1⟩ := at_new hV1
  obtain ⟨b2, r2, s2⟩ := at_new hV2
  obtain ⟨b3, r3, s3⟩ := at_new hV3
  rw [hX] at r1 s1 b1
  rw [s1] at r2 s2 b2
  rw [s2] at r3 s3 b3
  obtain ⟨m0, m1, m2, m3, m4, m5, m6⟩ := blk7 r1
  have kB := (b3.block (X + 1) (by omega)).trans r2
  have i0 : V3.cell? ⟨X + 1 + 1, 0, none⟩ = some (.pointer none) := by simp [World.cell?, r3]
  have iz : V3.frozen? ⟨X + 1 + 1, 0, none⟩ = false := by simp [World.frozen?, r3]
  obtain ⟨V4, hV4⟩ : ∃ V, V3.setCell ⟨X + 1 + 1, 0, none⟩ (.pointer (some ⟨X + 1, 0, none⟩)) = V := ⟨_, rfl⟩
  have r4 : V4.heap[X + 1 + 1]? = some (.cells #[.pointer (some ⟨X + 1, 0, none⟩)] 95) := by rw [← hV4]; simpa using set7 r3 0 (.pointer (some ⟨X + 1, 0, none⟩))
  have kB4 : V4.heap[X + 1]? = _ := hV4 ▸ (set_other (by omega)).trans kB
  have B4 : Below X w V4 := hV4 ▸ below_set (b1.trans ((b2.mono (by omega)).trans (b3.mono (by omega)))) (by omega)
  have j0 : V4.cell? ⟨X + 1 + 1, 0, none⟩ = some (.pointer (some ⟨X + 1, 0, none⟩)) := by simp [World.cell?, r4]
  have f1 : V4.cell? ⟨X + 1, 1, none⟩ = some .nilFunc := cells_at kB4 rfl
  have f2 : V4.cell? ⟨X + 1, 2, none⟩ = some .nilFunc := cells_at kB4 rfl
  have y1 := cells_fr kB4 (o := 1) (by simp [keepC])
  have y2 := cells_fr kB4 (o := 2) (by simp [keepC])
  obtain ⟨V5, hV5⟩ : ∃ V, (V4.setCell ⟨X + 1, 1, none⟩ (.func (.func 71) #[.pointer (some ⟨X + 1, 0, none⟩)] #[])).setCell ⟨X + 1, 2, none⟩ (.func (.func 72) #[] #[.pointer (some ⟨X + 1 + 1, 0, none⟩)]) = V := ⟨_, rfl⟩
  have kB5 : V5.heap[X + 1]? = some (.cells (keepC l (.func (.func 71) #[.pointer (some ⟨X + 1, 0, none⟩)] #[]) (.func (.func 72) #[] #[.pointer (some ⟨X + 1 + 1, 0, none⟩)]) tm) 162 (0, 0)) := by rw [← hV5]; simpa [keepC] using set7 (set7 kB4 1 (.func (.func 71) #[.pointer (some ⟨X + 1, 0, none⟩)] #[])) 2 (.func (.func 72) #[] #[.pointer (some ⟨X + 1 + 1, 0, none⟩)])
  have B5 : Below X w V5 := hV5 ▸ below_set (below_set B4 (by omega)) (by omega)
  have r5 : V5.heap[X + 1 + 1]? = some (.cells #[.pointer (some ⟨X + 1, 0, none⟩)] 95) := hV5 ▸ (set_other (by omega)).trans ((set_other (by omega)).trans r4)
  have j5 : V5.cell? ⟨X + 1 + 1, 0, none⟩ = some (.pointer (some ⟨X + 1, 0, none⟩)) := by simp [World.cell?, r5]
  have cS := kstart_any (w := V5) hl kB5 rfl ⟨rfl, rfl, rfl, rfl, rfl, rfl, rfl⟩ rfl htb rfl
  have H := Lib.hid (And.intro B5 (And.intro cS r5))
  have hst : ∀ (a : Addr) (g : FuncId) (u v : Array Value) (m : Mode) (w : World), (store a (.func (.func g) u v) m).run Tryz.prog w = stored Tryz.prog w a (.func (.func g) u v) m := fun _ _ _ _ _ _ => rfl
  unfold keepC at hV2
  clear b1 b2 b3 r1 r2 r3 r4 kB kB4 kB5 B4 B5 cS r5
  rcases htm with ⟨hlk, rfl⟩ | ⟨hlk, rfl⟩
  all_goals (
    go_enter Tryz.func35, Tryz.ntmps35
    go_wp2_with (go_at_call 74; refine H.out.2.1.mono ?_; rintro e w6 ⟨rfl, hT⟩; have r6 := (hT.block (X + 1 + 1) (Array.getElem?_eq_some_iff.1 H.out.2.2).1 (by omega) (by omega)).trans H.out.2.2; have j6 : w6.cell? ⟨X + 1 + 1, 0, none⟩ = some (.pointer (some ⟨X + 1, 0, none⟩)) := (by simp [World.cell?, r6]); have H6 := Lib.hid hT; clear hT r6)
    go_ret
    refine ⟨X + 1, rfl, ?_, by omega⟩
    rw [hX]
    exact H.out.1.trans ((H6.out.toK.mono (K' := fun k => X ≤ k) (fun k _ hk => by omega)).toBelow (fun k hk => hk) (by have := (Array.getElem?_eq_some_iff.1 H.out.2.2).1; omega)))
end Go.Proofs.YtpbhfckefmboaaaGreatDoor.Ba
namespace Go.Proofs.YtpbhfckefmboaaaGreatDoor.Ba
open Go Go.RowKit Go.Lib Go.Base
/-- a poll's cells -/
def pollC (l : Lg) (sub most e : Int) : Array Value := #[.int .i64 0, .int .i64 0, .int .i64 0, .int .u64 0, .int .u64 0, .slice none 0 0, .nilFunc, .int .i64 l.base, .int .i64 l.term, .int .i64 l.mtu, .int .i64 l.subs, .int .i32 l.ini, .int .i32 l.ses, .int .i32 l.str, .int .i64 sub, .int .i64 most, .int .i64 0, .int .i64 0, .int .i64 0, .int .i64 0, .slice none 0 0, .bool false, .int .i64 e]
theorem poS {W : World} {X Y : Nat} {l : Lg} {t tl : TypeId} {v : Value} (hX : W.heap[X]? = some (.cells #[.int .i64 l.base, .int .i64 l.term, .int .i64 l.mtu, .int .i64 l.subs, .int .i32 l.ini, .int .i32 l.ses, .int .i32 l.str] tl)) (hY : W.heap[Y]? = some (.cells #[v] t)) : W.cell? ⟨Y, 0, none⟩ = some v ∧ W.cell? ⟨X, 0, none⟩ = some (.int .i64 l.base) ∧ W.cell? ⟨X, 1, none⟩ = some (.int .i64 l.term) ∧ W.cell? ⟨X, 2, none⟩ = some (.int .i64 l.mtu) ∧ W.cell? ⟨X, 3, none⟩ = some (.int .i64 l.subs) ∧ W.cell? ⟨X, 4, none⟩ = some (.int .i32 l.ini) ∧ W.cell? ⟨X, 5, none⟩ = some (.int .i32 l.ses) ∧ W.cell? ⟨X, 6, none⟩ = some (.int .i32 l.str) := by
  obtain ⟨m0, m1, m2, m3, m4, m5, m6⟩ := blk7 hX
  exact ⟨by simp [World.cell?, hY], m0, m1, m2, m3, m4, m5, m6⟩
set_option maxHeartbeats 3200000 in
set_option maxRecDepth 100000 in
theorem poll_any {w : World} {l : Lg} (hl : l.ok) {sub most : Int} (hs : 0 ≤ sub ∧ sub < l.subs) :
    Calls Tryz.prog 96 #[l.val, .int .i64 sub, .int .i64 most] w fun e w' => ∃ B, e = .returned (.pointer (some ⟨B, 0, none⟩)) ∧ Below w.heap.size w w' ∧ w.heap.size ≤ B ∧ ((1 ≤ most ∧ ∃ C', w'.heap[B]? = some (.cells C' 231 (0, 0)) ∧ WantC C') ∨ (most < 1 ∧ w'.heap[B]? = some (.cells (pollC l sub most 1) 231 (0, 0)))) := by
  have hb := hl.bounds
  have cC := fun W => check_ok l hl W
  have cS := fun W => subAt_any l hl sub hs.1 hs.2 W
  unfold Lg.val at cC cS ⊢
  obtain ⟨X, hX⟩ : ∃ X, w.heap.size = X := ⟨_, rfl⟩
  obtain ⟨V1, hV1⟩ : ∃ V, w.alloc (.cells #[.int .i64 l.base, .int .i64 l.term, .int .i64 l.mtu, .int .i64 l.subs, .int .i32 l.ini, .int .i32 l.ses, .int .i32 l.str] 23) = V := ⟨_, rfl⟩
  obtain ⟨V2, hV2⟩ : ∃ V, V1.alloc (.cells (pollC l sub most 10) 231) = V := ⟨_, rfl⟩
  obtain ⟨V3, hV3⟩ : ∃ V, V2.alloc (.cells #[.pointer none] 146) = V := ⟨_, rfl⟩
  obtain ⟨b1, r1, s1⟩ := at_new hV1
  obtain ⟨b2, r2, s2⟩ := at_new hV2
  obtain ⟨b3, r3, s3⟩ := at_new hV3
  rw [hX] at r1 s1 b1
  rw [s1] at r2 s2 b2
  rw [s2] at r3 s3 b3
  obtain ⟨m0, m1, m2, m3, m4, m5, m6⟩ := blk7 r1
  have kX := (b3.block X (by omega)).trans ((b2.block X (by omega)).trans r1)
  have kB := (b3.block (X + 1) (by omega)).trans r2
  have i0 : V3.cell? ⟨X + 1 + 1, 0, none⟩ = some (.pointer none) := by simp [World.cell?, r3]
  have iz : V3.frozen? ⟨X + 1 + 1, 0, none⟩ = false := by simp [World.frozen?, r3]
  obtain ⟨V4, hV4⟩ : ∃ V, V3.setCell ⟨X + 1 + 1, 0, none⟩ (.pointer (some ⟨X + 1, 0, none⟩)) = V := ⟨_, rfl⟩
  have r4 : V4.heap[X + 1 + 1]? = some (.cells #[.pointer (some ⟨X + 1, 0, none⟩)] 146) := by rw [← hV4]; simpa using set7 r3 0 (.pointer (some ⟨X + 1, 0, none⟩))
  have kB4 : V4.heap[X + 1]? = _ := hV4 ▸ (set_other (by omega)).trans kB
  have kX4 : V4.heap[X]? = _ := hV4 ▸ (set_other (by omega)).trans kX
  have B4 : Below X w V4 := hV4 ▸ below_set (b1.trans ((b2.mono (by omega)).trans (b3.mono (by omega)))) (by omega)
  obtain ⟨n0, n1, n2, n3, n4, n5, n6⟩ := blk7 kX4
  have q0 : ¬ sub < 0 := by omega
  have q1 : ¬ sub ≥ l.subs := by omega
  have H := Lib.hid (And.intro cC (And.intro cS (And.intro B4 (And.intro kB4 (And.intro kX4 r4)))))
  have s4 : X + 1 + 1 < V4.heap.size := (Array.getElem?_eq_some_iff.1 r4).1
  unfold pollC at hV2
  clear b1 b2 b3 r1 r2 r3 r4 kB kB4 kX kX4 B4 cC cS
  by_cases hm : most < 1
  · go_enter Tryz.func96, Tryz.ntmps96
    go_wp2_with (go_at_call 49
                 refine (H.out.1 _).mono ?_
                 rintro e w5 ⟨rfl, hB5⟩
                 have r5 := (hB5.block (X + 1 + 1) s4).trans H.out.2.2.2.2.2
                 have j5 : w5.cell? ⟨X + 1 + 1, 0, none⟩ = some (.pointer (some ⟨X + 1, 0, none⟩)) := (by simp [World.cell?, r5])
                 have kB5 := (hB5.block (X + 1) (by omega)).trans H.out.2.2.2.1
                 obtain ⟨n50, n51, n52, n53, n54, n55, n56⟩ := blk7 ((hB5.block X (by omega)).trans H.out.2.2.2.2.1)
                 have k22 := cells_at kB5 (o := 22) (v := .int .i64 10) rfl
                 have z22 := cells_fr kB5 (o := 22) (by simp [pollC])
                 have nx : ¬ X + 1 = X + 1 + 1 := by omega
                 have nx2 : ¬ X + 1 + 1 = X + 1 := by omega
                 have H5 := Lib.hid (And.intro hB5 kB5)
                 clear hB5 r5 kB5)
    go_ret
    refine ⟨X + 1, rfl, ?_, by omega, .inr ⟨hm, ?_⟩⟩
    · rw [hX]
      exact below_set (H.out.2.2.1.trans (H5.out.1.mono (by omega))) (by omega)
    · simpa [pollC] using set7 H5.out.2 22 (.int .i64 1)
  · go_enter Tryz.func96, Tryz.ntmps96
    go_wp2_with (go_at_call 49
                 refine (H.out.1 _).mono ?_
                 rintro e w5 ⟨rfl, hB5⟩
                 have r5 := (hB5.block (X + 1 + 1) s4).trans H.out.2.2.2.2.2
                 have kB5 := (hB5.block (X + 1) (by omega)).trans H.out.2.2.2.1
                 have kX5 := (hB5.block X (by omega)).trans H.out.2.2.2.2.1
                 obtain ⟨n50, n51, n52, n53, n54, n55, n56⟩ := blk7 kX5
                 have HS5 := poS kX5 r5
                 have H5 := Lib.hid (And.intro hB5 (And.intro kB5 (And.intro kX5 r5)))
                 clear hB5 r5 kB5 kX5)
    have s5 : X + 1 + 1 < w5.heap.size := (Array.getElem?_eq_some_iff.1 H5.out.2.2.2).1
    go_region_held3 (fun W => W.cell? ⟨X + 1 + 1, 0, none⟩ = some (.pointer (some ⟨X + 1, 0, none⟩)) ∧ W.cell? ⟨X, 0, none⟩ = some (.int .i64 l.base) ∧ W.cell? ⟨X, 1, none⟩ = some (.int .i64 l.term) ∧ W.cell? ⟨X, 2, none⟩ = some (.int .i64 l.mtu) ∧ W.cell? ⟨X, 3, none⟩ = some (.int .i64 l.subs) ∧ W.cell? ⟨X, 4, none⟩ = some (.int .i32 l.ini) ∧ W.cell? ⟨X, 5, none⟩ = some (.int .i32 l.ses) ∧ W.cell? ⟨X, 6, none⟩ = some (.int .i32 l.str))
      (first | exact HS7.out | exact HS6.out | exact HS5)
      (first
      | (go_at_call 59
         refine (H.out.2.1 _).mono ?_
         rintro e w6 ⟨rfl, hB6⟩
         have b6 : Below w5.heap.size w5 w6 := (Below.refl w5.heap.size w5).drew.trans hB6
         have H6 := Lib.hid (And.intro b6 (And.intro ((b6.block (X + 1) (by omega)).trans H5.out.2.1) (And.intro ((b6.block X (by omega)).trans H5.out.2.2.1) ((b6.block (X + 1 + 1) s5).trans H5.out.2.2.2))))
         have HS6 := Lib.hid (poS H6.out.2.2.1 H6.out.2.2.2)
         clear b6 hB6)
      | (go_at_call 117
         refine (cont_load H6.out.2.1 (by simp [pollC])).mono ?_
         rintro e w7 ⟨rfl, hT, C', h1, h2, h3, h4⟩
         have t6 := H6.out.1.size
         have k7 := (hT.block (X + 1 + 1) (by omega) (by omega) (by omega)).trans H6.out.2.2.2
         have H7 := Lib.hid (And.intro hT (And.intro h1 (And.intro h4 k7)))
         have HS7 := Lib.hid (poS ((hT.block X (by omega) (by omega) (by omega)).trans H6.out.2.2.1) k7)
         clear hT h1 h2 h3 h4 k7))
    all_goals have j7 := HS7.out.1
    all_goals go_wp2
    all_goals go_ret
    all_goals refine ⟨X + 1, rfl, ?_, by omega, .inl ⟨by omega, _, H7.out.2.1, H7.out.2.2.1⟩⟩
    all_goals rw [hX]
    all_goals exact ((H.out.2.2.1.trans (H5.out.1.mono (by omega))).trans (H6.out.1.mono (by omega))).trans ((H7.out.1.toK.mono (K' := fun k => X ≤ k) (fun k _ hk => by omega)).toBelow (fun k hk => hk) (by have := H6.out.1.size; omega))
end Go.Proofs.YtpbhfckefmboaaaGreatDoor.Ba
namespace Go.Proofs.YtpbhfckefmboaaaGreatDoor.Ba
open Go Go.RowKit Go.Lib Go.Base
set_option maxHeartbeats 3200000 in
set_option maxRecDepth 100000 in
theorem cnext_no {w : World} {I : Nat} {C : Array Value} {t : TypeId} (h : w.heap[I]? = some (.cells C t (0, 0))) (e0 : C[0]? = some (.int .i64 0)) (e1 : C[1]? = some (.int .i64 0)) (e2 : C[2]? = some (.int .i64 0)) (e3 : C[3]? = some (.int .u64 0)) (e4 : C[4]? = some (.int .u64 0)) (e5 : C[5]? = some (.slice none 0 0)) (e6 : C[6]? = some .nilFunc) :
    Calls Tryz.prog 228 #[.pointer (some ⟨I, 0, none⟩)] w fun e w' => e = .returned (.tuple #[accM 0 0 0 0 0 none 0 0, .bool false]) ∧ Below w.heap.size w w' := by
  obtain ⟨X, hX⟩ : ∃ X, w.heap.size = X := ⟨_, rfl⟩
  obtain ⟨V, hV⟩ : ∃ V, w.alloc (.cells #[.int .i64 0, .int .i64 0, .int .i64 0, .int .u64 0, .int .u64 0, .slice none 0 0] 40) = V := ⟨_, rfl⟩
  have bV : Below w.heap.size w V := by rw [← hV]; exact (Below.refl _ _).alloc (Nat.le_refl _) _
  have rV : V.heap[X]? = some (.cells #[.int .i64 0, .int .i64 0, .int .i64 0, .int .u64 0, .int .u64 0, .slice none 0 0] 40) := by rw [← hV, ← hX]; exact heap_new _ _
  obtain ⟨d0, d1, d2, d3, d4, d5⟩ := blk6 rV
  have hv := (bV.block I (Array.getElem?_eq_some_iff.1 h).1).trans h
  have c0' := cells_at hv e0
  have c1' := cells_at hv e1
  have c2' := cells_at hv e2
  have c3' := cells_at hv e3
  have c4' := cells_at hv e4
  have c5' := cells_at hv e5
  have c6' := cells_at hv e6
  have y0 := froz6 rV 0
  have y1 := froz6 rV 1
  have y2 := froz6 rV 2
  have y3 := froz6 rV 3
  have y4 := froz6 rV 4
  have y5 := froz6 rV 5
  obtain ⟨q1, q2⟩ := zero6_new hX bV rV
  obtain ⟨k0, k1, k2, k3, k4, k5⟩ := blk6 q2
  have HQ := Lib.hid q1
  have HK := Lib.hid (And.intro k0 (And.intro k1 (And.intro k2 (And.intro k3 (And.intro k4 k5)))))
  unfold accM
  clear e0 e1 e2 e3 e4 e5 e6 h hv bV rV q1 q2 k0 k1 k2 k3 k4 k5
  go_enter Tryz.func228, Tryz.ntmps228
  go_wp2_with (fail)
  simp only [nil_nil, Result.andThen]
  go_wp2
  obtain ⟨k0, k1, k2, k3, k4, k5⟩ := HK.out
  unfold zero6 at k0 k1 k2 k3 k4 k5
  refine bodyPost_ret (by simp [results, Tryz.results228, go_sem, k0, k1, k2, k3, k4, k5]) rfl ⟨rfl, ?_⟩
  have hq := HQ.out
  unfold zero6 at hq
  rw [← hX]
  rw [← hX] at hq
  exact hq
set_option maxHeartbeats 3200000 in
set_option maxRecDepth 100000 in
theorem pnext_no {w : World} {I : Nat} {l : Lg} {sub most e : Int} (h : w.heap[I]? = some (.cells (pollC l sub most e) 231 (0, 0))) :
    Calls Tryz.prog 283 #[.pointer (some ⟨I, 0, none⟩)] w fun e w' => e = .returned (.tuple #[accM 0 0 0 0 0 none 0 0, .bool false]) ∧ Below w.heap.size w w' := by
  obtain ⟨X, hX⟩ : ∃ X, w.heap.size = X := ⟨_, rfl⟩
  obtain ⟨V, hV⟩ : ∃ V, w.alloc (.cells #[.int .i64 0, .int .i64 0, .int .i64 0, .int .u64 0, .int .u64 0, .slice none 0 0] 40) = V := ⟨_, rfl⟩
  have bV : Below w.heap.size w V := by rw [← hV]; exact (Below.refl _ _).alloc (Nat.le_refl _) _
  have rV : V.heap[X]? = some (.cells #[.int .i64 0, .int .i64 0, .int .i64 0, .int .u64 0, .int .u64 0, .slice none 0 0] 40) := by rw [← hV, ← hX]; exact heap_new _ _
  have CN := Lib.hid (cnext_no ((bV.block I (Array.getElem?_eq_some_iff.1 h).1).trans h) rfl rfl rfl rfl rfl rfl rfl)
  have HV := Lib.hid (And.intro bV rV)
  unfold accM at CN ⊢
  clear h bV rV
  go_enter Tryz.func283, Tryz.ntmps283
  go_wp2_with (fail)
  refine CN.out.mono ?_
  rintro e w1 ⟨rfl, hB⟩
  have rV := (hB.block X (Array.getElem?_eq_some_iff.1 HV.out.2).1).trans HV.out.2
  have b1 : Below w.heap.size w w1 := HV.out.1.trans (hB.mono HV.out.1.size)
  obtain ⟨d0, d1, d2, d3, d4, d5⟩ := blk6 rV
  have y0 := froz6 rV 0
  have y1 := froz6 rV 1
  have y2 := froz6 rV 2
  have y3 := froz6 rV 3
  have y4 := froz6 rV 4
  have y5 := froz6 rV 5
  obtain ⟨q1, q2⟩ := zero6_new hX b1 rV
  obtain ⟨k0, k1, k2, k3, k4, k5⟩ := blk6 q2
  have HQ := Lib.hid q1
  have HK := Lib.hid (And.intro k0 (And.intro k1 (And.intro k2 (And.intro k3 (And.intro k4 k5)))))
  clear hB rV b1 q1 q2 k0 k1 k2 k3 k4 k5
  go_wp2
  obtain ⟨k0, k1, k2, k3, k4, k5⟩ := HK.out
  unfold zero6 at k0 k1 k2 k3 k4 k5
  refine bodyPost_ret (by simp [results, Tryz.results283, go_sem, k0, k1, k2, k3, k4, k5]) rfl ⟨rfl, ?_⟩
  have hq := HQ.out
  unfold zero6 at hq
  rw [← hX]
  rw [← hX] at hq
  exact hq
set_option maxHeartbeats 3200000 in
set_option maxRecDepth 100000 in
theorem pnext_any {w : World} {I : Nat} {C : Array Value} (h : w.heap[I]? = some (.cells C 231 (0, 0))) (hW : WantC C) :
    Calls Tryz.prog 283 #[.pointer (some ⟨I, 0, none⟩)] w fun e w' => (∃ k p n v u : Int, ∃ (ba : Option Addr) (bn bc : Nat), e = .returned (.tuple #[accM k p n v u ba bn bc, .bool true])) ∧ Below w.heap.size w w' := by
  obtain ⟨X, hX⟩ : ∃ X, w.heap.size = X := ⟨_, rfl⟩
  obtain ⟨V, hV⟩ : ∃ V, w.alloc (.cells #[.int .i64 0, .int .i64 0, .int .i64 0, .int .u64 0, .int .u64 0, .slice none 0 0] 40) = V := ⟨_, rfl⟩
  obtain ⟨bV, rV, sV⟩ := at_new hV
  rw [hX] at rV
  have CN := Lib.hid (cnext_g ((bV.block I (Array.getElem?_eq_some_iff.1 h).1).trans h) hW)
  have HV := Lib.hid (And.intro bV rV)
  clear h bV rV hW
  go_enter Tryz.func283, Tryz.ntmps283
  go_wp2_with (fail)
  refine CN.out.mono ?_
  rintro e w1 ⟨⟨k, p, n, v, u, ba, bn, bc, rfl⟩, hB⟩
  unfold accM
  have rV := (hB.block X (Array.getElem?_eq_some_iff.1 HV.out.2).1).trans HV.out.2
  have b1 : Below w.heap.size w w1 := HV.out.1.trans (hB.mono HV.out.1.size)
  obtain ⟨d0, d1, d2, d3, d4, d5⟩ := blk6 rV
  have y0 := froz6 rV 0
  have y1 := froz6 rV 1
  have y2 := froz6 rV 2
  have y3 := froz6 rV 3
  have y4 := froz6 rV 4
  have y5 := froz6 rV 5
  obtain ⟨q1, q2⟩ := putA_new (k := k) (p := p) (n := n) (v := v) (u := u) (s := .slice ba bn bc) hX b1 rV
  obtain ⟨k0, k1, k2, k3, k4, k5⟩ := blk6 q2
  have HQ := Lib.hid q1
  have HK := Lib.hid (And.intro k0 (And.intro k1 (And.intro k2 (And.intro k3 (And.intro k4 k5)))))
  clear hB rV b1 q1 q2 k0 k1 k2 k3 k4 k5
  go_wp2
  obtain ⟨k0, k1, k2, k3, k4, k5⟩ := HK.out
  unfold putA at k0 k1 k2 k3 k4 k5
  refine bodyPost_ret (v := .tuple #[accM k p n v u ba bn bc, .bool true]) (by simp [results, Tryz.results283, go_sem, k0, k1, k2, k3, k4, k5, accM]) rfl ⟨⟨k, p, n, v, u, ba, bn, bc, rfl⟩, ?_⟩
  have hq := HQ.out
  unfold putA at hq
  rw [← hX]
  rw [← hX] at hq
  exact hq
set_option maxRecDepth 100000 in
theorem fr_nil (n c : Nat) (w : World) : Calls Tryz.prog 123 #[.slice none n c] w fun e w' => e = .returned (.slice none 0 0) ∧ Below w.heap.size w w' := by
  go_enter Tryz.func123, Tryz.ntmps123
  have he : Sem.run Tryz.prog (Go.binOp BinOp.eql 195 (Value.slice none n c) (Value.slice none 0 0)) w = .ok (.bool true) w := by first | rfl | kernel_rfl | simp [Go.binOp, go_sem]
  go_wp2_with (rw [he]; go_wp2)
  go_ret
  exact ⟨rfl, Below.refl _ _⟩
set_option maxHeartbeats 3200000 in
set_option maxRecDepth 100000 in
theorem pres_no {w : World} {I : Nat} {l : Lg} {sub most : Int} (h : w.heap[I]? = some (.cells (pollC l sub most 1) 231 (0, 0))) :
    Calls Tryz.prog 97 #[.pointer (some ⟨I, 0, none⟩)] w fun e w' => e = .returned (.tuple #[.int .i64 0, .int .i64 1]) ∧ Below w.heap.size w w' := by
  have c22 := cells_at h (o := 22) (v := .int .i64 1) rfl
  clear h
  go_enter Tryz.func97, Tryz.ntmps97
  go_wp2
  go_quiet (fail)
  go_wp2
  exact bodyPost_ret (v := .tuple #[.int .i64 0, .int .i64 1]) (by simp [results, Tryz.results97, go_sem]) rfl ⟨rfl, below_drewN (Below.refl _ _) _⟩
set_option maxHeartbeats 3200000 in
set_option maxRecDepth 100000 in
theorem pfrag_no {w : World} {I : Nat} {l : Lg} {sub most e : Int} (h : w.heap[I]? = some (.cells (pollC l sub most e) 231 (0, 0))) :
    Calls Tryz.prog 98 #[.pointer (some ⟨I, 0, none⟩)] w fun e w' => e = .returned (.slice none 0 0) ∧ Below w.heap.size w w' := by
  have c20 := cells_at h (o := 20) (v := .slice none 0 0) rfl
  clear h
  go_enter Tryz.func98, Tryz.ntmps98
  go_wp2_with (go_at_call 123; refine (fr_nil 0 0 _).mono ?_; rintro e w1 ⟨rfl, hB⟩; have H1 := Lib.hid hB; clear hB)
  refine wp_loop_rounds 1 ?_
  iterate 2 (try rw [rounds_succ]; go_wp2)
  go_ret
  exact ⟨rfl, H1.out⟩
end Go.Proofs.YtpbhfckefmboaaaGreatDoor.Ba
