/- A claim is made, or refused: by hand. -/
import Derived.Test.YtpbhfckefmboaaaGreatDoorGp18
import Derived.Deep.RegionWith
set_option linter.unusedVariables false
set_option linter.unusedSimpArgs false
set_option linter.unusedSectionVars false
namespace Go.Proofs.YtpbhfckefmboaaaGreatDoor.Sy
open Go Go.RowKit Go.Lib Go.AS Go.Base Go.Pr Go.Proofs.YtpbhfckefmboaaaGreatDoor.Ba
set_option maxHeartbeats 3200000 in
set_option maxRecDepth 100000 in
theorem claim_no {W : World} {l : Lg} (hl : l.ok) {com : Bool} {ba : Option Addr} {bc : Nat} {B : List Nat} (hn : (B.length : Int) > l.mtu) (hB : ∀ x ∈ B, x < 256) (hbn : B.length ≤ 1000) (hr : ∀ w', Below W.heap.size W w' → RowAt w' ba B) :
    Calls Tryz.prog 94 #[l.val, .slice ba B.length bc, .bool com] W fun e w' => ∃ I b', e = .returned (.pointer (some ⟨I, 0, none⟩)) ∧ Below W.heap.size W w' ∧ W.heap.size ≤ I ∧ w'.heap[I]? = some (.cells (clmC l b' com 4) 226 (0, 0)) := by
  have cC := fun W hr => cloneS ba bc B hbn hB W hr
  have cK := fun W => check_ok l hl W
  unfold Lg.val at cK ⊢
  obtain ⟨bn, hbnn⟩ : ∃ bn, B.length = bn := ⟨_, rfl⟩
  rw [hbnn] at cC hn ⊢
  obtain ⟨X, hX⟩ : ∃ X, W.heap.size = X := ⟨_, rfl⟩
  obtain ⟨V1, hV1⟩ : ∃ V, W.alloc (.cells #[.int .i64 l.base, .int .i64 l.term, .int .i64 l.mtu, .int .i64 l.subs, .int .i32 l.ini, .int .i32 l.ses, .int .i32 l.str] 23) = V := ⟨_, rfl⟩
  obtain ⟨Vb, hVb⟩ : ∃ V, V1.alloc (.cells #[.pointer none] 186) = V := ⟨_, rfl⟩
  obtain ⟨b1, r1, s1⟩ := at_new hV1
  obtain ⟨bb, rb, sb⟩ := at_new hVb
  rw [hX] at r1 s1 b1
  rw [s1] at rb sb bb
  obtain ⟨m0, m1, m2, m3, m4, m5, m6⟩ := blk7 r1
  obtain ⟨u0, u1, u2, u3, u4, u5, u6⟩ := blk7 ((bb.block X (by omega)).trans r1)
  have H := Lib.hid (And.intro b1 (And.intro r1 hr))
  have HB := Lib.hid (And.intro bb rb)
  clear b1 r1 hr bb rb
  go_enter Tryz.func94, Tryz.ntmps94
  go_wp2_with fail
  rename_i Q' K hK
  have key : ∀ (W7 : World) (I P : Nat) (pa : Option Addr) (pn pc : Nat), Hid (Below X W W7 ∧ W7.heap[I]? = some (.cells (clmC l (.slice pa pn pc) com 10) 226 (0, 0)) ∧ W7.heap[P]? = some (.cells #[.pointer (some ⟨I, 0, none⟩)] 186) ∧ W7.heap[X]? = some (.cells #[.int .i64 l.base, .int .i64 l.term, .int .i64 l.mtu, .int .i64 l.subs, .int .i32 l.ini, .int .i32 l.ses, .int .i32 l.str] 23) ∧ X < I ∧ X < P ∧ I ≠ P) → K { tmps := #[.agg #[.int .i64 l.base, .int .i64 l.term, .int .i64 l.mtu, .int .i64 l.subs, .int .i32 l.ini, .int .i32 l.ses, .int .i32 l.str], .slice ba bn bc, .bool com, .pointer (some ⟨X, 0, none⟩), undef, undef, .pointer none, .pointer (some ⟨P, 0, none⟩), undef, undef, .agg #[.int .i64 l.base, .int .i64 l.term, .int .i64 l.mtu, .int .i64 l.subs, .int .i32 l.ini, .int .i32 l.ses, .int .i32 l.str], .slice ba bn bc, .slice pa pn pc, .bool com, .agg #[.int .i64 0, .int .i64 0, .int .i64 0, .int .u64 0, .int .u64 0, .slice none 0 0, .nilFunc, .int .i64 l.base, .int .i64 l.term, .int .i64 l.mtu, .int .i64 l.subs, .int .i32 l.ini, .int .i32 l.ses, .int .i32 l.str, .slice pa pn pc, .bool com, .pointer none, .int .i64 0, .int .i32 0, .int .i64 0, .int .i64 0, .bool false, .int .i64 0, .int .i64 10], .pointer (some ⟨I, 0, none⟩), undef, undef, undef, undef, undef, undef, undef, undef, undef, undef, undef, undef, undef, undef, undef, undef, undef, undef, undef, undef, undef, undef, undef, undef, undef, undef, undef, undef, undef, undef, undef, undef], defers := [] } W7 := by
    clear m0 m1 m2 m3 m4 m5 m6 u0 u1 u2 u3 u4 u5 u6 hV1 hVb HB H cC s1 sb
    intro W7 I P pa pn pc HQ
    have kI := HQ.out.2.1
    have kP := HQ.out.2.2.1
    obtain ⟨n0, n1, n2, n3, n4, n5, n6⟩ := blk7 HQ.out.2.2.2.1
    have hP0 : W7.cell? ⟨P, 0, none⟩ = some (.pointer (some ⟨I, 0, none⟩)) := by simp [World.cell?, kP]
    have sI := (Array.getElem?_eq_some_iff.1 kI).1
    have sP := (Array.getElem?_eq_some_iff.1 kP).1
    have nXI := HQ.out.2.2.2.2.1
    have nXP := HQ.out.2.2.2.2.2.1
    have nx : ¬ I = P := HQ.out.2.2.2.2.2.2
    have nx2 : ¬ P = I := fun e => nx e.symm
    clear kI kP
    refine hK _ _ ?_
    clear hK
    go_wp2_with (go_at_call 49
                 refine (cK _).mono ?_
                 rintro e w6 ⟨rfl, hB6⟩
                 have k6 := (hB6.block I sI).trans HQ.out.2.1
                 have r6 := (hB6.block P sP).trans HQ.out.2.2.1
                 have l6 := (hB6.block X (by omega)).trans HQ.out.2.2.2.1
                 obtain ⟨q0, q1, q2, q3, q4, q5, q6⟩ := blk7 l6
                 have j6 : w6.cell? ⟨P, 0, none⟩ = some (.pointer (some ⟨I, 0, none⟩)) := (by simp [World.cell?, r6])
                 have k23 := cells_at k6 (o := 23) (v := .int .i64 10) rfl
                 have z23 := cells_fr k6 (o := 23) (by simp [clmC])
                 have H6 := Lib.hid (And.intro hB6 k6)
                 clear hB6 k6 r6 l6)
    go_ret
    have h7 := set7 H6.out.2 23 (.int .i64 4)
    have hbl : Below X W (w6.setCell ⟨I, 23, none⟩ (.int .i64 4)) := below_set (HQ.out.1.trans (H6.out.1.mono (by omega))) (by omega)
    exact ⟨I, .slice pa pn pc, rfl, by rw [hX]; exact hbl, by rw [hX]; omega, by simpa [clmC] using h7⟩
  go_region_with (go_at_call 62
                  first
                  | (refine (cC V1.drew (H.out.2.2 _ (hX ▸ H.out.1.drew))).mono ?_
                     rintro e w2 ⟨pa, pn, pc, rfl, hB2⟩
                     have b2 : Below V1.heap.size V1 w2 := (Below.refl V1.heap.size V1).drew.trans hB2
                     have t2 := b2.size
                     have l2 := (b2.block X (by omega)).trans H.out.2.1
                     obtain ⟨v0, v1, v2, v3, v4, v5, v6⟩ := blk7 l2
                     obtain ⟨I, hI⟩ : ∃ I, w2.heap.size = I := ⟨_, rfl⟩
                     obtain ⟨V3, hV3⟩ : ∃ V, w2.alloc (.cells (clmC l (.slice pa pn pc) com 10) 226) = V := ⟨_, rfl⟩
                     obtain ⟨V4, hV4⟩ : ∃ V, V3.alloc (.cells #[.pointer none] 186) = V := ⟨_, rfl⟩
                     obtain ⟨U3, hU3⟩ : ∃ V, w2.alloc (.cells #[.pointer none] 186) = V := ⟨_, rfl⟩
                     obtain ⟨U4, hU4⟩ : ∃ V, U3.alloc (.cells (clmC l (.slice pa pn pc) com 10) 226) = V := ⟨_, rfl⟩
                     obtain ⟨b3, r3, s3⟩ := at_new hV3
                     obtain ⟨b4, r4, s4⟩ := at_new hV4
                     obtain ⟨c3, e3, z3⟩ := at_new hU3
                     obtain ⟨c4, e4, z4⟩ := at_new hU4
                     rw [hI] at r3 s3 b3 e3 z3 c3
                     rw [s3] at r4 s4 b4
                     rw [z3] at e4 z4 c4
                     obtain ⟨w0, w1', w2', w3', w4', w5', w6'⟩ := blk7 ((c3.block X (by omega)).trans l2)
                     obtain ⟨V5, hV5⟩ : ∃ V, V4.setCell ⟨I + 1, 0, none⟩ (.pointer (some ⟨I, 0, none⟩)) = V := ⟨_, rfl⟩
                     obtain ⟨U5, hU5⟩ : ∃ V, U4.setCell ⟨I, 0, none⟩ (.pointer (some ⟨I + 1, 0, none⟩)) = V := ⟨_, rfl⟩
                     have i0 : V4.cell? ⟨I + 1, 0, none⟩ = some (.pointer none) := (by simp [World.cell?, r4])
                     have iz : V4.frozen? ⟨I + 1, 0, none⟩ = false := (by simp [World.frozen?, r4])
                     have e3' := (c4.block I (by omega)).trans e3
                     have j0 : U4.cell? ⟨I, 0, none⟩ = some (.pointer none) := (by simp [World.cell?, e3'])
                     have jz : U4.frozen? ⟨I, 0, none⟩ = false := (by simp [World.frozen?, e3'])
                     have r5 : V5.heap[I + 1]? = some (.cells #[.pointer (some ⟨I, 0, none⟩)] 186) := (by rw [← hV5]; simpa using set7 r4 0 (.pointer (some ⟨I, 0, none⟩)))
                     have e5 : U5.heap[I]? = some (.cells #[.pointer (some ⟨I + 1, 0, none⟩)] 186) := (by rw [← hU5]; simpa using set7 e3' 0 (.pointer (some ⟨I + 1, 0, none⟩)))
                     have kL : V5.heap[X]? = _ := hV5 ▸ (set_other (by omega)).trans ((b4.block X (by omega)).trans ((b3.block X (by omega)).trans l2))
                     have kC : V5.heap[I]? = _ := hV5 ▸ (set_other (by omega)).trans ((b4.block I (by omega)).trans r3)
                     have gL : U5.heap[X]? = _ := hU5 ▸ (set_other (by omega)).trans ((c4.block X (by omega)).trans ((c3.block X (by omega)).trans l2))
                     have gC : U5.heap[I + 1]? = _ := hU5 ▸ (set_other (by omega)).trans e4
                     have B5 : Below X W V5 := hV5 ▸ below_set (H.out.1.trans ((b2.mono (by omega)).trans ((b3.mono (by omega)).trans (b4.mono (by omega))))) (by omega)
                     have D5 : Below X W U5 := hU5 ▸ below_set (H.out.1.trans ((b2.mono (by omega)).trans ((c3.mono (by omega)).trans (c4.mono (by omega))))) (by omega)
                     have HQ1 := Lib.hid (And.intro B5 (And.intro kC (And.intro r5 (And.intro kL (And.intro (show X < I by omega) (And.intro (show X < I + 1 by omega) (show I ≠ I + 1 by omega)))))))
                     have HQ2 := Lib.hid (And.intro D5 (And.intro gC (And.intro e5 (And.intro gL (And.intro (show X < I + 1 by omega) (And.intro (show X < I by omega) (show I + 1 ≠ I by omega)))))))
                     unfold clmC at hV3 hU4
                     clear l2
                     clear hB2 b2 b3 b4 r3 r4 r5 kL kC B5 t2 s4 c3 e3 c4 e4 z4 e3' e5 gL gC D5)
                  | (refine (cC Vb.drew (H.out.2.2 _ (hX ▸ (H.out.1.trans (HB.out.1.mono (by omega))).drew))).mono ?_
                     rintro e w2 ⟨pa, pn, pc, rfl, hB2⟩
                     have b2 : Below Vb.heap.size Vb w2 := (Below.refl Vb.heap.size Vb).drew.trans hB2
                     have t2 := b2.size
                     obtain ⟨v0, v1, v2, v3, v4, v5, v6⟩ := blk7 ((b2.block X (by omega)).trans ((HB.out.1.block X (by omega)).trans H.out.2.1))
                     have l2 := (b2.block X (by omega)).trans ((HB.out.1.block X (by omega)).trans H.out.2.1)
                     have x2 := (b2.block (X + 1) (by omega)).trans HB.out.2
                     obtain ⟨I, hI⟩ : ∃ I, w2.heap.size = I := ⟨_, rfl⟩
                     obtain ⟨V3, hV3⟩ : ∃ V, w2.alloc (.cells (clmC l (.slice pa pn pc) com 10) 226) = V := ⟨_, rfl⟩
                     obtain ⟨b3, r3, s3⟩ := at_new hV3
                     rw [hI] at r3 s3 b3
                     have r4 := (b3.block (X + 1) (by omega)).trans x2
                     obtain ⟨V5, hV5⟩ : ∃ V, V3.setCell ⟨X + 1, 0, none⟩ (.pointer (some ⟨I, 0, none⟩)) = V := ⟨_, rfl⟩
                     have i0 : V3.cell? ⟨X + 1, 0, none⟩ = some (.pointer none) := (by simp [World.cell?, r4])
                     have iz : V3.frozen? ⟨X + 1, 0, none⟩ = false := (by simp [World.frozen?, r4])
                     have r5 : V5.heap[X + 1]? = some (.cells #[.pointer (some ⟨I, 0, none⟩)] 186) := (by rw [← hV5]; simpa using set7 r4 0 (.pointer (some ⟨I, 0, none⟩)))
                     have kL : V5.heap[X]? = _ := hV5 ▸ (set_other (by omega)).trans ((b3.block X (by omega)).trans l2)
                     have kC : V5.heap[I]? = _ := hV5 ▸ (set_other (by omega)).trans r3
                     have B5 : Below X W V5 := hV5 ▸ below_set (H.out.1.trans ((HB.out.1.mono (by omega)).trans ((b2.mono (by omega)).trans (b3.mono (by omega))))) (by omega)
                     have HQ3 := Lib.hid (And.intro B5 (And.intro kC (And.intro r5 (And.intro kL (And.intro (show X < I by omega) (And.intro (show X < X + 1 by omega) (show I ≠ X + 1 by omega)))))))
                     unfold clmC at hV3
                     clear hB2 b2 b3 r3 r4 r5 kL kC B5 l2 t2 s3 x2))
  all_goals first | exact key _ _ _ _ _ _ HQ1 | exact key _ _ _ _ _ _ HQ2 | exact key _ _ _ _ _ _ HQ3
set_option maxHeartbeats 3200000 in
set_option maxRecDepth 100000 in
theorem claim_any {W : World} {l : Lg} (hl : l.ok) {com : Bool} {ba : Option Addr} {bc : Nat} {B : List Nat} (hn : (B.length : Int) ≤ l.mtu) (hB : ∀ x ∈ B, x < 256) (hbn : B.length ≤ 1000) (hr : ∀ w', Below W.heap.size W w' → RowAt w' ba B) :
    Calls Tryz.prog 94 #[l.val, .slice ba B.length bc, .bool com] W fun e w' => ∃ I C, e = .returned (.pointer (some ⟨I, 0, none⟩)) ∧ Below W.heap.size W w' ∧ W.heap.size ≤ I ∧ w'.heap[I]? = some (.cells C 226 (0, 0)) ∧ ClmW C := by
  have cC := fun W hr => cloneS ba bc B hbn hB W hr
  have cK := fun W => check_ok l hl W
  unfold Lg.val at cK ⊢
  obtain ⟨bn, hbnn⟩ : ∃ bn, B.length = bn := ⟨_, rfl⟩
  rw [hbnn] at cC hn ⊢
  obtain ⟨X, hX⟩ : ∃ X, W.heap.size = X := ⟨_, rfl⟩
  obtain ⟨V1, hV1⟩ : ∃ V, W.alloc (.cells #[.int .i64 l.base, .int .i64 l.term, .int .i64 l.mtu, .int .i64 l.subs, .int .i32 l.ini, .int .i32 l.ses, .int .i32 l.str] 23) = V := ⟨_, rfl⟩
  obtain ⟨Vb, hVb⟩ : ∃ V, V1.alloc (.cells #[.pointer none] 186) = V := ⟨_, rfl⟩
  obtain ⟨b1, r1, s1⟩ := at_new hV1
  obtain ⟨bb, rb, sb⟩ := at_new hVb
  rw [hX] at r1 s1 b1
  rw [s1] at rb sb bb
  obtain ⟨m0, m1, m2, m3, m4, m5, m6⟩ := blk7 r1
  obtain ⟨u0, u1, u2, u3, u4, u5, u6⟩ := blk7 ((bb.block X (by omega)).trans r1)
  have H := Lib.hid (And.intro b1 (And.intro r1 hr))
  have HB := Lib.hid (And.intro bb rb)
  clear b1 r1 hr bb rb
  have cF := fun W => fsize_all (bn : Int) W
  have hn2 : ¬ (bn : Int) > l.mtu := by omega
  go_enter Tryz.func94, Tryz.ntmps94
  go_wp2_with fail
  rename_i Q' K hK
  have key : ∀ (W7 : World) (I P : Nat) (pa : Option Addr) (pn pc : Nat), Hid (Below X W W7 ∧ W7.heap[I]? = some (.cells (clmC l (.slice pa pn pc) com 10) 226 (0, 0)) ∧ W7.heap[P]? = some (.cells #[.pointer (some ⟨I, 0, none⟩)] 186) ∧ W7.heap[X]? = some (.cells #[.int .i64 l.base, .int .i64 l.term, .int .i64 l.mtu, .int .i64 l.subs, .int .i32 l.ini, .int .i32 l.ses, .int .i32 l.str] 23) ∧ X < I ∧ X < P ∧ I ≠ P) → K { tmps := #[.agg #[.int .i64 l.base, .int .i64 l.term, .int .i64 l.mtu, .int .i64 l.subs, .int .i32 l.ini, .int .i32 l.ses, .int .i32 l.str], .slice ba bn bc, .bool com, .pointer (some ⟨X, 0, none⟩), undef, undef, .pointer none, .pointer (some ⟨P, 0, none⟩), undef, undef, .agg #[.int .i64 l.base, .int .i64 l.term, .int .i64 l.mtu, .int .i64 l.subs, .int .i32 l.ini, .int .i32 l.ses, .int .i32 l.str], .slice ba bn bc, .slice pa pn pc, .bool com, .agg #[.int .i64 0, .int .i64 0, .int .i64 0, .int .u64 0, .int .u64 0, .slice none 0 0, .nilFunc, .int .i64 l.base, .int .i64 l.term, .int .i64 l.mtu, .int .i64 l.subs, .int .i32 l.ini, .int .i32 l.ses, .int .i32 l.str, .slice pa pn pc, .bool com, .pointer none, .int .i64 0, .int .i32 0, .int .i64 0, .int .i64 0, .bool false, .int .i64 0, .int .i64 10], .pointer (some ⟨I, 0, none⟩), undef, undef, undef, undef, undef, undef, undef, undef, undef, undef, undef, undef, undef, undef, undef, undef, undef, undef, undef, undef, undef, undef, undef, undef, undef, undef, undef, undef, undef, undef, undef, undef], defers := [] } W7 := by
    clear m0 m1 m2 m3 m4 m5 m6 u0 u1 u2 u3 u4 u5 u6 hV1 hVb HB H cC s1 sb
    intro W7 I P pa pn pc HQ
    have kI := HQ.out.2.1
    have kP := HQ.out.2.2.1
    obtain ⟨n0, n1, n2, n3, n4, n5, n6⟩ := blk7 HQ.out.2.2.2.1
    have hP0 : W7.cell? ⟨P, 0, none⟩ = some (.pointer (some ⟨I, 0, none⟩)) := by simp [World.cell?, kP]
    have sI := (Array.getElem?_eq_some_iff.1 kI).1
    have sP := (Array.getElem?_eq_some_iff.1 kP).1
    have nXI := HQ.out.2.2.2.2.1
    have nXP := HQ.out.2.2.2.2.2.1
    have nx : ¬ I = P := HQ.out.2.2.2.2.2.2
    have nx2 : ¬ P = I := fun e => nx e.symm
    clear kI kP
    refine hK _ _ ?_
    clear hK
    have hst : ∀ (a : Addr) (g : FuncId) (u v : Array Value) (m : Mode) (w : World), (store a (.func (.func g) u v) m).run Tryz.prog w = stored Tryz.prog w a (.func (.func g) u v) m := fun _ _ _ _ _ _ => rfl
    go_wp2_with (first
      | (go_at_call 49
         refine (cK _).mono ?_
         rintro e w6 ⟨rfl, hB6⟩
         have k6 := (hB6.block I sI).trans HQ.out.2.1
         have r6 := (hB6.block P sP).trans HQ.out.2.2.1
         have l6 := (hB6.block X (by omega)).trans HQ.out.2.2.2.1
         obtain ⟨q0, q1, q2, q3, q4, q5, q6⟩ := blk7 l6
         obtain ⟨Y, hY⟩ : ∃ Y, w6.heap.size = Y := ⟨_, rfl⟩
         have hYI : I < Y := (by have := hB6.size; omega)
         have hYP : P < Y := (by have := hB6.size; omega)
         have H6 := Lib.hid (And.intro hB6 (And.intro k6 (And.intro r6 l6)))
         clear hB6 k6 r6 l6)
      | (go_at_call 113
         refine (cF _).mono ?_
         rintro e w7 ⟨fa, fb, rfl, hw7⟩
         subst hw7
         obtain ⟨W8, hW8⟩ : ∃ V, w7.alloc (.cells #[.int .i64 0] 3) = V := ⟨_, rfl⟩
         obtain ⟨b7, r7, s7⟩ := at_new hW8
         rw [hY] at r7 s7 b7
         have y0 : W8.cell? ⟨Y, 0, none⟩ = some (.int .i64 0) := (by simp [World.cell?, r7])
         have y1 : W8.frozen? ⟨Y, 0, none⟩ = false := (by simp [World.frozen?, r7])
         obtain ⟨W9, hW9⟩ : ∃ V, W8.setCell ⟨Y, 0, none⟩ (.int .i64 fa) = V := ⟨_, rfl⟩
         have r8 : W9.heap[Y]? = some (.cells #[.int .i64 fa] 3) := (by rw [← hW9]; simpa using set7 r7 0 (.int .i64 fa))
         have kC8 : W9.heap[I]? = _ := hW9 ▸ (set_other (by omega)).trans ((b7.block I (by omega)).trans H6.out.2.1)
         have kO8 : W9.heap[P]? = _ := hW9 ▸ (set_other (by omega)).trans ((b7.block P (by omega)).trans H6.out.2.2.1)
         have kL8 : W9.heap[X]? = _ := hW9 ▸ (set_other (by omega)).trans ((b7.block X (by omega)).trans H6.out.2.2.2)
         have c8 : Below X W W9 := hW9 ▸ below_set (HQ.out.1.trans ((H6.out.1.mono (by omega)).trans (b7.mono (by omega)))) (by omega)
         have s8 : W9.heap.size = Y + 1 := (by rw [← hW9, set_size]; exact s7)
         have y8 : W9.cell? ⟨Y, 0, none⟩ = some (.int .i64 fa) := (by simp [World.cell?, r8])
         have HS8 := Lib.hid (And.intro y8 (onS (X := X) (B := X) (t1 := 0) kL8 kO8))
         have H8 := Lib.hid (And.intro c8 (And.intro kC8 (And.intro kL8 (And.intro kO8 r8))))
         clear b7 r7 kC8 kO8 kL8 c8 r8 y8))
    have gYI : ¬ Y = I := by omega
    have gYP : ¬ Y = P := by omega
    go_region_held3 (fun W => W.cell? ⟨Y, 0, none⟩ = some (.int .i64 fa) ∧ W.cell? ⟨P, 0, none⟩ = some (.pointer (some ⟨I, 0, none⟩)) ∧ W.cell? ⟨X, 0, none⟩ = some (.int .i64 l.base) ∧ W.cell? ⟨X, 1, none⟩ = some (.int .i64 l.term) ∧ W.cell? ⟨X, 2, none⟩ = some (.int .i64 l.mtu) ∧ W.cell? ⟨X, 3, none⟩ = some (.int .i64 l.subs) ∧ W.cell? ⟨X, 4, none⟩ = some (.int .i32 l.ini) ∧ W.cell? ⟨X, 5, none⟩ = some (.int .i32 l.ses) ∧ W.cell? ⟨X, 6, none⟩ = some (.int .i32 l.str))
      (first | exact HS9.out | exact HS8.out)
      (first
      | (go_at_call 108
         refine (ask_anyV (w := W9.drew) hl (I := I) H8.out.2.1 (by simp [clmC])).mono ?_
         rintro e w10 ⟨rfl, hT, C', h1, h2, h3, h4⟩
         have kO10 := (hT.block P (show _ < W9.heap.size by omega) (by omega) (by omega)).trans H8.out.2.2.2.1
         have kL10 := (hT.block X (show _ < W9.heap.size by omega) (by omega) (by omega)).trans H8.out.2.2.1
         have r10 := (hT.block Y (show _ < W9.heap.size by omega) (by omega) (by omega)).trans H8.out.2.2.2.2
         have y10 : w10.cell? ⟨Y, 0, none⟩ = some (.int .i64 fa) := (by simp [World.cell?, r10])
         have HS9 := Lib.hid (And.intro y10 (onS (X := X) (B := X) (t1 := 0) kL10 kO10))
         have H9 := Lib.hid (And.intro hT (And.intro h1 (And.intro h2 (And.intro h3 h4))))
         clear hT h1 h2 h3 h4 kO10 kL10 r10 y10))
    have j9 := HS9.out.2.1
    go_wp2
    go_ret
    have hs := H8.out.1.size
    have e16 : C'[16]? = some (.pointer none) := (H9.out.2.2.2.1 16 (by omega)).trans rfl
    have hbl : Below X W w10 := H8.out.1.drew.trans ((H9.out.1.toK.mono (K' := fun k => X ≤ k) (fun k _ hk => by omega)).toBelow (fun k hk => hk) (show X ≤ W9.heap.size by omega))
    exact ⟨I, C', rfl, by rw [hX]; exact hbl, by rw [hX]; omega, H9.out.2.1, H9.out.2.2.2.2, e16⟩
  go_region_with (go_at_call 62
                  first
                  | (refine (cC V1.drew (H.out.2.2 _ (hX ▸ H.out.1.drew))).mono ?_
                     rintro e w2 ⟨pa, pn, pc, rfl, hB2⟩
                     have b2 : Below V1.heap.size V1 w2 := (Below.refl V1.heap.size V1).drew.trans hB2
                     have t2 := b2.size
                     have l2 := (b2.block X (by omega)).trans H.out.2.1
                     obtain ⟨v0, v1, v2, v3, v4, v5, v6⟩ := blk7 l2
                     obtain ⟨I, hI⟩ : ∃ I, w2.heap.size = I := ⟨_, rfl⟩
                     obtain ⟨V3, hV3⟩ : ∃ V, w2.alloc (.cells (clmC l (.slice pa pn pc) com 10) 226) = V := ⟨_, rfl⟩
                     obtain ⟨V4, hV4⟩ : ∃ V, V3.alloc (.cells #[.pointer none] 186) = V := ⟨_, rfl⟩
                     obtain ⟨U3, hU3⟩ : ∃ V, w2.alloc (.cells #[.pointer none] 186) = V := ⟨_, rfl⟩
                     obtain ⟨U4, hU4⟩ : ∃ V, U3.alloc (.cells (clmC l (.slice pa pn pc) com 10) 226) = V := ⟨_, rfl⟩
                     obtain ⟨b3, r3, s3⟩ := at_new hV3
                     obtain ⟨b4, r4, s4⟩ := at_new hV4
                     obtain ⟨c3, e3, z3⟩ := at_new hU3
                     obtain ⟨c4, e4, z4⟩ := at_new hU4
                     rw [hI] at r3 s3 b3 e3 z3 c3
                     rw [s3] at r4 s4 b4
                     rw [z3] at e4 z4 c4
                     obtain ⟨w0, w1', w2', w3', w4', w5', w6'⟩ := blk7 ((c3.block X (by omega)).trans l2)
                     obtain ⟨V5, hV5⟩ : ∃ V, V4.setCell ⟨I + 1, 0, none⟩ (.pointer (some ⟨I, 0, none⟩)) = V := ⟨_, rfl⟩
                     obtain ⟨U5, hU5⟩ : ∃ V, U4.setCell ⟨I, 0, none⟩ (.pointer (some ⟨I + 1, 0, none⟩)) = V := ⟨_, rfl⟩
                     have i0 : V4.cell? ⟨I + 1, 0, none⟩ = some (.pointer none) := (by simp [World.cell?, r4])
                     have iz : V4.frozen? ⟨I + 1, 0, none⟩ = false := (by simp [World.frozen?, r4])
                     have e3' := (c4.block I (by omega)).trans e3
                     have j0 : U4.cell? ⟨I, 0, none⟩ = some (.pointer none) := (by simp [World.cell?, e3'])
                     have jz : U4.frozen? ⟨I, 0, none⟩ = false := (by simp [World.frozen?, e3'])
                     have r5 : V5.heap[I + 1]? = some (.cells #[.pointer (some ⟨I, 0, none⟩)] 186) := (by rw [← hV5]; simpa using set7 r4 0 (.pointer (some ⟨I, 0, none⟩)))
                     have e5 : U5.heap[I]? = some (.cells #[.pointer (some ⟨I + 1, 0, none⟩)] 186) := (by rw [← hU5]; simpa using set7 e3' 0 (.pointer (some ⟨I + 1, 0, none⟩)))
                     have kL : V5.heap[X]? = _ := hV5 ▸ (set_other (by omega)).trans ((b4.block X (by omega)).trans ((b3.block X (by omega)).trans l2))
                     have kC : V5.heap[I]? = _ := hV5 ▸ (set_other (by omega)).trans ((b4.block I (by omega)).trans r3)
                     have gL : U5.heap[X]? = _ := hU5 ▸ (set_other (by omega)).trans ((c4.block X (by omega)).trans ((c3.block X (by omega)).trans l2))
                     have gC : U5.heap[I + 1]? = _ := hU5 ▸ (set_other (by omega)).trans e4
                     have B5 : Below X W V5 := hV5 ▸ below_set (H.out.1.trans ((b2.mono (by omega)).trans ((b3.mono (by omega)).trans (b4.mono (by omega))))) (by omega)
                     have D5 : Below X W U5 := hU5 ▸ below_set (H.out.1.trans ((b2.mono (by omega)).trans ((c3.mono (by omega)).trans (c4.mono (by omega))))) (by omega)
                     have HQ1 := Lib.hid (And.intro B5 (And.intro kC (And.intro r5 (And.intro kL (And.intro (show X < I by omega) (And.intro (show X < I + 1 by omega) (show I ≠ I + 1 by omega)))))))
                     have HQ2 := Lib.hid (And.intro D5 (And.intro gC (And.intro e5 (And.intro gL (And.intro (show X < I + 1 by omega) (And.intro (show X < I by omega) (show I + 1 ≠ I by omega)))))))
                     unfold clmC at hV3 hU4
                     clear l2
                     clear hB2 b2 b3 b4 r3 r4 r5 kL kC B5 t2 s4 c3 e3 c4 e4 z4 e3' e5 gL gC D5)
                  | (refine (cC Vb.drew (H.out.2.2 _ (hX ▸ (H.out.1.trans (HB.out.1.mono (by omega))).drew))).mono ?_
                     rintro e w2 ⟨pa, pn, pc, rfl, hB2⟩
                     have b2 : Below Vb.heap.size Vb w2 := (Below.refl Vb.heap.size Vb).drew.trans hB2
                     have t2 := b2.size
                     obtain ⟨v0, v1, v2, v3, v4, v5, v6⟩ := blk7 ((b2.block X (by omega)).trans ((HB.out.1.block X (by omega)).trans H.out.2.1))
                     have l2 := (b2.block X (by omega)).trans ((HB.out.1.block X (by omega)).trans H.out.2.1)
                     have x2 := (b2.block (X + 1) (by omega)).trans HB.out.2
                     obtain ⟨I, hI⟩ : ∃ I, w2.heap.size = I := ⟨_, rfl⟩
                     obtain ⟨V3, hV3⟩ : ∃ V, w2.alloc (.cells (clmC l (.slice pa pn pc) com 10) 226) = V := ⟨_, rfl⟩
                     obtain ⟨b3, r3, s3⟩ := at_new hV3
                     rw [hI] at r3 s3 b3
                     have r4 := (b3.block (X + 1) (by omega)).trans x2
                     obtain ⟨V5, hV5⟩ : ∃ V, V3.setCell ⟨X + 1, 0, none⟩ (.pointer (some ⟨I, 0, none⟩)) = V := ⟨_, rfl⟩
                     have i0 : V3.cell? ⟨X + 1, 0, none⟩ = some (.pointer none) := (by simp [World.cell?, r4])
                     have iz : V3.frozen? ⟨X + 1, 0, none⟩ = false := (by simp [World.frozen?, r4])
                     have r5 : V5.heap[X + 1]? = some (.cells #[.pointer (some ⟨I, 0, none⟩)] 186) := (by rw [← hV5]; simpa using set7 r4 0 (.pointer (some ⟨I, 0, none⟩)))
                     have kL : V5.heap[X]? = _ := hV5 ▸ (set_other (by omega)).trans ((b3.block X (by omega)).trans l2)
                     have kC : V5.heap[I]? = _ := hV5 ▸ (set_other (by omega)).trans r3
                     have B5 : Below X W V5 := hV5 ▸ below_set (H.out.1.trans ((HB.out.1.mono (by omega)).trans ((b2.mono (by omega)).trans (b3.mono (by omega))))) (by omega)
                     have HQ3 := Lib.hid (And.intro B5 (And.intro kC (And.intro r5 (And.intro kL (And.intro (show X < I by omega) (And.intro (show X < X + 1 by omega) (show I ≠ X + 1 by omega)))))))
                     unfold clmC at hV3
                     clear hB2 b2 b3 r3 r4 r5 kL kC B5 l2 t2 s3 x2))
  all_goals first | exact key _ _ _ _ _ _ HQ1 | exact key _ _ _ _ _ _ HQ2 | exact key _ _ _ _ _ _ HQ3
end Go.Proofs.YtpbhfckefmboaaaGreatDoor.Sy
