/- WyC, WyD: in one text. -/
import Derived.Test.YtpbhfckefmboaaaGreatDoorGp17
import Derived.Deep.RegionHeld3
set_option linter.unusedVariables false
set_option linter.unusedSimpArgs false
set_option linter.unusedSectionVars false
namespace Go.Proofs.YtpbhfckefmboaaaGreatDoor.Ba
open Go Go.RowKit Go.Lib Go.Base
theorem askS {W : World} {X I : Nat} {l : Lg} {need : Int} {f : Value} {t0 t1 t2 t3 : TypeId} (h0 : W.heap[X]? = some (.cells #[.pointer (some ⟨I, 0, none⟩)] t0)) (h1 : W.heap[X + 1]? = some (.cells #[.int .i64 l.base, .int .i64 l.term, .int .i64 l.mtu, .int .i64 l.subs, .int .i32 l.ini, .int .i32 l.ses, .int .i32 l.str] t1)) : W.cell? ⟨X, 0, none⟩ = some (.pointer (some ⟨I, 0, none⟩)) ∧ W.cell? ⟨X + 1, 0, none⟩ = some (.int .i64 l.base) ∧ W.cell? ⟨X + 1, 1, none⟩ = some (.int .i64 l.term) ∧ W.cell? ⟨X + 1, 2, none⟩ = some (.int .i64 l.mtu) ∧ W.cell? ⟨X + 1, 3, none⟩ = some (.int .i64 l.subs) ∧ W.cell? ⟨X + 1, 4, none⟩ = some (.int .i32 l.ini) ∧ W.cell? ⟨X + 1, 5, none⟩ = some (.int .i32 l.ses) ∧ W.cell? ⟨X + 1, 6, none⟩ = some (.int .i32 l.str) := by
  obtain ⟨m0, m1, m2, m3, m4, m5, m6⟩ := blk7 h1
  exact ⟨by simp [World.cell?, h0], m0, m1, m2, m3, m4, m5, m6⟩
set_option maxHeartbeats 3200000 in
set_option maxRecDepth 100000 in
theorem ask_any {w : World} {I : Nat} {l : Lg} (hl : l.ok) {C : Array Value} {t : TypeId} (h : w.heap[I]? = some (.cells C t (0, 0))) (hC : 7 ≤ C.size) {need : Int} {g : FuncId} {ff cf : Array Value} :
    Calls Tryz.prog 108 #[.pointer (some ⟨I, 0, none⟩), l.val, .int .i64 need, .func (.func g) ff cf] w fun e w' => e = .returned (.tuple #[]) ∧ Turn2 I I w w' ∧ ∃ C', w'.heap[I]? = some (.cells C' t (0, 0)) ∧ C'.size = C.size ∧ (∀ j, 7 ≤ j → C'[j]? = C[j]?) ∧ WantC C' := by
  have cL := fun W => limitAt_any l hl W
  unfold Lg.val at cL ⊢
  obtain ⟨X, hX⟩ : ∃ X, w.heap.size = X := ⟨_, rfl⟩
  obtain ⟨V0, hV0⟩ : ∃ V, w.alloc (.cells #[.pointer (some ⟨I, 0, none⟩)] 215) = V := ⟨_, rfl⟩
  obtain ⟨V1, hV1⟩ : ∃ V, V0.alloc (.cells #[.int .i64 l.base, .int .i64 l.term, .int .i64 l.mtu, .int .i64 l.subs, .int .i32 l.ini, .int .i32 l.ses, .int .i32 l.str] 23) = V := ⟨_, rfl⟩
  obtain ⟨V2, hV2⟩ : ∃ V, V1.alloc (.cells #[.int .i64 need] 2) = V := ⟨_, rfl⟩
  obtain ⟨V3, hV3⟩ : ∃ V, V2.alloc (.cells #[.func (.func g) ff cf] 223) = V := ⟨_, rfl⟩
  obtain ⟨b0, r0, s0⟩ := at_new hV0
  obtain ⟨b1, r1, s1⟩ := at_new hV1
  obtain ⟨b2, r2, s2⟩ := at_new hV2
  obtain ⟨b3, r3, s3⟩ := at_new hV3
  rw [hX] at r0 s0 b0
  rw [s0] at r1 s1 b1
  rw [s1] at r2 s2 b2
  rw [s2] at r3 s3 b3
  have hI : I < X := hX ▸ (Array.getElem?_eq_some_iff.1 h).1
  have k0 := (b3.block X (by omega)).trans ((b2.block X (by omega)).trans ((b1.block X (by omega)).trans r0))
  have k1 := (b3.block (X + 1) (by omega)).trans ((b2.block (X + 1) (by omega)).trans r1)
  have kI := (b3.block I (by omega)).trans ((b2.block I (by omega)).trans ((b1.block I (by omega)).trans ((b0.block I (by omega)).trans h)))
  have B3 : Below X w V3 := b0.trans ((b1.mono (by omega)).trans ((b2.mono (by omega)).trans (b3.mono (by omega))))
  have HS3 := Lib.hid (askS (need := need) (f := .nilFunc) (t2 := t) (t3 := t) k0 k1)
  have H := Lib.hid (And.intro cL (And.intro B3 (And.intro kI (And.intro hC (And.intro k0 k1)))))
  clear b0 b1 b2 b3 r0 r1 r2 r3 k0 k1 kI B3 cL h
  have hst : ∀ (a : Addr) (g : FuncId) (u v : Array Value) (m : Mode) (w : World), (store a (.func (.func g) u v) m).run Tryz.prog w = stored Tryz.prog w a (.func (.func g) u v) m := fun _ _ _ _ _ _ => rfl
  go_enter Tryz.func108, Tryz.ntmps108
  go_wp2_with fail
  go_region_held3 (fun W => W.cell? ⟨X, 0, none⟩ = some (.pointer (some ⟨I, 0, none⟩)) ∧ W.cell? ⟨X + 1, 0, none⟩ = some (.int .i64 l.base) ∧ W.cell? ⟨X + 1, 1, none⟩ = some (.int .i64 l.term) ∧ W.cell? ⟨X + 1, 2, none⟩ = some (.int .i64 l.mtu) ∧ W.cell? ⟨X + 1, 3, none⟩ = some (.int .i64 l.subs) ∧ W.cell? ⟨X + 1, 4, none⟩ = some (.int .i32 l.ini) ∧ W.cell? ⟨X + 1, 5, none⟩ = some (.int .i32 l.ses) ∧ W.cell? ⟨X + 1, 6, none⟩ = some (.int .i32 l.str))
    (first | exact HS5.out | exact HS4.out | exact HS3.out)
    (first
    | (go_at_call 56
       refine (H.out.1 _).mono ?_
       rintro e w4 ⟨rfl, hB4⟩
       have b4 : Below V3.heap.size V3 w4 := (below_drewN (Below.refl V3.heap.size V3) _).trans hB4
       have H4 := Lib.hid (And.intro b4 (And.intro ((b4.block I (by omega)).trans H.out.2.2.1) (And.intro ((b4.block X (by omega)).trans H.out.2.2.2.2.1) ((b4.block (X + 1) (by omega)).trans H.out.2.2.2.2.2))))
       have HS4 := Lib.hid (askS (need := need) (f := .nilFunc) (t2 := t) (t3 := t) H4.out.2.2.1 H4.out.2.2.2)
       clear b4 hB4)
    | (go_at_call 117
       refine (cont_load H4.out.2.1 H.out.2.2.2.1).mono ?_
       rintro e w5 ⟨rfl, hT, C', h1, h2, h3, h4⟩
       have t5 := H4.out.1.size
       have H5 := Lib.hid (And.intro hT (And.intro h1 (And.intro h2 (And.intro h3 h4))))
       have HS5 := Lib.hid (askS (need := need) (f := .nilFunc) (t2 := t) (t3 := t) ((hT.block X (by omega) (by omega) (by omega)).trans H4.out.2.2.1) ((hT.block (X + 1) (by omega) (by omega) (by omega)).trans H4.out.2.2.2))
       clear hT h1 h2 h3 h4))
  all_goals go_wp2
  all_goals go_end0
  all_goals exact ⟨rfl, ((Turn2.of (hX.symm ▸ H.out.2.1)).trans (.of H4.out.1)).trans H5.out.1, _, H5.out.2.1, H5.out.2.2.1, H5.out.2.2.2.1, H5.out.2.2.2.2⟩
theorem ask_anyV {w : World} {I : Nat} {l : Lg} (hl : l.ok) {C : Array Value} {t : TypeId} (h : w.heap[I]? = some (.cells C t (0, 0))) (hC : 7 ≤ C.size) {need : Int} {g : FuncId} {ff cf : Array Value} :
    Calls Tryz.prog 108 #[.pointer (some ⟨I, 0, none⟩), .agg #[.int .i64 l.base, .int .i64 l.term, .int .i64 l.mtu, .int .i64 l.subs, .int .i32 l.ini, .int .i32 l.ses, .int .i32 l.str], .int .i64 need, .func (.func g) ff cf] w fun e w' => e = .returned (.tuple #[]) ∧ Turn2 I I w w' ∧ ∃ C', w'.heap[I]? = some (.cells C' t (0, 0)) ∧ C'.size = C.size ∧ (∀ j, 7 ≤ j → C'[j]? = C[j]?) ∧ WantC C' := ask_any hl h hC
end Go.Proofs.YtpbhfckefmboaaaGreatDoor.Ba
namespace Go.Proofs.YtpbhfckefmboaaaGreatDoor.Sy
open Go Go.RowKit Go.Lib Go.AS Go.Base Go.Pr Go.Proofs.YtpbhfckefmboaaaGreatDoor.Ba
/-- bytes are cloned, whatever they are: safe -/
theorem cloneS (ba : Option Addr) (bc : Nat) (B : List Nat) (hbn : B.length ≤ 1000) (hB : ∀ x ∈ B, x < 256) (w : World) (hr : RowAt w ba B) : Calls Tryz.prog 62 #[.slice ba B.length bc] w fun e w' => ∃ pa pn pc, e = .returned (.slice pa pn pc) ∧ Below w.heap.size w w' := by
  by_cases h : ba = none
  · subst h
    obtain rfl := row_nil hr
    refine (clone_nil 0 bc w).mono ?_
    rintro e w' ⟨rfl, hb⟩
    exact ⟨_, _, _, rfl, hb⟩
  · refine (cloneP ba B.length bc B rfl hbn hB h w hr).mono ?_
    rintro e w' ⟨g, cap, C, rfl, h1, h2, h3, h4, h5⟩
    exact ⟨_, _, _, rfl, h5⟩
theorem want_set {C : Array Value} {o : Nat} {v : Value} (h : WantC C) (ho : 7 ≤ o) : WantC (C.setIfInBounds o v) := by
  obtain ⟨k, p, n, v', u, ba, bn, bc, g, ff, cf, e0, e1, e2, e3, e4, e5, e6⟩ := h
  refine ⟨k, p, n, v', u, ba, bn, bc, g, ff, cf, ?_, ?_, ?_, ?_, ?_, ?_, ?_⟩ <;> (rw [Array.getElem?_setIfInBounds_ne (by omega)]; assumption)
theorem onS {W : World} {X L B O : Nat} {l : Lg} {v : Value} {t0 t1 t3 : TypeId} (h0 : W.heap[L]? = some (.cells #[.int .i64 l.base, .int .i64 l.term, .int .i64 l.mtu, .int .i64 l.subs, .int .i32 l.ini, .int .i32 l.ses, .int .i32 l.str] t0)) (h3 : W.heap[O]? = some (.cells #[v] t3)) : W.cell? ⟨O, 0, none⟩ = some v ∧ W.cell? ⟨L, 0, none⟩ = some (.int .i64 l.base) ∧ W.cell? ⟨L, 1, none⟩ = some (.int .i64 l.term) ∧ W.cell? ⟨L, 2, none⟩ = some (.int .i64 l.mtu) ∧ W.cell? ⟨L, 3, none⟩ = some (.int .i64 l.subs) ∧ W.cell? ⟨L, 4, none⟩ = some (.int .i32 l.ini) ∧ W.cell? ⟨L, 5, none⟩ = some (.int .i32 l.ses) ∧ W.cell? ⟨L, 6, none⟩ = some (.int .i32 l.str) := by
  obtain ⟨m0, m1, m2, m3, m4, m5, m6⟩ := blk7 h0
  exact ⟨by simp [World.cell?, h3], m0, m1, m2, m3, m4, m5, m6⟩
set_option maxHeartbeats 3200000 in
set_option maxRecDepth 100000 in
theorem offer_no {W : World} {l : Lg} (hl : l.ok) {ba : Option Addr} {bn bc : Nat} (hn : (bn : Int) > l.term / 8) :
    Calls Tryz.prog 93 #[l.val, .slice ba bn bc] W fun e w' => ∃ I, e = .returned (.pointer (some ⟨I, 0, none⟩)) ∧ Below W.heap.size W w' ∧ W.heap.size ≤ I ∧ w'.heap[I]? = some (.cells (offC l 4) 218 (0, 0)) := by
  have cN := fun W => need_no l hl bn hn W
  unfold Lg.val at cN ⊢
  obtain ⟨X, hX⟩ : ∃ X, W.heap.size = X := ⟨_, rfl⟩
  obtain ⟨V1, hV1⟩ : ∃ V, W.alloc (.cells #[.int .i64 l.base, .int .i64 l.term, .int .i64 l.mtu, .int .i64 l.subs, .int .i32 l.ini, .int .i32 l.ses, .int .i32 l.str] 23) = V := ⟨_, rfl⟩
  obtain ⟨V2, hV2⟩ : ∃ V, V1.alloc (.cells #[.slice ba bn bc] 38) = V := ⟨_, rfl⟩
  obtain ⟨V3, hV3⟩ : ∃ V, V2.alloc (.cells (offC l 10) 218) = V := ⟨_, rfl⟩
  obtain ⟨V4, hV4⟩ : ∃ V, V3.alloc (.cells #[.pointer none] 184) = V := ⟨_, rfl⟩
  obtain ⟨b1, r1, s1⟩ := at_new hV1
  obtain ⟨b2, r2, s2⟩ := at_new hV2
  obtain ⟨b3, r3, s3⟩ := at_new hV3
  obtain ⟨b4, r4, s4⟩ := at_new hV4
  rw [hX] at r1 s1 b1
  rw [s1] at r2 s2 b2
  rw [s2] at r3 s3 b3
  rw [s3] at r4 s4 b4
  obtain ⟨V5, hV5⟩ : ∃ V, V4.setCell ⟨X + 1 + 1 + 1, 0, none⟩ (.pointer (some ⟨X + 1 + 1, 0, none⟩)) = V := ⟨_, rfl⟩
  obtain ⟨m0, m1, m2, m3, m4, m5, m6⟩ := blk7 ((b2.block X (by omega)).trans r1)
  have i0 : V4.cell? ⟨X + 1 + 1 + 1, 0, none⟩ = some (.pointer none) := by simp [World.cell?, r4]
  have iz : V4.frozen? ⟨X + 1 + 1 + 1, 0, none⟩ = false := by simp [World.frozen?, r4]
  have r5 : V5.heap[X + 1 + 1 + 1]? = some (.cells #[.pointer (some ⟨X + 1 + 1, 0, none⟩)] 184) := by rw [← hV5]; simpa using set7 r4 0 (.pointer (some ⟨X + 1 + 1, 0, none⟩))
  have kL : V5.heap[X]? = _ := hV5 ▸ (set_other (by omega)).trans ((b4.block X (by omega)).trans ((b3.block X (by omega)).trans ((b2.block X (by omega)).trans r1)))
  have kB : V5.heap[X + 1]? = _ := hV5 ▸ (set_other (by omega)).trans ((b4.block (X + 1) (by omega)).trans ((b3.block (X + 1) (by omega)).trans r2))
  have kO : V5.heap[X + 1 + 1]? = _ := hV5 ▸ (set_other (by omega)).trans ((b4.block (X + 1 + 1) (by omega)).trans r3)
  have B5 : Below X W V5 := hV5 ▸ below_set (b1.trans ((b2.mono (by omega)).trans ((b3.mono (by omega)).trans (b4.mono (by omega))))) (by omega)
  obtain ⟨n0, n1, n2, n3, n4, n5, n6⟩ := blk7 kL
  have nb : V5.cell? ⟨X + 1, 0, none⟩ = some (.slice ba bn bc) := by simp [World.cell?, kB]
  have s5 : V5.heap.size = X + 1 + 1 + 1 + 1 := by rw [← hV5, set_size]; exact s4
  have H := Lib.hid (And.intro B5 (And.intro kO (And.intro r5 kL)))
  unfold offC at hV3
  clear b1 b2 b3 b4 r1 r2 r3 r4 r5 kL kB kO B5
  go_enter Tryz.func93, Tryz.ntmps93
  go_wp2_with (go_at_call 107
               refine (cN _).mono ?_
               rintro e w6 ⟨rfl, hB6⟩
               have k6 := (hB6.block (X + 1 + 1) (by omega)).trans H.out.2.1
               have r6 := (hB6.block (X + 1 + 1 + 1) (by omega)).trans H.out.2.2.1
               have j6 : w6.cell? ⟨X + 1 + 1 + 1, 0, none⟩ = some (.pointer (some ⟨X + 1 + 1, 0, none⟩)) := (by simp [World.cell?, r6])
               have k18 := cells_at k6 (o := 18) (v := .int .i64 10) rfl
               have z18 := cells_fr k6 (o := 18) (by simp [offC])
               have nx : ¬ X + 1 + 1 = X + 1 + 1 + 1 := by omega
               have nx2 : ¬ X + 1 + 1 + 1 = X + 1 + 1 := by omega
               have H6 := Lib.hid (And.intro hB6 k6)
               clear hB6 k6 r6)
  go_ret
  refine ⟨X + 1 + 1, rfl, ?_, by omega, ?_⟩
  · rw [hX]
    exact below_set (H.out.1.trans (H6.out.1.mono (by omega))) (by omega)
  · simpa [offC] using set7 H6.out.2 18 (.int .i64 4)
set_option maxHeartbeats 3200000 in
set_option maxRecDepth 100000 in
theorem offer_any {W : World} {l : Lg} (hl : l.ok) {ba : Option Addr} {bc : Nat} {B : List Nat} (hn : (B.length : Int) ≤ l.term / 8) (hB : ∀ x ∈ B, x < 256) (hbn : B.length ≤ 1000) (hr : ∀ w', Below W.heap.size W w' → RowAt w' ba B) :
    Calls Tryz.prog 93 #[l.val, .slice ba B.length bc] W fun e w' => ∃ I C, e = .returned (.pointer (some ⟨I, 0, none⟩)) ∧ Below W.heap.size W w' ∧ W.heap.size ≤ I ∧ w'.heap[I]? = some (.cells C 218 (0, 0)) ∧ OffW I C := by
  have cN := fun W => need_any l hl B.length hn W
  have cC := fun W hr => cloneS ba bc B hbn hB W hr
  unfold Lg.val at cN ⊢
  obtain ⟨bn, hbnn⟩ : ∃ bn, B.length = bn := ⟨_, rfl⟩
  rw [hbnn] at cN cC ⊢
  obtain ⟨X, hX⟩ : ∃ X, W.heap.size = X := ⟨_, rfl⟩
  obtain ⟨V1, hV1⟩ : ∃ V, W.alloc (.cells #[.int .i64 l.base, .int .i64 l.term, .int .i64 l.mtu, .int .i64 l.subs, .int .i32 l.ini, .int .i32 l.ses, .int .i32 l.str] 23) = V := ⟨_, rfl⟩
  obtain ⟨V2, hV2⟩ : ∃ V, V1.alloc (.cells #[.slice ba bn bc] 38) = V := ⟨_, rfl⟩
  obtain ⟨V3, hV3⟩ : ∃ V, V2.alloc (.cells (offC l 10) 218) = V := ⟨_, rfl⟩
  obtain ⟨V4, hV4⟩ : ∃ V, V3.alloc (.cells #[.pointer none] 184) = V := ⟨_, rfl⟩
  obtain ⟨b1, r1, s1⟩ := at_new hV1
  obtain ⟨b2, r2, s2⟩ := at_new hV2
  obtain ⟨b3, r3, s3⟩ := at_new hV3
  obtain ⟨b4, r4, s4⟩ := at_new hV4
  rw [hX] at r1 s1 b1
  rw [s1] at r2 s2 b2
  rw [s2] at r3 s3 b3
  rw [s3] at r4 s4 b4
  obtain ⟨V5, hV5⟩ : ∃ V, V4.setCell ⟨X + 1 + 1 + 1, 0, none⟩ (.pointer (some ⟨X + 1 + 1, 0, none⟩)) = V := ⟨_, rfl⟩
  obtain ⟨m0, m1, m2, m3, m4, m5, m6⟩ := blk7 ((b2.block X (by omega)).trans r1)
  have i0 : V4.cell? ⟨X + 1 + 1 + 1, 0, none⟩ = some (.pointer none) := by simp [World.cell?, r4]
  have iz : V4.frozen? ⟨X + 1 + 1 + 1, 0, none⟩ = false := by simp [World.frozen?, r4]
  have r5 : V5.heap[X + 1 + 1 + 1]? = some (.cells #[.pointer (some ⟨X + 1 + 1, 0, none⟩)] 184) := by rw [← hV5]; simpa using set7 r4 0 (.pointer (some ⟨X + 1 + 1, 0, none⟩))
  have kL : V5.heap[X]? = _ := hV5 ▸ (set_other (by omega)).trans ((b4.block X (by omega)).trans ((b3.block X (by omega)).trans ((b2.block X (by omega)).trans r1)))
  have kB : V5.heap[X + 1]? = _ := hV5 ▸ (set_other (by omega)).trans ((b4.block (X + 1) (by omega)).trans ((b3.block (X + 1) (by omega)).trans r2))
  have kO : V5.heap[X + 1 + 1]? = _ := hV5 ▸ (set_other (by omega)).trans ((b4.block (X + 1 + 1) (by omega)).trans r3)
  have B5 : Below X W V5 := hV5 ▸ below_set (b1.trans ((b2.mono (by omega)).trans ((b3.mono (by omega)).trans (b4.mono (by omega))))) (by omega)
  obtain ⟨n0, n1, n2, n3, n4, n5, n6⟩ := blk7 kL
  have nb : V5.cell? ⟨X + 1, 0, none⟩ = some (.slice ba bn bc) := by simp [World.cell?, kB]
  have s5 : V5.heap.size = X + 1 + 1 + 1 + 1 := by rw [← hV5, set_size]; exact s4
  have H := Lib.hid (And.intro B5 (And.intro kO (And.intro r5 (And.intro kL (And.intro kB hr)))))
  unfold offC at hV3
  clear b1 b2 b3 b4 r1 r2 r3 r4 r5 kL kB kO B5 hr hn
  have hst : ∀ (a : Addr) (g : FuncId) (u v : Array Value) (m : Mode) (w : World), (store a (.func (.func g) u v) m).run Tryz.prog w = stored Tryz.prog w a (.func (.func g) u v) m := fun _ _ _ _ _ _ => rfl
  go_enter Tryz.func93, Tryz.ntmps93
  go_wp2_with (first
    | (go_at_call 107
       refine (cN _).mono ?_
       rintro e w6 ⟨nv, rfl, hB6⟩
       have k6 := (hB6.block (X + 1) (by omega)).trans H.out.2.2.2.2.1
       have j6 : w6.cell? ⟨X + 1, 0, none⟩ = some (.slice ba bn bc) := (by simp [World.cell?, k6])
       have H6 := Lib.hid hB6
       clear hB6)
    | (go_at_call 62
       refine (cC _ (H.out.2.2.2.2.2 _ (hX ▸ H.out.1.trans (H6.out.mono (by omega))))).mono ?_
       rintro e w7 ⟨pa, pn, pc, rfl, hB7⟩
       have q6 := H6.out.size
       have c7 : Below X W w7 := H.out.1.trans ((H6.out.mono (by omega)).trans (hB7.mono (by omega)))
       have d7 : Below V5.heap.size V5 w7 := H6.out.trans (hB7.mono (by omega))
       have kB7 := (d7.block (X + 1) (by omega)).trans H.out.2.2.2.2.1
       have j7 : w7.cell? ⟨X + 1, 0, none⟩ = some (.slice ba bn bc) := (by simp [World.cell?, kB7])
       have z7 : w7.frozen? ⟨X + 1, 0, none⟩ = false := (by simp [World.frozen?, kB7])
       obtain ⟨W8, hW8⟩ : ∃ V, w7.setCell ⟨X + 1, 0, none⟩ (.slice pa pn pc) = V := ⟨_, rfl⟩
       have kL8 : W8.heap[X]? = _ := hW8 ▸ (set_other (by omega)).trans ((d7.block X (by omega)).trans H.out.2.2.2.1)
       have kO8 : W8.heap[X + 1 + 1]? = _ := hW8 ▸ (set_other (by omega)).trans ((d7.block (X + 1 + 1) (by omega)).trans H.out.2.1)
       have r8 : W8.heap[X + 1 + 1 + 1]? = _ := hW8 ▸ (set_other (by omega)).trans ((d7.block (X + 1 + 1 + 1) (by omega)).trans H.out.2.2.1)
       have c8 : Below X W W8 := hW8 ▸ below_set c7 (by omega)
       have HS8 := Lib.hid (onS (X := X) (B := X) (t1 := 0) kL8 r8)
       have H8 := Lib.hid (And.intro c8 (And.intro kO8 (And.intro kL8 r8)))
       have s8 : V5.heap.size ≤ W8.heap.size := (by rw [← hW8, set_size]; exact d7.size)
       clear hB7 c7 d7 kB7 kL8 kO8 r8 c8))
  go_region_held3 (fun W => W.cell? ⟨X + 1 + 1 + 1, 0, none⟩ = some (.pointer (some ⟨X + 1 + 1, 0, none⟩)) ∧ W.cell? ⟨X, 0, none⟩ = some (.int .i64 l.base) ∧ W.cell? ⟨X, 1, none⟩ = some (.int .i64 l.term) ∧ W.cell? ⟨X, 2, none⟩ = some (.int .i64 l.mtu) ∧ W.cell? ⟨X, 3, none⟩ = some (.int .i64 l.subs) ∧ W.cell? ⟨X, 4, none⟩ = some (.int .i32 l.ini) ∧ W.cell? ⟨X, 5, none⟩ = some (.int .i32 l.ses) ∧ W.cell? ⟨X, 6, none⟩ = some (.int .i32 l.str))
    (first | exact HS9.out | exact HS8.out)
    (first
    | (go_at_call 108
       refine (ask_anyV (w := W8.drew) hl (I := X + 1 + 1) H8.out.2.1 (by simp [offC])).mono ?_
       rintro e w9 ⟨rfl, hT, C', h1, h2, h3, h4⟩
       have kO9 := (hT.block (X + 1 + 1 + 1) (show _ < W8.heap.size by omega) (by omega) (by omega)).trans H8.out.2.2.2
       have kL9 := (hT.block X (show _ < W8.heap.size by omega) (by omega) (by omega)).trans H8.out.2.2.1
       have HS9 := Lib.hid (onS (X := X) (B := X) (t1 := 0) kL9 kO9)
       have g7 : w9.cell? ⟨X + 1 + 1, 7, none⟩ = some .nilIface := cells_at h1 ((h3 7 (by omega)).trans rfl)
       have z7' : w9.frozen? ⟨X + 1 + 1, 7, none⟩ = false := cells_fr h1 (by rw [h2]; simp [offC])
       have H9 := Lib.hid (And.intro hT (And.intro h1 (And.intro h2 (And.intro h3 (And.intro h4 kO9)))))
       clear hT h1 h2 h3 h4 kO9 kL9))
  all_goals have j9 := HS9.out.1
  have nx : ¬ X + 1 + 1 = X + 1 + 1 + 1 := by omega
  have nx2 : ¬ X + 1 + 1 + 1 = X + 1 + 1 := by omega
  all_goals go_wp2_with fail
  all_goals go_region
  all_goals go_wp2
  all_goals go_ret
  all_goals have hs := H8.out.1.size
  have e7 : (C'.setIfInBounds 7 (.iface 215 (.pointer (some ⟨X + 1 + 1, 0, none⟩))))[7]? = some (.iface 215 (.pointer (some ⟨X + 1 + 1, 0, none⟩))) := by
    rw [Array.getElem?_setIfInBounds_self_of_lt (by rw [H9.out.2.2.1]; simp [offC])]
  have hbl : Below X W (w9.setCell ⟨X + 1 + 1, 7, none⟩ (.iface 215 (.pointer (some ⟨X + 1 + 1, 0, none⟩)))) := below_set (H8.out.1.drew.trans ((H9.out.1.toK.mono (K' := fun k => X ≤ k) (fun k _ hk => by omega)).toBelow (fun k hk => hk) (show X ≤ W8.heap.size by omega))) (by omega)
  have h7 := set7 H9.out.2.1 7 (.iface 215 (.pointer (some ⟨X + 1 + 1, 0, none⟩)))
  exact ⟨X + 1 + 1, _, rfl, by rw [hX]; exact hbl.drew, by rw [hX]; omega, h7, want_set H9.out.2.2.2.2.1 (Nat.le_refl _), e7⟩
end Go.Proofs.YtpbhfckefmboaaaGreatDoor.Sy
