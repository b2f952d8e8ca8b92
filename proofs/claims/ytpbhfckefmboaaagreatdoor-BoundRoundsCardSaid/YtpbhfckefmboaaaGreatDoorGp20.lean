/- WyF, WwB, WwC: in one text. -/
import Derived.Test.YtpbhfckefmboaaaGreatDoorGp18
import Derived.Test.YtpbhfckefmboaaaGreatDoorGp19
import Derived.Test.YtpbhfckefmboaaaGreatDoorGp17
import Derived.Handy
set_option linter.unusedVariables false
set_option linter.unusedSimpArgs false
set_option linter.unusedSectionVars false
namespace Go.Proofs.YtpbhfckefmboaaaGreatDoor.Sy
open Go Go.RowKit Go.Lib Go.AS Go.Base Go.Pr Go.Proofs.YtpbhfckefmboaaaGreatDoor.Ba
/-- the slot that is none -/
def zero4 (V : World) (X : Nat) : World := (((V.setCell ⟨X, 0, none⟩ (.int .i64 0)).setCell ⟨X, 1, none⟩ (.int .i32 0)).setCell ⟨X, 2, none⟩ (.int .i64 0)).setCell ⟨X, 3, none⟩ (.int .i64 0)
theorem zero4_new {w V : World} {X : Nat} {v0 v1 v2 v3 : Value} (hX : w.heap.size = X) (hb : Below w.heap.size w V) (h : V.heap[X]? = some (.cells #[v0, v1, v2, v3] 69)) : Below w.heap.size w (zero4 V X) ∧ (zero4 V X).heap[X]? = some (.cells #[.int .i64 0, .int .i32 0, .int .i64 0, .int .i64 0] 69) := by
  have j := set7 (set7 (set7 (set7 h 0 (.int .i64 0)) 1 (.int .i32 0)) 2 (.int .i64 0)) 3 (.int .i64 0)
  have hx : w.heap.size ≤ X := Nat.le_of_eq hX
  exact ⟨below_set (below_set (below_set (below_set hb hx) hx) hx) hx, by unfold zero4; simpa using j⟩
theorem blk4s {w : World} {b : Nat} {t : TypeId} {v0 v1 v2 v3 : Value} (h : w.heap[b]? = some (.cells #[v0, v1, v2, v3] t (0, 0))) : w.cell? ⟨b, 0, none⟩ = some v0 ∧ w.cell? ⟨b, 1, none⟩ = some v1 ∧ w.cell? ⟨b, 2, none⟩ = some v2 ∧ w.cell? ⟨b, 3, none⟩ = some v3 ∧ w.frozen? ⟨b, 0, none⟩ = false ∧ w.frozen? ⟨b, 1, none⟩ = false ∧ w.frozen? ⟨b, 2, none⟩ = false ∧ w.frozen? ⟨b, 3, none⟩ = false := by
  refine ⟨?_, ?_, ?_, ?_, ?_, ?_, ?_, ?_⟩ <;> simp [World.cell?, World.frozen?, h]
set_option maxHeartbeats 3200000 in
set_option maxRecDepth 100000 in
theorem onext_any {w : World} {I : Nat} {C : Array Value} (h : w.heap[I]? = some (.cells C 218 (0, 0))) (hC : OffW I C) :
    Calls Tryz.prog 287 #[.pointer (some ⟨I, 0, none⟩)] w fun e w' => (∃ k p n v u : Int, ∃ (ba : Option Addr) (bn bc : Nat), e = .returned (.tuple #[accM k p n v u ba bn bc, .bool true])) ∧ Below w.heap.size w w' := by
  obtain ⟨X, hX⟩ : ∃ X, w.heap.size = X := ⟨_, rfl⟩
  obtain ⟨V, hV⟩ : ∃ V, w.alloc (.cells #[.int .i64 0, .int .i64 0, .int .i64 0, .int .u64 0, .int .u64 0, .slice none 0 0] 40) = V := ⟨_, rfl⟩
  obtain ⟨bV, rV, sV⟩ := at_new hV
  rw [hX] at rV
  have hv := (bV.block I (Array.getElem?_eq_some_iff.1 h).1).trans h
  have k7 := cells_at hv hC.2
  have CN := Lib.hid (cnext_g hv hC.1)
  have HV := Lib.hid (And.intro bV rV)
  clear h bV rV hC hv
  go_enter Tryz.func287, Tryz.ntmps287
  go_wp2_with (fail)
  refine CN.out.mono ?_
  rintro e w1 ⟨⟨k, p, n, v, u, ba, bn, bc, rfl⟩, hB⟩
  unfold accM
  have rV := (hB.block X (Array.getElem?_eq_some_iff.1 HV.out.2).1).trans HV.out.2
  have b1 : Below w.heap.size w w1 := HV.out.1.trans (hB.mono HV.out.1.size)
  obtain ⟨d0, d1, d2, d3, d4, d5⟩ := Ba.blk6 rV
  have y0 := froz6 rV 0
  have y1 := froz6 rV 1
  have y2 := froz6 rV 2
  have y3 := froz6 rV 3
  have y4 := froz6 rV 4
  have y5 := froz6 rV 5
  obtain ⟨q1, q2⟩ := putA_new (k := k) (p := p) (n := n) (v := v) (u := u) (s := .slice ba bn bc) hX b1 rV
  obtain ⟨k0, k1, k2, k3, k4, k5⟩ := Ba.blk6 q2
  have HQ := Lib.hid q1
  have HK := Lib.hid (And.intro k0 (And.intro k1 (And.intro k2 (And.intro k3 (And.intro k4 k5)))))
  clear hB rV b1 q1 q2 k0 k1 k2 k3 k4 k5
  go_wp2
  obtain ⟨k0, k1, k2, k3, k4, k5⟩ := HK.out
  unfold putA at k0 k1 k2 k3 k4 k5
  refine bodyPost_ret (v := .tuple #[accM k p n v u ba bn bc, .bool true]) (by simp [results, Tryz.results287, go_sem, k0, k1, k2, k3, k4, k5, accM]) rfl ⟨⟨k, p, n, v, u, ba, bn, bc, rfl⟩, ?_⟩
  have hq := HQ.out
  unfold putA at hq
  rw [← hX]
  rw [← hX] at hq
  exact hq
set_option maxHeartbeats 3200000 in
set_option maxRecDepth 100000 in
theorem knextW_any {w : World} {I : Nat} {C : Array Value} (h : w.heap[I]? = some (.cells C 226 (0, 0))) (hC : ClmW C) :
    Calls Tryz.prog 291 #[.pointer (some ⟨I, 0, none⟩)] w fun e w' => (∃ k p n v u : Int, ∃ (ba : Option Addr) (bn bc : Nat), e = .returned (.tuple #[accM k p n v u ba bn bc, .bool true])) ∧ Below w.heap.size w w' := by
  obtain ⟨X, hX⟩ : ∃ X, w.heap.size = X := ⟨_, rfl⟩
  obtain ⟨V, hV⟩ : ∃ V, w.alloc (.cells #[.int .i64 0, .int .i64 0, .int .i64 0, .int .u64 0, .int .u64 0, .slice none 0 0] 40) = V := ⟨_, rfl⟩
  obtain ⟨bV, rV, sV⟩ := at_new hV
  rw [hX] at rV
  have hv := (bV.block I (Array.getElem?_eq_some_iff.1 h).1).trans h
  have k16 := cells_at hv hC.2
  have CN := Lib.hid (cnext_g hv hC.1)
  have HV := Lib.hid (And.intro bV rV)
  clear h bV rV hC hv
  go_enter Tryz.func291, Tryz.ntmps291
  go_wp2_with (fail)
  refine CN.out.mono ?_
  rintro e w1 ⟨⟨k, p, n, v, u, ba, bn, bc, rfl⟩, hB⟩
  unfold accM
  have rV := (hB.block X (Array.getElem?_eq_some_iff.1 HV.out.2).1).trans HV.out.2
  have b1 : Below w.heap.size w w1 := HV.out.1.trans (hB.mono HV.out.1.size)
  obtain ⟨d0, d1, d2, d3, d4, d5⟩ := Ba.blk6 rV
  have y0 := froz6 rV 0
  have y1 := froz6 rV 1
  have y2 := froz6 rV 2
  have y3 := froz6 rV 3
  have y4 := froz6 rV 4
  have y5 := froz6 rV 5
  obtain ⟨q1, q2⟩ := putA_new (k := k) (p := p) (n := n) (v := v) (u := u) (s := .slice ba bn bc) hX b1 rV
  obtain ⟨k0, k1, k2, k3, k4, k5⟩ := Ba.blk6 q2
  have HQ := Lib.hid q1
  have HK := Lib.hid (And.intro k0 (And.intro k1 (And.intro k2 (And.intro k3 (And.intro k4 k5)))))
  clear hB rV b1 q1 q2 k0 k1 k2 k3 k4 k5
  go_wp2
  obtain ⟨k0, k1, k2, k3, k4, k5⟩ := HK.out
  unfold putA at k0 k1 k2 k3 k4 k5
  refine bodyPost_ret (v := .tuple #[accM k p n v u ba bn bc, .bool true]) (by simp [results, Tryz.results291, go_sem, k0, k1, k2, k3, k4, k5, accM]) rfl ⟨⟨k, p, n, v, u, ba, bn, bc, rfl⟩, ?_⟩
  have hq := HQ.out
  unfold putA at hq
  rw [← hX]
  rw [← hX] at hq
  exact hq
set_option maxHeartbeats 3200000 in
set_option maxRecDepth 100000 in
theorem onext_no {w : World} {I : Nat} {l : Lg} {e : Int} (h : w.heap[I]? = some (.cells (offC l e) 218 (0, 0))) :
    Calls Tryz.prog 287 #[.pointer (some ⟨I, 0, none⟩)] w fun e w' => e = .returned (.tuple #[accM 0 0 0 0 0 none 0 0, .bool false]) ∧ Below w.heap.size w w' := by
  obtain ⟨X, hX⟩ : ∃ X, w.heap.size = X := ⟨_, rfl⟩
  obtain ⟨V, hV⟩ : ∃ V, w.alloc (.cells #[.int .i64 0, .int .i64 0, .int .i64 0, .int .u64 0, .int .u64 0, .slice none 0 0] 40) = V := ⟨_, rfl⟩
  obtain ⟨bV, rV, sV⟩ := at_new hV
  rw [hX] at rV
  have hv := (bV.block I (Array.getElem?_eq_some_iff.1 h).1).trans h
  have k7 := cells_at hv (o := 7) (v := .nilIface) rfl
  obtain ⟨d0, d1, d2, d3, d4, d5⟩ := Ba.blk6 rV
  have y0 := froz6 rV 0
  have y1 := froz6 rV 1
  have y2 := froz6 rV 2
  have y3 := froz6 rV 3
  have y4 := froz6 rV 4
  have y5 := froz6 rV 5
  obtain ⟨q1, q2⟩ := zero6_new hX bV rV
  obtain ⟨k0, k1, k2, k3, k4, k5⟩ := Ba.blk6 q2
  have HQ := Lib.hid q1
  have HK := Lib.hid (And.intro k0 (And.intro k1 (And.intro k2 (And.intro k3 (And.intro k4 k5)))))
  unfold accM
  clear h hv bV rV q1 q2 k0 k1 k2 k3 k4 k5
  go_enter Tryz.func287, Tryz.ntmps287
  go_wp2
  obtain ⟨k0, k1, k2, k3, k4, k5⟩ := HK.out
  unfold zero6 at k0 k1 k2 k3 k4 k5
  refine bodyPost_ret (by simp [results, Tryz.results287, go_sem, k0, k1, k2, k3, k4, k5]) rfl ⟨rfl, ?_⟩
  have hq := HQ.out
  unfold zero6 at hq
  rw [← hX]
  rw [← hX] at hq
  exact hq
set_option maxHeartbeats 3200000 in
set_option maxRecDepth 100000 in
theorem knextW_no {w : World} {I : Nat} {l : Lg} {b : Value} {c : Bool} {e : Int} (h : w.heap[I]? = some (.cells (clmC l b c e) 226 (0, 0))) :
    Calls Tryz.prog 291 #[.pointer (some ⟨I, 0, none⟩)] w fun e w' => e = .returned (.tuple #[accM 0 0 0 0 0 none 0 0, .bool false]) ∧ Below w.heap.size w w' := by
  obtain ⟨X, hX⟩ : ∃ X, w.heap.size = X := ⟨_, rfl⟩
  obtain ⟨V, hV⟩ : ∃ V, w.alloc (.cells #[.int .i64 0, .int .i64 0, .int .i64 0, .int .u64 0, .int .u64 0, .slice none 0 0] 40) = V := ⟨_, rfl⟩
  obtain ⟨bV, rV, sV⟩ := at_new hV
  rw [hX] at rV
  have hv := (bV.block I (Array.getElem?_eq_some_iff.1 h).1).trans h
  have k16 := cells_at hv (o := 16) (v := .pointer none) rfl
  have CN := Lib.hid (cnext_no hv rfl rfl rfl rfl rfl rfl rfl)
  have HV := Lib.hid (And.intro bV rV)
  unfold accM at CN ⊢
  clear h bV rV hv
  go_enter Tryz.func291, Tryz.ntmps291
  go_wp2_with (fail)
  refine CN.out.mono ?_
  rintro e w1 ⟨rfl, hB⟩
  have rV := (hB.block X (Array.getElem?_eq_some_iff.1 HV.out.2).1).trans HV.out.2
  have b1 : Below w.heap.size w w1 := HV.out.1.trans (hB.mono HV.out.1.size)
  obtain ⟨d0, d1, d2, d3, d4, d5⟩ := Ba.blk6 rV
  have y0 := froz6 rV 0
  have y1 := froz6 rV 1
  have y2 := froz6 rV 2
  have y3 := froz6 rV 3
  have y4 := froz6 rV 4
  have y5 := froz6 rV 5
  obtain ⟨q1, q2⟩ := zero6_new hX b1 rV
  obtain ⟨k0, k1, k2, k3, k4, k5⟩ := Ba.blk6 q2
  have HQ := Lib.hid q1
  have HK := Lib.hid (And.intro k0 (And.intro k1 (And.intro k2 (And.intro k3 (And.intro k4 k5)))))
  clear hB rV b1 q1 q2 k0 k1 k2 k3 k4 k5
  go_wp2
  obtain ⟨k0, k1, k2, k3, k4, k5⟩ := HK.out
  unfold zero6 at k0 k1 k2 k3 k4 k5
  refine bodyPost_ret (by simp [results, Tryz.results291, go_sem, k0, k1, k2, k3, k4, k5]) rfl ⟨rfl, ?_⟩
  have hq := HQ.out
  unfold zero6 at hq
  rw [← hX]
  rw [← hX] at hq
  exact hq
set_option maxHeartbeats 3200000 in
set_option maxRecDepth 100000 in
theorem aslot_nil {w : World} : Calls Tryz.prog 140 #[.pointer none] w fun e w' => e = .returned (.tuple #[.agg #[.int .i64 0, .int .i32 0, .int .i64 0, .int .i64 0], .bool false]) ∧ Below w.heap.size w w' := by
  obtain ⟨X, hX⟩ : ∃ X, w.heap.size = X := ⟨_, rfl⟩
  obtain ⟨V, hV⟩ : ∃ V, w.alloc (.cells #[.int .i64 0, .int .i32 0, .int .i64 0, .int .i64 0] 69) = V := ⟨_, rfl⟩
  obtain ⟨bV, rV, sV⟩ := at_new hV
  rw [hX] at rV
  obtain ⟨d0, d1, d2, d3, y0, y1, y2, y3⟩ := blk4s rV
  obtain ⟨q1, q2⟩ := zero4_new hX bV rV
  have HQ := Lib.hid q1
  have HK := Lib.hid (blk4s q2)
  clear bV rV q1 q2
  go_enter Tryz.func140, Tryz.ntmps140
  go_wp2
  obtain ⟨k0, k1, k2, k3, -⟩ := HK.out
  unfold zero4 at k0 k1 k2 k3
  refine bodyPost_ret (by simp [results, Tryz.results140, go_sem, k0, k1, k2, k3]) rfl ⟨rfl, ?_⟩
  have hq := HQ.out
  unfold zero4 at hq
  rw [← hX]
  rw [← hX] at hq
  exact hq
set_option maxHeartbeats 3200000 in
set_option maxRecDepth 100000 in
theorem wslot_no {w : World} {I : Nat} : Calls Tryz.prog 298 #[.pointer (some ⟨I, 0, none⟩)] w fun e w' => e = .returned (.tuple #[.agg #[.int .i64 0, .int .i32 0, .int .i64 0, .int .i64 0], .bool false]) ∧ Below w.heap.size w w' := by
  obtain ⟨X, hX⟩ : ∃ X, w.heap.size = X := ⟨_, rfl⟩
  obtain ⟨V, hV⟩ : ∃ V, w.alloc (.cells #[.int .i64 0, .int .i32 0, .int .i64 0, .int .i64 0] 69) = V := ⟨_, rfl⟩
  obtain ⟨bV, rV, sV⟩ := at_new hV
  rw [hX] at rV
  obtain ⟨d0, d1, d2, d3, y0, y1, y2, y3⟩ := blk4s rV
  obtain ⟨q1, q2⟩ := zero4_new hX bV rV
  have HQ := Lib.hid q1
  have HK := Lib.hid (blk4s q2)
  clear bV rV q1 q2
  go_enter Tryz.func298, Tryz.ntmps298
  go_wp2
  obtain ⟨k0, k1, k2, k3, -⟩ := HK.out
  unfold zero4 at k0 k1 k2 k3
  refine bodyPost_ret (by simp [results, Tryz.results298, go_sem, k0, k1, k2, k3]) rfl ⟨rfl, ?_⟩
  have hq := HQ.out
  unfold zero4 at hq
  rw [← hX]
  rw [← hX] at hq
  exact hq
theorem wresult_no {w : World} {I : Nat} : Calls Tryz.prog 297 #[.pointer (some ⟨I, 0, none⟩)] w fun e w' => e = .returned (.tuple #[.int .i64 0, .int .i64 1]) ∧ Below w.heap.size w w' := by
  go_enter Tryz.func297, Tryz.ntmps297
  go_wp2
  go_ret2
  exact ⟨rfl, Below.refl _ _⟩
theorem oresult_no {w : World} {I : Nat} {l : Lg} {e : Int} (h : w.heap[I]? = some (.cells (offC l e) 218 (0, 0))) : Calls Tryz.prog 288 #[.pointer (some ⟨I, 0, none⟩)] w fun e' w' => e' = .returned (.tuple #[.int .i64 0, .int .i64 e]) ∧ Below w.heap.size w w' := by
  have k17 := cells_at h (o := 17) (v := .int .i64 0) rfl
  have k18 := cells_at h (o := 18) (v := .int .i64 e) rfl
  clear h
  go_enter Tryz.func288, Tryz.ntmps288
  go_wp2_with fail
  go_quiet (fail)
  go_wp2
  go_ret2
  exact ⟨rfl, below_drewN (Below.refl _ _) _⟩
theorem kresult_no {w : World} {I : Nat} {l : Lg} {b : Value} {c : Bool} {e : Int} (h : w.heap[I]? = some (.cells (clmC l b c e) 226 (0, 0))) : Calls Tryz.prog 292 #[.pointer (some ⟨I, 0, none⟩)] w fun e' w' => e' = .returned (.tuple #[.int .i64 0, .int .i64 e]) ∧ Below w.heap.size w w' := by
  have k16 := cells_at h (o := 16) (v := .pointer none) rfl
  have k22 := cells_at h (o := 22) (v := .int .i64 0) rfl
  have k23 := cells_at h (o := 23) (v := .int .i64 e) rfl
  clear h
  go_enter Tryz.func292, Tryz.ntmps292
  go_wp2_with fail
  go_quiet (fail)
  go_wp2
  go_ret2
  exact ⟨rfl, below_drewN (Below.refl _ _) _⟩
set_option maxHeartbeats 3200000 in
set_option maxRecDepth 100000 in
theorem kslot_no {w : World} {I : Nat} {l : Lg} {b : Value} {c : Bool} {e : Int} (h : w.heap[I]? = some (.cells (clmC l b c e) 226 (0, 0))) : Calls Tryz.prog 293 #[.pointer (some ⟨I, 0, none⟩)] w fun e w' => e = .returned (.tuple #[.agg #[.int .i64 0, .int .i32 0, .int .i64 0, .int .i64 0], .bool false]) ∧ Below w.heap.size w w' := by
  obtain ⟨X, hX⟩ : ∃ X, w.heap.size = X := ⟨_, rfl⟩
  obtain ⟨V, hV⟩ : ∃ V, w.alloc (.cells #[.int .i64 0, .int .i32 0, .int .i64 0, .int .i64 0] 69) = V := ⟨_, rfl⟩
  obtain ⟨bV, rV, sV⟩ := at_new hV
  rw [hX] at rV
  have hv := (bV.block I (Array.getElem?_eq_some_iff.1 h).1).trans h
  have k17 := cells_at hv (o := 17) (v := .int .i64 0) rfl
  have k18 := cells_at hv (o := 18) (v := .int .i32 0) rfl
  have k19 := cells_at hv (o := 19) (v := .int .i64 0) rfl
  have k20 := cells_at hv (o := 20) (v := .int .i64 0) rfl
  have k21 := cells_at hv (o := 21) (v := .bool false) rfl
  obtain ⟨d0, d1, d2, d3, y0, y1, y2, y3⟩ := blk4s rV
  obtain ⟨q1, q2⟩ := zero4_new hX bV rV
  have HQ := Lib.hid q1
  have HK := Lib.hid (blk4s q2)
  clear bV rV q1 q2
  have nXI : ¬ X = I := by have := (Array.getElem?_eq_some_iff.1 h).1; omega
  have nIX : ¬ I = X := fun e => nXI e.symm
  clear h hv
  go_enter Tryz.func293, Tryz.ntmps293
  go_wp2_with fail
  go_region
  all_goals go_wp2
  all_goals obtain ⟨k0, k1, k2, k3, -⟩ := HK.out
  all_goals unfold zero4 at k0 k1 k2 k3
  all_goals refine bodyPost_ret (by simp [results, Tryz.results293, go_sem, k0, k1, k2, k3]) rfl ⟨rfl, ?_⟩
  all_goals have hq := HQ.out.drew
  all_goals unfold zero4 at hq
  all_goals rw [← hX]
  all_goals rw [← hX] at hq
  all_goals exact hq
set_option maxHeartbeats 3200000 in
set_option maxRecDepth 100000 in
theorem oslot_no {w : World} {I : Nat} {l : Lg} {e : Int} (h : w.heap[I]? = some (.cells (offC l e) 218 (0, 0))) : Calls Tryz.prog 289 #[.pointer (some ⟨I, 0, none⟩)] w fun e w' => e = .returned (.tuple #[.agg #[.int .i64 0, .int .i32 0, .int .i64 0, .int .i64 0], .bool false]) ∧ Below w.heap.size w w' := by
  obtain ⟨X, hX⟩ : ∃ X, w.heap.size = X := ⟨_, rfl⟩
  obtain ⟨V, hV⟩ : ∃ V, w.alloc (.cells #[.int .i64 0, .int .i32 0, .int .i64 0, .int .i64 0] 69) = V := ⟨_, rfl⟩
  obtain ⟨bV, rV, sV⟩ := at_new hV
  rw [hX] at rV
  have hv := (bV.block I (Array.getElem?_eq_some_iff.1 h).1).trans h
  have k16 := cells_at hv (o := 16) (v := .pointer none) rfl
  have HV := Lib.hid (And.intro bV rV)
  clear h bV rV hv
  go_enter Tryz.func289, Tryz.ntmps289
  go_wp2_with (fail)
  refine aslot_nil.mono ?_
  rintro e w1 ⟨rfl, hB⟩
  have rV := (hB.block X (Array.getElem?_eq_some_iff.1 HV.out.2).1).trans HV.out.2
  have bV : Below w.heap.size w w1 := HV.out.1.trans (hB.mono HV.out.1.size)
  obtain ⟨d0, d1, d2, d3, y0, y1, y2, y3⟩ := blk4s rV
  obtain ⟨q1, q2⟩ := zero4_new hX bV rV
  have HQ := Lib.hid q1
  have HK := Lib.hid (blk4s q2)
  clear bV rV q1 q2
  clear hB
  go_wp2
  obtain ⟨k0, k1, k2, k3, -⟩ := HK.out
  unfold zero4 at k0 k1 k2 k3
  refine bodyPost_ret (by simp [results, Tryz.results289, go_sem, k0, k1, k2, k3]) rfl ⟨rfl, ?_⟩
  have hq := HQ.out
  unfold zero4 at hq
  rw [← hX]
  rw [← hX] at hq
  exact hq
end Go.Proofs.YtpbhfckefmboaaaGreatDoor.Sy
namespace Go.Proofs.YtpbhfckefmboaaaGreatDoor.Sy
open Go Go.RowKit Go.Lib Go.AS Go.Base Go.Pr Go.Proofs.YtpbhfckefmboaaaGreatDoor.Ba
theorem Frm.below {O : Nat → Prop} {w w' : World} (h : Below w.heap.size w w') : Frm O w w' := ⟨h.os, h.tape, h.output, h.size, fun k hk _ => h.block k hk⟩
/-- an act: one of three kinds, refused or asking -/
inductive AK (l : Lg) (p : Pr An Ot) (W : World) (rt : Nat × Nat) (O : Nat → Prop) : Value → Prop
  | offer1 {C : Array Value} (hr : rt.2 = 0) (ho : O rt.1) (h : W.heap[rt.1]? = some (.cells C 218 (0, 0))) (hC : OffW rt.1 C) (ha : isAsk p) : AK l p W rt O (.iface 184 (ptrV rt))
  | offer0 {e : Int} (hr : rt.2 = 0) (ho : O rt.1) (h : W.heap[rt.1]? = some (.cells (offC l e) 218 (0, 0))) (hp : p = .done ⟨noSlt, false, 0, e⟩) : AK l p W rt O (.iface 184 (ptrV rt))
  | claim1 {C : Array Value} (hr : rt.2 = 0) (ho : O rt.1) (h : W.heap[rt.1]? = some (.cells C 226 (0, 0))) (hC : ClmW C) (ha : isAsk p) : AK l p W rt O (.iface 186 (ptrV rt))
  | claim0 {e : Int} {b : Value} {c : Bool} (hr : rt.2 = 0) (ho : O rt.1) (h : W.heap[rt.1]? = some (.cells (clmC l b c e) 226 (0, 0))) (hp : p = .done ⟨noSlt, false, 0, e⟩) : AK l p W rt O (.iface 186 (ptrV rt))
  | wrong (hr : rt.2 = 0) (ho : O rt.1) (h : W.heap[rt.1]? = some (.cells #[.int .i64 0, .int .i64 0, .int .i64 0, .int .u64 0, .int .u64 0, .slice none 0 0, .nilFunc] 189 (0, 0))) (hp : p = .done ⟨noSlt, false, 0, 1⟩) : AK l p W rt O (.iface 188 (ptrV rt))
structure AX (l : Lg) (q : Nat) (p : Pr An Ot) (v : Value) (W : World) (O : Nat → Prop) : Prop where
  lt : ∀ b, O b → b < W.heap.size
  few : ∀ o, p = .done o → o.e = 1 ∨ o.e = 4
  ex : ∃ rt, AK l p W rt O v
section
variable {l : Lg} {q : Nat} {p : Pr An Ot} {v : Value} {W W' : World} {O O' : Nat → Prop} {rt : Nat × Nat}
theorem AK.move (h : AK l p W rt O v) (hkk : ∀ b, O b → W'.heap[b]? = W.heap[b]?) (hO : ∀ b, O b → O' b) : AK l p W' rt O' v := by
  cases h with
  | offer1 hr ho h hC ha => exact .offer1 hr (hO _ ho) ((hkk _ ho).trans h) hC ha
  | offer0 hr ho h hp => exact .offer0 hr (hO _ ho) ((hkk _ ho).trans h) hp
  | claim1 hr ho h hC ha => exact .claim1 hr (hO _ ho) ((hkk _ ho).trans h) hC ha
  | claim0 hr ho h hp => exact .claim0 hr (hO _ ho) ((hkk _ ho).trans h) hp
  | wrong hr ho h hp => exact .wrong hr (hO _ ho) ((hkk _ ho).trans h) hp
theorem AX.move (h : AX l q p v W O) (hs : W.heap.size ≤ W'.heap.size) (hkk : ∀ b, O b → W'.heap[b]? = W.heap[b]?) : AX l q p v W' O :=
  ⟨fun b hb => Nat.lt_of_lt_of_le (h.lt b hb) hs, h.few, h.ex.imp fun _ hk => hk.move hkk fun _ h => h⟩
theorem AX.kept (h : AX l q p v W O) (hB : Below W.heap.size W W') : AX l q p v W' (Grow O W W') :=
  ⟨fun b hb => by
    rcases hb with hb | hb
    · exact Nat.lt_of_lt_of_le (h.lt b hb) hB.size
    · exact hb.2, h.few, h.ex.imp fun _ hk => hk.move (fun b hb => hB.block b (h.lt b hb)) fun _ h => .inl h⟩
/-- what an act tells, by its methods -/
structure Acts (l : Lg) (q : Nat) (p : Pr An Ot) (v : Value) (W : World) (O : Nat → Prop) (rt : Nat × Nat) (fN fR fS : Nat) : Prop where
  next : Calls Tryz.prog fN #[ptrV rt] W fun e w' => ∃ nv, e = .returned nv ∧ WV p w' (Grow O W w') nv ∧ Frm O W w' ∧ AX l q p v w' (Grow O W w')
  slot : ¬ isAsk p → Calls Tryz.prog fS #[ptrV rt] W fun e w' => e = .returned (slotV p.obs.s p.obs.has) ∧ Frm O W w' ∧ AX l q p v w' (Grow O W w')
  result : ¬ isAsk p → Calls Tryz.prog fR #[ptrV rt] W fun e w' => e = .returned (.tuple #[.int .i64 p.obs.pos, .int .i64 p.obs.e]) ∧ Frm O W w' ∧ AX l q p v w' (Grow O W w')
theorem ask_wv (ha : isAsk p) {k a n v' u : Int} {ba : Option Addr} {bn bc : Nat} : WV p W O (.tuple #[accM k a n v' u ba bn bc, .bool true]) := by
  cases p with
  | done o => exact absurd ha id
  | ask o a k => exact ⟨_, _, _, _, _, _, _, _, rfl⟩
theorem AX.acts (h : AX l q p v W O) : ∃ rt, (v = .iface 184 (ptrV rt) ∧ Acts l q p v W O rt 287 288 289) ∨ (v = .iface 186 (ptrV rt) ∧ Acts l q p v W O rt 291 292 293) ∨ (v = .iface 188 (ptrV rt) ∧ Acts l q p v W O rt 228 297 298) := by
  have hx := h
  obtain ⟨lt, few, ⟨I, z⟩, hk⟩ := h
  cases hk with
  | offer1 hr ho h hC ha =>
    cases hr
    refine ⟨(I, 0), .inl ⟨rfl, ⟨(onext_any h hC).mono ?_, fun hn => absurd ha hn, fun hn => absurd ha hn⟩⟩⟩
    rintro e w' ⟨⟨k, a, n, v', u, ba, bn, bc, rfl⟩, hB⟩
    exact ⟨_, rfl, ask_wv ha, .below hB, hx.kept hB⟩
  | offer0 hr ho h hp =>
    cases hr
    subst hp
    refine ⟨(I, 0), .inl ⟨rfl, ⟨(onext_no h).mono ?_, fun _ => (oslot_no h).mono ?_, fun _ => (oresult_no h).mono ?_⟩⟩⟩
    · rintro e w' ⟨rfl, hB⟩; exact ⟨_, rfl, rfl, .below hB, hx.kept hB⟩
    · rintro e w' ⟨rfl, hB⟩; exact ⟨rfl, .below hB, hx.kept hB⟩
    · rintro e w' ⟨rfl, hB⟩; exact ⟨rfl, .below hB, hx.kept hB⟩
  | claim1 hr ho h hC ha =>
    cases hr
    refine ⟨(I, 0), .inr (.inl ⟨rfl, ⟨(knextW_any h hC).mono ?_, fun hn => absurd ha hn, fun hn => absurd ha hn⟩⟩)⟩
    rintro e w' ⟨⟨k, a, n, v', u, ba, bn, bc, rfl⟩, hB⟩
    exact ⟨_, rfl, ask_wv ha, .below hB, hx.kept hB⟩
  | claim0 hr ho h hp =>
    cases hr
    subst hp
    refine ⟨(I, 0), .inr (.inl ⟨rfl, ⟨(knextW_no h).mono ?_, fun _ => (kslot_no h).mono ?_, fun _ => (kresult_no h).mono ?_⟩⟩)⟩
    · rintro e w' ⟨rfl, hB⟩; exact ⟨_, rfl, rfl, .below hB, hx.kept hB⟩
    · rintro e w' ⟨rfl, hB⟩; exact ⟨rfl, .below hB, hx.kept hB⟩
    · rintro e w' ⟨rfl, hB⟩; exact ⟨rfl, .below hB, hx.kept hB⟩
  | wrong hr ho h hp =>
    cases hr
    subst hp
    refine ⟨(I, 0), .inr (.inr ⟨rfl, ⟨(cnext_no h rfl rfl rfl rfl rfl rfl rfl).mono ?_, fun _ => (wslot_no (I := I)).mono ?_, fun _ => (wresult_no (I := I)).mono ?_⟩⟩)⟩
    · rintro e w' ⟨rfl, hB⟩; exact ⟨_, rfl, rfl, .below hB, hx.kept hB⟩
    · rintro e w' ⟨rfl, hB⟩; exact ⟨rfl, .below hB, hx.kept hB⟩
    · rintro e w' ⟨rfl, hB⟩; exact ⟨rfl, .below hB, hx.kept hB⟩
theorem made_lt {W W' : World} : ∀ b, Made W W' b → b < W'.heap.size := fun b hb => by
  rcases hb with hb | hb
  · exact absurd hb id
  · exact hb.2
theorem offer_made (hw : l.ok) {B : List Nat} (hB : ∀ x ∈ B, x < 256) {ba : Option Addr} {bc : Nat} (hbn : B.length ≤ 1000) (h1 : 1 ≤ W.heap.size) (hr : ∀ w', Below W.heap.size W w' → RowAt w' ba B) :
    Calls Tryz.prog 93 #[l.val, .slice ba B.length bc] W fun e w' => ∃ rt, e = .returned (ptrV rt) ∧ Below W.heap.size W w' ∧ ∀ q, AX l q (offerT (lgN l) B) (.iface 184 (ptrV rt)) w' (Made W w') := by
  have e0 : (lgN l).ok := hw
  by_cases hn : (B.length : Int) > l.term / 8
  · refine (offer_no hw (ba := ba) (bc := bc) hn).mono ?_
    rintro e w' ⟨I, rfl, hb, hI, h⟩
    have hlt := (Array.getElem?_eq_some_iff.1 h).1
    have hp : offerT (lgN l) B = .done ⟨noSlt, false, 0, 4⟩ := by
      unfold offerT
      rw [if_neg (fun hc => hc e0), if_pos (show (B.length : Int) > (lgN l).term / 8 from hn)]
    exact ⟨(I, 0), rfl, hb, fun q => ⟨made_lt, fun o ho => (by rw [hp] at ho; injection ho with ho; subst ho; exact .inr rfl), (I, 0), .offer0 rfl (.inr ⟨hI, hlt⟩) h hp⟩⟩
  · refine (offer_any hw (by omega) hB hbn hr).mono ?_
    rintro e w' ⟨I, C, rfl, hb, hI, h, hC⟩
    have hlt := (Array.getElem?_eq_some_iff.1 h).1
    obtain ⟨o, a, k, hp⟩ : ∃ o a k, offerT (lgN l) B = .ask o a k := by
      unfold offerT
      rw [if_neg (fun hc => hc e0), if_neg (show ¬ (B.length : Int) > (lgN l).term / 8 from hn)]
      exact ⟨_, _, _, rfl⟩
    exact ⟨(I, 0), rfl, hb, fun q => ⟨made_lt, fun o ho => (by rw [hp] at ho; cases ho), (I, 0), .offer1 rfl (.inr ⟨hI, hlt⟩) h hC (by rw [hp]; trivial)⟩⟩
theorem claim_made (hw : l.ok) {B : List Nat} {com : Bool} (hB : ∀ x ∈ B, x < 256) {ba : Option Addr} {bc : Nat} (hbn : B.length ≤ 1000) (h1 : 1 ≤ W.heap.size) (hr : ∀ w', Below W.heap.size W w' → RowAt w' ba B) :
    Calls Tryz.prog 94 #[l.val, .slice ba B.length bc, .bool com] W fun e w' => ∃ rt, e = .returned (ptrV rt) ∧ Below W.heap.size W w' ∧ ∀ q, AX l q (claimT (lgN l) B com) (.iface 186 (ptrV rt)) w' (Made W w') := by
  have e0 : (lgN l).ok := hw
  by_cases hn : (B.length : Int) > l.mtu
  · refine (claim_no hw (com := com) hn hB hbn hr).mono ?_
    rintro e w' ⟨I, b', rfl, hb, hI, h⟩
    have hlt := (Array.getElem?_eq_some_iff.1 h).1
    have hp : claimT (lgN l) B com = .done ⟨noSlt, false, 0, 4⟩ := by
      unfold claimT
      rw [if_neg (fun hc => hc e0), if_pos (show (B.length : Int) > (lgN l).mtu from hn)]
    exact ⟨(I, 0), rfl, hb, fun q => ⟨made_lt, fun o ho => (by rw [hp] at ho; injection ho with ho; subst ho; exact .inr rfl), (I, 0), .claim0 rfl (.inr ⟨hI, hlt⟩) h hp⟩⟩
  · refine (claim_any hw (com := com) (by omega) hB hbn hr).mono ?_
    rintro e w' ⟨I, C, rfl, hb, hI, h, hC⟩
    have hlt := (Array.getElem?_eq_some_iff.1 h).1
    obtain ⟨o, a, k, hp⟩ : ∃ o a k, claimT (lgN l) B com = .ask o a k := by
      unfold claimT
      rw [if_neg (fun hc => hc e0), if_neg (show ¬ (B.length : Int) > (lgN l).mtu from hn)]
      exact ⟨_, _, _, rfl⟩
    exact ⟨(I, 0), rfl, hb, fun q => ⟨made_lt, fun o ho => (by rw [hp] at ho; cases ho), (I, 0), .claim1 rfl (.inr ⟨hI, hlt⟩) h hC (by rw [hp]; trivial)⟩⟩
end
end Go.Proofs.YtpbhfckefmboaaaGreatDoor.Sy
namespace Go.Proofs.YtpbhfckefmboaaaGreatDoor.Sy
open Go Go.RowKit Go.Lib Go.AS Go.Base Go.Pr Go.Proofs.YtpbhfckefmboaaaGreatDoor.Ba
/-- a writer's cells -/
def wrC (b : Nat) (now : Value) (going : Bool) (l : Lg) (left : Value) (tries n : Int) (dn : Value) : Array Value := #[now, .func (.func 63) #[.pointer (some ⟨b, 0, none⟩)] #[], .func (.func 64) #[.pointer (some ⟨b, 0, none⟩)] #[], .bool going, .int .i64 l.base, .int .i64 l.term, .int .i64 l.mtu, .int .i64 l.subs, .int .i32 l.ini, .int .i32 l.ses, .int .i32 l.str, left, .int .i64 tries, .int .i64 n, dn]
theorem blk15 {w : World} {b : Nat} {t : TypeId} {v0 v1 v2 v3 v4 v5 v6 v7 v8 v9 v10 v11 v12 v13 v14 : Value} (h : w.heap[b]? = some (.cells #[v0, v1, v2, v3, v4, v5, v6, v7, v8, v9, v10, v11, v12, v13, v14] t (0, 0))) : w.cell? ⟨b, 0, none⟩ = some v0 ∧ w.cell? ⟨b, 1, none⟩ = some v1 ∧ w.cell? ⟨b, 2, none⟩ = some v2 ∧ w.cell? ⟨b, 3, none⟩ = some v3 ∧ w.cell? ⟨b, 4, none⟩ = some v4 ∧ w.cell? ⟨b, 5, none⟩ = some v5 ∧ w.cell? ⟨b, 6, none⟩ = some v6 ∧ w.cell? ⟨b, 7, none⟩ = some v7 ∧ w.cell? ⟨b, 8, none⟩ = some v8 ∧ w.cell? ⟨b, 9, none⟩ = some v9 ∧ w.cell? ⟨b, 10, none⟩ = some v10 ∧ w.cell? ⟨b, 11, none⟩ = some v11 ∧ w.cell? ⟨b, 12, none⟩ = some v12 ∧ w.cell? ⟨b, 13, none⟩ = some v13 ∧ w.cell? ⟨b, 14, none⟩ = some v14 ∧ (w.frozen? ⟨b, 0, none⟩ = false ∧ w.frozen? ⟨b, 3, none⟩ = false ∧ w.frozen? ⟨b, 11, none⟩ = false ∧ w.frozen? ⟨b, 12, none⟩ = false ∧ w.frozen? ⟨b, 13, none⟩ = false ∧ w.frozen? ⟨b, 14, none⟩ = false) := by
  refine ⟨?_, ?_, ?_, ?_, ?_, ?_, ?_, ?_, ?_, ?_, ?_, ?_, ?_, ?_, ?_, ?_, ?_, ?_, ?_, ?_, ?_⟩ <;> simp [World.cell?, World.frozen?, h]
theorem blk6 {w : World} {b : Nat} {t : TypeId} {v0 v1 v2 v3 v4 v5 : Value} (h : w.heap[b]? = some (.cells #[v0, v1, v2, v3, v4, v5] t (0, 0))) : w.cell? ⟨b, 0, none⟩ = some v0 ∧ w.cell? ⟨b, 1, none⟩ = some v1 ∧ w.cell? ⟨b, 2, none⟩ = some v2 ∧ w.cell? ⟨b, 3, none⟩ = some v3 ∧ w.cell? ⟨b, 4, none⟩ = some v4 ∧ w.cell? ⟨b, 5, none⟩ = some v5 ∧ w.frozen? ⟨b, 0, none⟩ = false ∧ w.frozen? ⟨b, 1, none⟩ = false ∧ w.frozen? ⟨b, 2, none⟩ = false ∧ w.frozen? ⟨b, 3, none⟩ = false ∧ w.frozen? ⟨b, 4, none⟩ = false ∧ w.frozen? ⟨b, 5, none⟩ = false := by
  refine ⟨?_, ?_, ?_, ?_, ?_, ?_, ?_, ?_, ?_, ?_, ?_, ?_⟩ <;> simp [World.cell?, World.frozen?, h]
section
variable {l : Lg} {q : Nat} {p : Pr An Ot} {now : Value} {O : Nat → Prop}
theorem only6 {X : Nat} (x : World) (v0 v1 v2 v3 v4 v5 : Value) : Only X x ((((((x.setCell ⟨X, 0, none⟩ v0).setCell ⟨X, 1, none⟩ v1).setCell ⟨X, 2, none⟩ v2).setCell ⟨X, 3, none⟩ v3).setCell ⟨X, 4, none⟩ v4).setCell ⟨X, 5, none⟩ v5) :=
  (((((Only.set _ _ _).trans (Only.set _ _ _)).trans (Only.set _ _ _)).trans (Only.set _ _ _)).trans (Only.set _ _ _)).trans (Only.set _ _ _)
theorem setc {w : World} {b : Nat} {C C' : Array Value} {t : TypeId} (h : w.heap[b]? = some (.cells C t (0, 0))) (j : Nat) (u : Value) (hC : C.setIfInBounds j u = C' := by rfl) : (w.setCell ⟨b, j, none⟩ u).heap[b]? = some (.cells C' t (0, 0)) := by
  obtain ⟨hlt, hk⟩ := Array.getElem?_eq_some_iff.1 h
  subst hC
  show (w.heap.modify b _)[b]? = _
  rw [Array.getElem?_eq_getElem (by rw [Array.size_modify]; exact hlt), Array.getElem_modify_self, hk]
  rfl
theorem set6 {w : World} {b : Nat} {t : TypeId} {v0 v1 v2 v3 v4 v5 : Value} (h : w.heap[b]? = some (.cells #[v0, v1, v2, v3, v4, v5] t (0, 0))) (u0 u1 u2 u3 u4 u5 : Value) : ((((((w.setCell ⟨b, 0, none⟩ u0).setCell ⟨b, 1, none⟩ u1).setCell ⟨b, 2, none⟩ u2).setCell ⟨b, 3, none⟩ u3).setCell ⟨b, 4, none⟩ u4).setCell ⟨b, 5, none⟩ u5).heap[b]? = some (.cells #[u0, u1, u2, u3, u4, u5] t (0, 0)) :=
  setc (setc (setc (setc (setc (setc h 0 u0) 1 u1) 2 u2) 3 u3) 4 u4) 5 u5
end
end Go.Proofs.YtpbhfckefmboaaaGreatDoor.Sy
