/- InD, InE, InF, Meta3, PrPlain: in one text. -/
import Derived.Test.YtpbhfckefmboaaaGreatDoorGp03
import Derived.OwnWalk
import Derived.Test.YtpbhfckefmboaaaGreatDoorGp01
import Derived.WalkKit
set_option linter.unusedVariables false
set_option linter.unusedSimpArgs false
set_option linter.unusedSectionVars false
namespace Go.Proofs.YtpbhfckefmboaaaGreatDoor.Ba
open Go Go.RowKit Go.Lib Go.Base
set_option maxHeartbeats 3200000 in
theorem take_init {w : World} {I : Nat} {x : Sto} {L : List Sto} {a : Int} {bb : Bool} {xa : Option Addr} {xn xc : Nat} (h : InitS w I (x :: L)) :
    Calls Tryz.prog 263 #[.pointer (some ⟨I, 0, none⟩), .agg #[.int .u64 a, .bool bb, .slice xa xn xc]] w fun e w' => e = .returned (.tuple #[]) ∧ Turn2 I I w w' ∧ InitS w' I L := by
  obtain ⟨X, hX⟩ : ∃ X, w.heap.size = X := ⟨_, rfl⟩
  obtain ⟨V, hV⟩ : ∃ V, w.alloc (.cells #[.int .u64 a, .bool bb, .slice xa xn xc] 42) = V := ⟨_, rfl⟩
  have bV : Below w.heap.size w V := by rw [← hV]; exact (Below.refl _ _).alloc (Nat.le_refl _) _
  have rV : V.heap[X]? = some (.cells #[.int .u64 a, .bool bb, .slice xa xn xc] 42) := by rw [← hV, ← hX]; exact heap_new _ _
  obtain ⟨g0, g1, g2, y0, y1, y2⟩ := blk3 rV
  have hT : Turn2 I I w V.drew := (Turn2.of bV).trans (.of (Below.drew (Below.refl _ _)))
  have hI : InitS V.drew I (x :: L) := by
    obtain ⟨c2, c3, ga, cap, h0, k2, k3, n2, n3, hc, hc2, hr⟩ := h
    exact ⟨c2, c3, ga, cap, (bV.block I (Array.getElem?_eq_some_iff.1 h0).1).trans h0, hT.cell (Nat.ne_of_gt n2) k2, hT.cell (Nat.ne_of_gt n3) k3, n2, n3, hc, hc2, hr.turn hT⟩
  have CA := Lib.hid (ctake_init (a := a) (bb := bb) (xa := xa) (xn := xn) (xc := xc) hI)
  have HT := Lib.hid hT
  clear hT hI h bV rV
  go_enter Tryz.func263, Tryz.ntmps263
  go_wp2_with (fail)
  go_region_with (go_at_call 264; refine CA.out.mono ?_; rintro e w1 ⟨rfl, hB, hI⟩; have HB := Lib.hid (And.intro hB hI); clear hB hI)
  all_goals go_wp2
  all_goals go_end0
  all_goals exact ⟨rfl, HT.out.trans HB.out.1, HB.out.2⟩
theorem below_set {B X o : Nat} {a w : World} {v : Value} (h : Below B a w) (hX : B ≤ X) : Below B a (w.setCell ⟨X, o, none⟩ v) :=
  ⟨h.os, h.tape, h.output, by rw [set_size]; exact h.size, fun k hk => (set_other (by omega)).trans (h.block k hk)⟩
/-- an access is stored into a new block -/
def put6 (V : World) (X : Nat) (p n v : Int) : World := (((((V.setCell ⟨X, 0, none⟩ (.int .i64 2)).setCell ⟨X, 1, none⟩ (.int .i64 p)).setCell ⟨X, 2, none⟩ (.int .i64 n)).setCell ⟨X, 3, none⟩ (.int .u64 v)).setCell ⟨X, 4, none⟩ (.int .u64 0)).setCell ⟨X, 5, none⟩ (.slice none 0 0)
theorem put6_new {w V : World} {X : Nat} {p n v : Int} {v0 v1 v2 v3 v4 v5 : Value} (hX : w.heap.size = X) (hb : Below w.heap.size w V) (h : V.heap[X]? = some (.cells #[v0, v1, v2, v3, v4, v5] 40)) : Below w.heap.size w (put6 V X p n v) ∧ (put6 V X p n v).heap[X]? = some (.cells #[.int .i64 2, .int .i64 p, .int .i64 n, .int .u64 v, .int .u64 0, .slice none 0 0] 40) := by
  have j := set7 (set7 (set7 (set7 (set7 (set7 h 0 (.int .i64 2)) 1 (.int .i64 p)) 2 (.int .i64 n)) 3 (.int .u64 v)) 4 (.int .u64 0)) 5 (.slice none 0 0)
  have hx : w.heap.size ≤ X := Nat.le_of_eq hX
  refine ⟨below_set (below_set (below_set (below_set (below_set (below_set hb hx) hx) hx) hx) hx) hx, ?_⟩
  · unfold put6
    simpa using j
theorem froz6 {w : World} {b : Nat} {t : TypeId} {v0 v1 v2 v3 v4 v5 : Value} (h : w.heap[b]? = some (.cells #[v0, v1, v2, v3, v4, v5] t (0, 0))) (o : Nat) : w.frozen? ⟨b, o, none⟩ = false := by simp [World.frozen?, h]
set_option maxHeartbeats 3200000 in
set_option maxRecDepth 100000 in
theorem cnext_init {w : World} {I : Nat} {x : Sto} {L : List Sto} (h : InitS w I (x :: L)) :
    Calls Tryz.prog 228 #[.pointer (some ⟨I, 0, none⟩)] w fun e w' => e = .returned (.tuple #[accM 2 x.1 x.2.1 x.2.2 0 none 0 0, .bool true]) ∧ Below w.heap.size w w' := by
  obtain ⟨c2, c3, ga, cap, h0, -⟩ := h
  obtain ⟨p, n, v⟩ := x
  dsimp only at h0 ⊢
  obtain ⟨X, hX⟩ : ∃ X, w.heap.size = X := ⟨_, rfl⟩
  obtain ⟨V, hV⟩ : ∃ V, w.alloc (.cells #[.int .i64 0, .int .i64 0, .int .i64 0, .int .u64 0, .int .u64 0, .slice none 0 0] 40) = V := ⟨_, rfl⟩
  have bV : Below w.heap.size w V := by rw [← hV]; exact (Below.refl _ _).alloc (Nat.le_refl _) _
  have rV : V.heap[X]? = some (.cells #[.int .i64 0, .int .i64 0, .int .i64 0, .int .u64 0, .int .u64 0, .slice none 0 0] 40) := by rw [← hV, ← hX]; exact heap_new _ _
  obtain ⟨d0, d1, d2, d3, d4, d5⟩ := blk6 rV
  have hv := (bV.block I (Array.getElem?_eq_some_iff.1 h0).1).trans h0
  obtain ⟨c0', c1', c2', c3', c4', c5', c6', -⟩ := blk7b hv
  have y0 := froz6 rV 0
  have y1 := froz6 rV 1
  have y2 := froz6 rV 2
  have y3 := froz6 rV 3
  have y4 := froz6 rV 4
  have y5 := froz6 rV 5
  obtain ⟨q1, q2⟩ := put6_new (p := p) (n := n) (v := v) hX bV rV
  obtain ⟨k0, k1, k2, k3, k4, k5⟩ := blk6 q2
  have hI : I < X := hX ▸ (Array.getElem?_eq_some_iff.1 h0).1
  have ne1 : ¬ I = X := by omega
  have ne2 : ¬ X = I := by omega
  have HQ := Lib.hid q1
  have HK := Lib.hid (And.intro k0 (And.intro k1 (And.intro k2 (And.intro k3 (And.intro k4 k5)))))
  unfold accM
  clear h0 hv bV rV q1 q2 k0 k1 k2 k3 k4 k5
  go_enter Tryz.func228, Tryz.ntmps228
  go_wp2_with (fail)
  simp only [func_nil, Result.andThen]
  go_wp2
  obtain ⟨k0, k1, k2, k3, k4, k5⟩ := HK.out
  unfold put6 at k0 k1 k2 k3 k4 k5
  refine bodyPost_ret (by simp [results, Tryz.results228, go_sem, k0, k1, k2, k3, k4, k5]) rfl ⟨rfl, ?_⟩
  have hq := HQ.out
  unfold put6 at hq
  rw [← hX]
  rw [← hX] at hq
  exact hq
end Go.Proofs.YtpbhfckefmboaaaGreatDoor.Ba
namespace Go.Proofs.YtpbhfckefmboaaaGreatDoor.Ba
open Go Go.RowKit Go.Lib Go.Base
theorem InitS.below {w w' : World} {I : Nat} {L : List Sto} (h : InitS w I L) (hb : Below w.heap.size w w') : InitS w' I L := by
  have hT : Turn2 I I w w' := .of hb
  cases L with
  | nil => exact (hb.block I (Array.getElem?_eq_some_iff.1 (show w.heap[I]? = _ from h)).1).trans h
  | cons x L =>
    obtain ⟨c2, c3, ga, cap, h0, k2, k3, n2, n3, hc, hc2, hr⟩ := h
    exact ⟨c2, c3, ga, cap, (hb.block I (Array.getElem?_eq_some_iff.1 h0).1).trans h0, hT.cell (Nat.ne_of_gt n2) k2, hT.cell (Nat.ne_of_gt n3) k3, n2, n3, hc, hc2, hr.turn hT⟩
set_option maxHeartbeats 3200000 in
set_option maxRecDepth 100000 in
theorem next_init {w : World} {I : Nat} {x : Sto} {L : List Sto} (h : InitS w I (x :: L)) :
    Calls Tryz.prog 262 #[.pointer (some ⟨I, 0, none⟩)] w fun e w' => e = .returned (.tuple #[accM 2 x.1 x.2.1 x.2.2 0 none 0 0, .bool true]) ∧ Below w.heap.size w w' := by
  obtain ⟨X, hX⟩ : ∃ X, w.heap.size = X := ⟨_, rfl⟩
  obtain ⟨V, hV⟩ : ∃ V, w.alloc (.cells #[.int .i64 0, .int .i64 0, .int .i64 0, .int .u64 0, .int .u64 0, .slice none 0 0] 40) = V := ⟨_, rfl⟩
  have bV : Below w.heap.size w V := by rw [← hV]; exact (Below.refl _ _).alloc (Nat.le_refl _) _
  have rV : V.heap[X]? = some (.cells #[.int .i64 0, .int .i64 0, .int .i64 0, .int .u64 0, .int .u64 0, .slice none 0 0] 40) := by rw [← hV, ← hX]; exact heap_new _ _
  have hI : I < w.heap.size := by obtain ⟨_, _, _, _, h0, -⟩ := h; exact (Array.getElem?_eq_some_iff.1 h0).1
  have CN := Lib.hid (cnext_init (h.below bV))
  obtain ⟨p, n, v⟩ := x
  have HV := Lib.hid (And.intro bV rV)
  unfold accM at CN ⊢
  dsimp only at CN ⊢
  clear h bV rV hI
  go_enter Tryz.func262, Tryz.ntmps262
  go_wp2_with (fail)
  refine CN.out.mono ?_
  rintro e w1 ⟨rfl, hB⟩
  have rV := (hB.block X (Array.getElem?_eq_some_iff.1 HV.out.2).1).trans HV.out.2
  have b1 : Below w.heap.size w w1 := HV.out.1.trans (hB.mono HV.out.1.size)
  obtain ⟨d0, d1, d2, d3, d4, d5⟩ := blk6 rV
  have y0 := froz6 rV 0
  have y1 := froz6 rV 1
  have y2 := froz6 rV 2
  have y3 := froz6 rV 3
  have y4 := froz6 rV 4
  have y5 := froz6 rV 5
  obtain ⟨q1, q2⟩ := put6_new (p := p) (n := n) (v := v) hX b1 rV
  obtain ⟨k0, k1, k2, k3, k4, k5⟩ := blk6 q2
  have HQ := Lib.hid q1
  have HK := Lib.hid (And.intro k0 (And.intro k1 (And.intro k2 (And.intro k3 (And.intro k4 k5)))))
  clear hB rV b1 q1 q2 k0 k1 k2 k3 k4 k5
  go_wp2
  obtain ⟨k0, k1, k2, k3, k4, k5⟩ := HK.out
  unfold put6 at k0 k1 k2 k3 k4 k5
  refine bodyPost_ret (by simp [results, Tryz.results262, go_sem, k0, k1, k2, k3, k4, k5]) rfl ⟨rfl, ?_⟩
  have hq := HQ.out
  unfold put6 at hq
  rw [← hX]
  rw [← hX] at hq
  exact hq

def zero6 (V : World) (X : Nat) : World := (((((V.setCell ⟨X, 0, none⟩ (.int .i64 0)).setCell ⟨X, 1, none⟩ (.int .i64 0)).setCell ⟨X, 2, none⟩ (.int .i64 0)).setCell ⟨X, 3, none⟩ (.int .u64 0)).setCell ⟨X, 4, none⟩ (.int .u64 0)).setCell ⟨X, 5, none⟩ (.slice none 0 0)
theorem zero6_new {w V : World} {X : Nat} {v0 v1 v2 v3 v4 v5 : Value} (hX : w.heap.size = X) (hb : Below w.heap.size w V) (h : V.heap[X]? = some (.cells #[v0, v1, v2, v3, v4, v5] 40)) : Below w.heap.size w (zero6 V X) ∧ (zero6 V X).heap[X]? = some (.cells #[.int .i64 0, .int .i64 0, .int .i64 0, .int .u64 0, .int .u64 0, .slice none 0 0] 40) := by
  have j := set7 (set7 (set7 (set7 (set7 (set7 h 0 (.int .i64 0)) 1 (.int .i64 0)) 2 (.int .i64 0)) 3 (.int .u64 0)) 4 (.int .u64 0)) 5 (.slice none 0 0)
  have hx : w.heap.size ≤ X := Nat.le_of_eq hX
  refine ⟨below_set (below_set (below_set (below_set (below_set (below_set hb hx) hx) hx) hx) hx) hx, ?_⟩
  unfold zero6
  simpa using j
set_option maxRecDepth 100000 in
theorem nil_nil (w : World) : (binOp .eql 122 .nilFunc .nilFunc).run Tryz.prog w = .ok (.bool true) w := by
  kernel_rfl
set_option maxHeartbeats 3200000 in
set_option maxRecDepth 100000 in
theorem cnext_end {w : World} {I : Nat} (h : InitS w I []) :
    Calls Tryz.prog 228 #[.pointer (some ⟨I, 0, none⟩)] w fun e w' => e = .returned (.tuple #[accM 0 0 0 0 0 none 0 0, .bool false]) ∧ Below w.heap.size w w' := by
  obtain ⟨X, hX⟩ : ∃ X, w.heap.size = X := ⟨_, rfl⟩
  obtain ⟨V, hV⟩ : ∃ V, w.alloc (.cells #[.int .i64 0, .int .i64 0, .int .i64 0, .int .u64 0, .int .u64 0, .slice none 0 0] 40) = V := ⟨_, rfl⟩
  have bV : Below w.heap.size w V := by rw [← hV]; exact (Below.refl _ _).alloc (Nat.le_refl _) _
  have rV : V.heap[X]? = some (.cells #[.int .i64 0, .int .i64 0, .int .i64 0, .int .u64 0, .int .u64 0, .slice none 0 0] 40) := by rw [← hV, ← hX]; exact heap_new _ _
  obtain ⟨d0, d1, d2, d3, d4, d5⟩ := blk6 rV
  have hv : V.heap[I]? = _ := (bV.block I (Array.getElem?_eq_some_iff.1 (show w.heap[I]? = _ from h)).1).trans h
  obtain ⟨c0', c1', c2', c3', c4', c5', c6', -⟩ := blk7b hv
  have y0 := froz6 rV 0
  have y1 := froz6 rV 1
  have y2 := froz6 rV 2
  have y3 := froz6 rV 3
  have y4 := froz6 rV 4
  have y5 := froz6 rV 5
  obtain ⟨q1, q2⟩ := zero6_new hX bV rV
  obtain ⟨k0, k1, k2, k3, k4, k5⟩ := blk6 q2
  have HQ := Lib.hid q1
  have HK := Lib.hid (And.intro k0 (And.intro k1 (And.intro k2 (And.intro k3 (And.intro k4 k5)))))
  unfold accM
  clear h hv bV rV q1 q2 k0 k1 k2 k3 k4 k5
  go_enter Tryz.func228, Tryz.ntmps228
  go_wp2_with (fail)
  simp only [nil_nil, Result.andThen]
  go_wp2
  obtain ⟨k0, k1, k2, k3, k4, k5⟩ := HK.out
  unfold zero6 at k0 k1 k2 k3 k4 k5
  refine bodyPost_ret (by simp [results, Tryz.results228, go_sem, k0, k1, k2, k3, k4, k5]) rfl ⟨rfl, ?_⟩
  have hq := HQ.out
  unfold zero6 at hq
  rw [← hX]
  rw [← hX] at hq
  exact hq
set_option maxHeartbeats 3200000 in
set_option maxRecDepth 100000 in
theorem next_end {w : World} {I : Nat} (h : InitS w I []) :
    Calls Tryz.prog 262 #[.pointer (some ⟨I, 0, none⟩)] w fun e w' => e = .returned (.tuple #[accM 0 0 0 0 0 none 0 0, .bool false]) ∧ Below w.heap.size w w' := by
  obtain ⟨X, hX⟩ : ∃ X, w.heap.size = X := ⟨_, rfl⟩
  obtain ⟨V, hV⟩ : ∃ V, w.alloc (.cells #[.int .i64 0, .int .i64 0, .int .i64 0, .int .u64 0, .int .u64 0, .slice none 0 0] 40) = V := ⟨_, rfl⟩
  have bV : Below w.heap.size w V := by rw [← hV]; exact (Below.refl _ _).alloc (Nat.le_refl _) _
  have rV : V.heap[X]? = some (.cells #[.int .i64 0, .int .i64 0, .int .i64 0, .int .u64 0, .int .u64 0, .slice none 0 0] 40) := by rw [← hV, ← hX]; exact heap_new _ _
  have CN := Lib.hid (cnext_end (h.below bV))
  have HV := Lib.hid (And.intro bV rV)
  unfold accM at CN ⊢
  clear h bV rV
  go_enter Tryz.func262, Tryz.ntmps262
  go_wp2_with (fail)
  refine CN.out.mono ?_
  rintro e w1 ⟨rfl, hB⟩
  have rV := (hB.block X (Array.getElem?_eq_some_iff.1 HV.out.2).1).trans HV.out.2
  have b1 : Below w.heap.size w w1 := HV.out.1.trans (hB.mono HV.out.1.size)
  obtain ⟨d0, d1, d2, d3, d4, d5⟩ := blk6 rV
  have y0 := froz6 rV 0
  have y1 := froz6 rV 1
  have y2 := froz6 rV 2
  have y3 := froz6 rV 3
  have y4 := froz6 rV 4
  have y5 := froz6 rV 5
  obtain ⟨q1, q2⟩ := zero6_new hX b1 rV
  obtain ⟨k0, k1, k2, k3, k4, k5⟩ := blk6 q2
  have HQ := Lib.hid q1
  have HK := Lib.hid (And.intro k0 (And.intro k1 (And.intro k2 (And.intro k3 (And.intro k4 k5)))))
  clear hB rV b1 q1 q2 k0 k1 k2 k3 k4 k5
  go_wp2
  obtain ⟨k0, k1, k2, k3, k4, k5⟩ := HK.out
  unfold zero6 at k0 k1 k2 k3 k4 k5
  refine bodyPost_ret (by simp [results, Tryz.results262, go_sem, k0, k1, k2, k3, k4, k5]) rfl ⟨rfl, ?_⟩
  have hq := HQ.out
  unfold zero6 at hq
  rw [← hX]
  rw [← hX] at hq
  exact hq
end Go.Proofs.YtpbhfckefmboaaaGreatDoor.Ba
namespace Go.Proofs.YtpbhfckefmboaaaGreatDoor.Ba
open Go Go.RowKit Go.Lib Go.Base
theorem info_acc : (Tryz.prog.info? 40).map (fun i => (i.zero, i.size, i.bytes)) = some (some (.agg #[.int .i64 0, .int .i64 0, .int .i64 0, .int .u64 0, .int .u64 0, .slice none 0 0]), 6, 64) := by kernel_rfl
/-- an access as six cells -/
def stoC (x : Sto) : List Value := [.int .i64 2, .int .i64 x.1, .int .i64 x.2.1, .int .u64 x.2.2, .int .u64 0, .slice none 0 0]
/-- a variable that holds a row of stores -/
def TodoR (w : World) (T n0 : Nat) (L : List Sto) : Prop := n0 ≤ T ∧ ∃ v, w.heap[T]? = some (.cells #[v] 127) ∧ w.ownsRow n0 40 6 v L.length (L.flatMap stoC)
theorem own_ne {w : World} {T n0 n : Nat} {v u : Value} {xs : List Value} (h : w.ownsRow n0 40 6 v n xs) (ht : w.heap[T]? = some (.cells #[u] 127)) : v.ownBlock ≠ some T := by
  rcases h.2 with ⟨rfl, -⟩ | ⟨g, cap, cur, rfl, hg, ho, -⟩
  · intro e; cases e
  · intro e
    have : g = T := by simpa [Value.ownBlock] using e
    subst this
    rw [ht] at ho
    injection ho with ho
    injection ho with _ h2 _
    revert h2
    decide
theorem own_slc {w : World} {b : Nat} {e : TypeId} {size n : Nat} {v : Value} {xs : List Value} (h : w.ownsRow b e size v n xs) : ∃ a n c, v = .slice a n c := by
  rcases h.2 with ⟨rfl, -⟩ | ⟨g, cap, cur, rfl, -⟩
  · exact ⟨_, _, _, rfl⟩
  · exact ⟨_, _, _, rfl⟩
theorem own_at {w w' : World} {b : Nat} {e : TypeId} {size n : Nat} {v : Value} {xs : List Value} (h : w.ownsRow b e size v n xs) (hk : ∀ g, v.ownBlock = some g → w'.heap[g]? = w.heap[g]?) : w'.ownsRow b e size v n xs := by
  refine ⟨h.1, ?_⟩
  rcases h.2 with h2 | ⟨g, cap, cur, rfl, hg, ho, rest⟩
  · exact .inl h2
  · exact .inr ⟨g, cap, cur, rfl, hg, (hk g rfl).trans ho, rest⟩
set_option maxHeartbeats 3200000 in
set_option maxRecDepth 100000 in
theorem todo_add {w : World} {T n0 : Nat} {L : List Sto} (h : TodoR w T n0 L) (hL : L.length ≤ 100) (hn : n0 ≤ w.heap.size) (p n v : Int) :
    Calls Tryz.prog 52 #[.int .i64 p, .int .i64 n, .int .u64 v, .pointer (some ⟨T, 0, none⟩)] w fun e w' => e = .returned (.tuple #[]) ∧ Below n0 w w' ∧ TodoR w' T n0 (L ++ [(p, n, v)]) := by
  obtain ⟨i0, hi, hz0, hz1, hz2⟩ := info_parts info_acc
  obtain ⟨hT, s, ht, ho⟩ := h
  have k0 : w.cell? ⟨T, 0, none⟩ = some s := by simp [World.cell?, ht]
  have hlt := (Array.getElem?_eq_some_iff.1 ht).1
  have H := Lib.hid (And.intro ht ho)
  clear ht ho
  go_enter Tryz.func52, Tryz.ntmps52
  go_wp2_with (first
    | (at_builtin; refine wpList_append_own _ rfl _ _ 127 rfl n0 40 i0 _ 6 64 Tryz.underlying127 hi hz0 hz1 hz2 rfl (by decide) _ L.length _ rfl (H.out.2.alloc _) ⟨w.heap.size, 0, none⟩ 1 1 (stoC (p, n, v)) rfl rfl ?k1 ?k2 ?k3 ?k4 ?k5 ?_))
  case k1 =>
    intro j u hj
    rw [Addr.add_lit, Nat.zero_add]
    have hjl := (List.getElem?_eq_some_iff.1 hj).1
    simp only [World.cell?, heap_new]
    rcases j with _ | _ | _ | _ | _ | _ | j <;> first | exact hj | (simp [stoC] at hjl; omega)
  case k2 => intro u hu; simp [stoC] at hu; rcases hu with rfl | rfl | rfl | rfl | rfl | rfl <;> rfl
  case k3 => unfold maxLen; omega
  case k4 => omega
  case k5 => simp; omega
  intro s' w1 ho hg hs'
  have hal : Below w.heap.size w (w.alloc (.cells #[.int .i64 2, .int .i64 p, .int .i64 n, .int .u64 v, .int .u64 0, .slice none 0 0] 40)) := (Below.refl _ _).alloc (Nat.le_refl _) _
  have ht1 : w1.heap[T]? = some (.cells #[s] 127) := (hg.block T (by simp; omega) (fun e => own_ne H.out.2 H.out.1 e.symm)).trans ((hal.block T hlt).trans H.out.1)
  have bB : Below n0 w w1 := (hal.mono hn).grown hg (by simp; omega) (fun g hgo => (H.out.2.lt g hgo).1)
  have k1 : w1.cell? ⟨T, 0, none⟩ = some s := by simp [World.cell?, ht1]
  have z1 : w1.frozen? ⟨T, 0, none⟩ = false := by simp [World.frozen?, ht1]
  have H1 := Lib.hid (And.intro ht1 (And.intro bB ho))
  clear ho hg hs' hal ht1 bB k0
  obtain ⟨a, nn, cc, rfl⟩ : ∃ a nn cc, s' = .slice a nn cc := own_slc H1.out.2.2
  obtain ⟨a2, nn2, cc2, rfl⟩ : ∃ a nn cc, s = .slice a nn cc := own_slc H.out.2
  go_wp2
  go_end0
  refine ⟨rfl, below_set H1.out.2.1 hT, hT, .slice a nn cc, ?_, ?_⟩
  · exact set7 H1.out.1 0 _
  · rw [List.length_append, List.flatMap_append]
    have e : [((p, n, v) : Sto)].flatMap stoC = stoC (p, n, v) := by simp
    rw [e]
    refine own_at H1.out.2.2 fun g hgo => set_other fun e => ?_
    subst e
    exact own_ne H1.out.2.2 H1.out.1 hgo
end Go.Proofs.YtpbhfckefmboaaaGreatDoor.Ba
namespace Go.Proofs.YtpbhfckefmboaaaGreatDoor.Ba
open Go Go.RowKit Go.Lib Go.Base
theorem at_any (l : Lg) (h : l.ok) (n : Int) (w : World) :
    Calls Tryz.prog 50 #[l.val, .int .i64 n] w fun e w' => e = .returned (.int .i64 n) ∧ Below w.heap.size w w' := by
  have c := fun W => check_ok l h W
  clear h
  obtain ⟨base, term, mtu, subs, ini, ses, str⟩ := l
  unfold Lg.val at c ⊢
  dsimp only at c ⊢
  have HS := Lib.hid (show Below w.heap.size w (w.alloc (.cells #[.int .i64 base, .int .i64 term, .int .i64 mtu, .int .i64 subs, .int .i32 ini, .int .i32 ses, .int .i32 str] 23)) ∧ (w.alloc (.cells #[.int .i64 base, .int .i64 term, .int .i64 mtu, .int .i64 subs, .int .i32 ini, .int .i32 ses, .int .i32 str] 23)).heap.size = w.heap.size + 1 from ⟨(Below.refl _ _).alloc (Nat.le_refl _) _, by simp⟩)
  go_enter Tryz.func50, Tryz.ntmps50
  go_wp2_with (go_at_call 49; refine (c _).mono ?_; clear c; rintro e w1 ⟨rfl, hB⟩; have HB := Lib.hid hB; clear hB)
  go_ret
  exact ⟨by first | rfl | simp, HS.out.1.trans (HB.out.mono (by have := HS.out.2; omega))⟩
set_option maxRecDepth 1000000 in
set_option maxHeartbeats 3200000 in
theorem subAt_any (l : Lg) (h : l.ok) (p : Int) (h0 : 0 ≤ p) (h1 : p < l.subs) (w : World) :
    Calls Tryz.prog 59 #[l.val, .int .i64 p] w fun e w' => e = .returned (.int .i64 (l.base + 3 * l.term + 48 + p * 8)) ∧ Below w.heap.size w w' := by
  have hb := h.bounds
  have c1 := fun W => numbers_any l h W
  have c2 := fun W => one_any l h (l.base + 3 * l.term + 48) p l.subs 8 h0 h1 (by omega) (by omega) (by omega) (by omega) (by omega) W
  clear h
  obtain ⟨base, term, mtu, subs, ini, ses, str⟩ := l
  unfold Lg.val at c1 c2 ⊢
  dsimp only at *
  obtain ⟨m, hm⟩ : ∃ m, base + 3 * term = m := ⟨_, rfl⟩
  have hmb : 0 ≤ m ∧ m ≤ 160000 := by omega
  have kw : IntKind.i64.wrap (m + 48) = m + 48 := wrap_small _ (by omega) (by omega)
  rw [hm] at c1 c2 ⊢
  obtain ⟨W1, hW1⟩ : ∃ W1, w.alloc (.cells #[.int .i64 base, .int .i64 term, .int .i64 mtu, .int .i64 subs, .int .i32 ini, .int .i32 ses, .int .i32 str] 23) = W1 := ⟨_, rfl⟩
  obtain ⟨A, hA⟩ : ∃ A, w.heap.size = A := ⟨_, rfl⟩
  have u0 : W1.heap[A]? = some (.cells #[.int .i64 base, .int .i64 term, .int .i64 mtu, .int .i64 subs, .int .i32 ini, .int .i32 ses, .int .i32 str] 23 (0, 0)) := by rw [← hW1, ← hA]; exact heap_new _ _
  have u1 : Below A w W1 := by rw [← hW1, ← hA]; exact (Below.refl _ _).alloc (Nat.le_refl _) _
  have u2 : W1.heap.size = A + 1 := by rw [← hW1]; simp [hA]
  have HU := Lib.hid (And.intro u0 (And.intro u1 u2))
  obtain ⟨m0, m1, m2, m3, m4, m5, m6⟩ := blk7 u0
  clear u0 u1 u2 hm
  go_enter Tryz.func59, Tryz.ntmps59
  go_wp2_with fail
  go_region_with
  (first
    | (go_at_call 90
       refine (c1 _).mono ?_
       clear c1
       rintro e w2 ⟨rfl, hB1⟩
       have v0 := (hB1.block A (by have := HU.out.2.2; simp; omega)).trans HU.out.1
       obtain ⟨n0, n1, n2, n3, n4, n5, n6⟩ := blk7 v0
       have HV := Lib.hid (And.intro (HU.out.2.1.drew.trans (hB1.mono (by have := HU.out.2.2; simp; omega))) (show A + 1 ≤ w2.heap.size from Nat.le_trans (Nat.le_of_eq HU.out.2.2.symm) hB1.size))
       clear hB1 v0)
    | (go_at_call 89
       refine (c2 _).mono ?_
       clear c2
       rintro e w3 ⟨rfl, hB2⟩
       have HQ := Lib.hid (HV.out.1.trans (hB2.mono (by have := HV.out.2; first | omega | (simp; omega))))
       clear hB2))
  all_goals go_wp2
  all_goals go_ret
  all_goals refine ⟨by first | rfl | simp, ?_⟩
  all_goals (try rw [hA])
  all_goals exact HQ.out
set_option maxRecDepth 1000000 in
set_option maxHeartbeats 3200000 in
theorem activeAt_any (l : Lg) (h : l.ok)  (w : World) :
    Calls Tryz.prog 55 #[l.val] w fun e w' => e = .returned (.int .i64 (l.base + 3 * l.term + 24)) ∧ Below w.heap.size w w' := by
  have hb := h.bounds
  have c1 := fun W => numbers_any l h W
  have c2 := fun W => at_any l h (l.base + 3 * l.term + 24) W
  clear h
  obtain ⟨base, term, mtu, subs, ini, ses, str⟩ := l
  unfold Lg.val at c1 c2 ⊢
  dsimp only at *
  obtain ⟨m, hm⟩ : ∃ m, base + 3 * term = m := ⟨_, rfl⟩
  have hmb : 0 ≤ m ∧ m ≤ 160000 := by omega
  have kw : IntKind.i64.wrap (m + 24) = m + 24 := wrap_small _ (by omega) (by omega)
  rw [hm] at c1 c2 ⊢
  obtain ⟨W1, hW1⟩ : ∃ W1, w.alloc (.cells #[.int .i64 base, .int .i64 term, .int .i64 mtu, .int .i64 subs, .int .i32 ini, .int .i32 ses, .int .i32 str] 23) = W1 := ⟨_, rfl⟩
  obtain ⟨A, hA⟩ : ∃ A, w.heap.size = A := ⟨_, rfl⟩
  have u0 : W1.heap[A]? = some (.cells #[.int .i64 base, .int .i64 term, .int .i64 mtu, .int .i64 subs, .int .i32 ini, .int .i32 ses, .int .i32 str] 23 (0, 0)) := by rw [← hW1, ← hA]; exact heap_new _ _
  have u1 : Below A w W1 := by rw [← hW1, ← hA]; exact (Below.refl _ _).alloc (Nat.le_refl _) _
  have u2 : W1.heap.size = A + 1 := by rw [← hW1]; simp [hA]
  have HU := Lib.hid (And.intro u0 (And.intro u1 u2))
  obtain ⟨m0, m1, m2, m3, m4, m5, m6⟩ := blk7 u0
  clear u0 u1 u2 hm
  go_enter Tryz.func55, Tryz.ntmps55
  go_wp2_with fail
  go_region_with
  (first
    | (go_at_call 90
       refine (c1 _).mono ?_
       clear c1
       rintro e w2 ⟨rfl, hB1⟩
       have v0 := (hB1.block A (by have := HU.out.2.2; simp; omega)).trans HU.out.1
       obtain ⟨n0, n1, n2, n3, n4, n5, n6⟩ := blk7 v0
       have HV := Lib.hid (And.intro (HU.out.2.1.drew.trans (hB1.mono (by have := HU.out.2.2; simp; omega))) (show A + 1 ≤ w2.heap.size from Nat.le_trans (Nat.le_of_eq HU.out.2.2.symm) hB1.size))
       clear hB1 v0)
    | (go_at_call 50
       refine (c2 _).mono ?_
       clear c2
       rintro e w3 ⟨rfl, hB2⟩
       have HQ := Lib.hid (HV.out.1.trans (hB2.mono (by have := HV.out.2; first | omega | (simp; omega))))
       clear hB2))
  all_goals go_wp2
  all_goals go_ret
  all_goals refine ⟨by first | rfl | simp, ?_⟩
  all_goals (try rw [hA])
  all_goals exact HQ.out
set_option maxRecDepth 1000000 in
set_option maxHeartbeats 3200000 in
theorem limitAt_any (l : Lg) (h : l.ok)  (w : World) :
    Calls Tryz.prog 56 #[l.val] w fun e w' => e = .returned (.int .i64 (l.base + 3 * l.term + 32)) ∧ Below w.heap.size w w' := by
  have hb := h.bounds
  have c1 := fun W => numbers_any l h W
  have c2 := fun W => at_any l h (l.base + 3 * l.term + 32) W
  clear h
  obtain ⟨base, term, mtu, subs, ini, ses, str⟩ := l
  unfold Lg.val at c1 c2 ⊢
  dsimp only at *
  obtain ⟨m, hm⟩ : ∃ m, base + 3 * term = m := ⟨_, rfl⟩
  have hmb : 0 ≤ m ∧ m ≤ 160000 := by omega
  have kw : IntKind.i64.wrap (m + 32) = m + 32 := wrap_small _ (by omega) (by omega)
  rw [hm] at c1 c2 ⊢
  obtain ⟨W1, hW1⟩ : ∃ W1, w.alloc (.cells #[.int .i64 base, .int .i64 term, .int .i64 mtu, .int .i64 subs, .int .i32 ini, .int .i32 ses, .int .i32 str] 23) = W1 := ⟨_, rfl⟩
  obtain ⟨A, hA⟩ : ∃ A, w.heap.size = A := ⟨_, rfl⟩
  have u0 : W1.heap[A]? = some (.cells #[.int .i64 base, .int .i64 term, .int .i64 mtu, .int .i64 subs, .int .i32 ini, .int .i32 ses, .int .i32 str] 23 (0, 0)) := by rw [← hW1, ← hA]; exact heap_new _ _
  have u1 : Below A w W1 := by rw [← hW1, ← hA]; exact (Below.refl _ _).alloc (Nat.le_refl _) _
  have u2 : W1.heap.size = A + 1 := by rw [← hW1]; simp [hA]
  have HU := Lib.hid (And.intro u0 (And.intro u1 u2))
  obtain ⟨m0, m1, m2, m3, m4, m5, m6⟩ := blk7 u0
  clear u0 u1 u2 hm
  go_enter Tryz.func56, Tryz.ntmps56
  go_wp2_with fail
  go_region_with
  (first
    | (go_at_call 90
       refine (c1 _).mono ?_
       clear c1
       rintro e w2 ⟨rfl, hB1⟩
       have v0 := (hB1.block A (by have := HU.out.2.2; simp; omega)).trans HU.out.1
       obtain ⟨n0, n1, n2, n3, n4, n5, n6⟩ := blk7 v0
       have HV := Lib.hid (And.intro (HU.out.2.1.drew.trans (hB1.mono (by have := HU.out.2.2; simp; omega))) (show A + 1 ≤ w2.heap.size from Nat.le_trans (Nat.le_of_eq HU.out.2.2.symm) hB1.size))
       clear hB1 v0)
    | (go_at_call 50
       refine (c2 _).mono ?_
       clear c2
       rintro e w3 ⟨rfl, hB2⟩
       have HQ := Lib.hid (HV.out.1.trans (hB2.mono (by have := HV.out.2; first | omega | (simp; omega))))
       clear hB2))
  all_goals go_wp2
  all_goals go_ret
  all_goals refine ⟨by first | rfl | simp, ?_⟩
  all_goals (try rw [hA])
  all_goals exact HQ.out
set_option maxRecDepth 1000000 in
set_option maxHeartbeats 3200000 in
theorem cleanAt_any (l : Lg) (h : l.ok)  (w : World) :
    Calls Tryz.prog 58 #[l.val] w fun e w' => e = .returned (.int .i64 (l.base + 3 * l.term + 40)) ∧ Below w.heap.size w w' := by
  have hb := h.bounds
  have c1 := fun W => numbers_any l h W
  have c2 := fun W => at_any l h (l.base + 3 * l.term + 40) W
  clear h
  obtain ⟨base, term, mtu, subs, ini, ses, str⟩ := l
  unfold Lg.val at c1 c2 ⊢
  dsimp only at *
  obtain ⟨m, hm⟩ : ∃ m, base + 3 * term = m := ⟨_, rfl⟩
  have hmb : 0 ≤ m ∧ m ≤ 160000 := by omega
  have kw : IntKind.i64.wrap (m + 40) = m + 40 := wrap_small _ (by omega) (by omega)
  rw [hm] at c1 c2 ⊢
  obtain ⟨W1, hW1⟩ : ∃ W1, w.alloc (.cells #[.int .i64 base, .int .i64 term, .int .i64 mtu, .int .i64 subs, .int .i32 ini, .int .i32 ses, .int .i32 str] 23) = W1 := ⟨_, rfl⟩
  obtain ⟨A, hA⟩ : ∃ A, w.heap.size = A := ⟨_, rfl⟩
  have u0 : W1.heap[A]? = some (.cells #[.int .i64 base, .int .i64 term, .int .i64 mtu, .int .i64 subs, .int .i32 ini, .int .i32 ses, .int .i32 str] 23 (0, 0)) := by rw [← hW1, ← hA]; exact heap_new _ _
  have u1 : Below A w W1 := by rw [← hW1, ← hA]; exact (Below.refl _ _).alloc (Nat.le_refl _) _
  have u2 : W1.heap.size = A + 1 := by rw [← hW1]; simp [hA]
  have HU := Lib.hid (And.intro u0 (And.intro u1 u2))
  obtain ⟨m0, m1, m2, m3, m4, m5, m6⟩ := blk7 u0
  clear u0 u1 u2 hm
  go_enter Tryz.func58, Tryz.ntmps58
  go_wp2_with fail
  go_region_with
  (first
    | (go_at_call 90
       refine (c1 _).mono ?_
       clear c1
       rintro e w2 ⟨rfl, hB1⟩
       have v0 := (hB1.block A (by have := HU.out.2.2; simp; omega)).trans HU.out.1
       obtain ⟨n0, n1, n2, n3, n4, n5, n6⟩ := blk7 v0
       have HV := Lib.hid (And.intro (HU.out.2.1.drew.trans (hB1.mono (by have := HU.out.2.2; simp; omega))) (show A + 1 ≤ w2.heap.size from Nat.le_trans (Nat.le_of_eq HU.out.2.2.symm) hB1.size))
       clear hB1 v0)
    | (go_at_call 50
       refine (c2 _).mono ?_
       clear c2
       rintro e w3 ⟨rfl, hB2⟩
       have HQ := Lib.hid (HV.out.1.trans (hB2.mono (by have := HV.out.2; first | omega | (simp; omega))))
       clear hB2))
  all_goals go_wp2
  all_goals go_ret
  all_goals refine ⟨by first | rfl | simp, ?_⟩
  all_goals (try rw [hA])
  all_goals exact HQ.out
set_option maxRecDepth 1000000 in
set_option maxHeartbeats 3200000 in
theorem partAt_any (l : Lg) (h : l.ok) (p : Int) (h0 : 0 ≤ p) (h1 : p < 3) (w : World) :
    Calls Tryz.prog 120 #[l.val, .int .i64 p] w fun e w' => e = .returned (.int .i64 (l.base + p * l.term)) ∧ Below w.heap.size w w' := by
  have hb := h.bounds
  have c2 := fun W => one_any l h l.base p 3 l.term h0 h1 (by omega) (by omega) (by omega) (by omega) (by omega) W
  clear h
  obtain ⟨base, term, mtu, subs, ini, ses, str⟩ := l
  unfold Lg.val at c2 ⊢
  dsimp only at *
  have HS := Lib.hid (show Below w.heap.size w (w.alloc (.cells #[.int .i64 base, .int .i64 term, .int .i64 mtu, .int .i64 subs, .int .i32 ini, .int .i32 ses, .int .i32 str] 23)) ∧ (w.alloc (.cells #[.int .i64 base, .int .i64 term, .int .i64 mtu, .int .i64 subs, .int .i32 ini, .int .i32 ses, .int .i32 str] 23)).heap.size = w.heap.size + 1 from ⟨(Below.refl _ _).alloc (Nat.le_refl _) _, by simp⟩)
  go_enter Tryz.func120, Tryz.ntmps120
  go_wp2_with (go_at_call 89; refine (c2 _).mono ?_; clear c2; rintro e w1 ⟨rfl, hB⟩; have HB := Lib.hid hB; clear hB)
  go_ret
  exact ⟨by first | rfl | simp, HS.out.1.trans (HB.out.mono (by have := HS.out.2; omega))⟩
end Go.Proofs.YtpbhfckefmboaaaGreatDoor.Ba
namespace Go.Pr
/-- an access: kind, place, bytes, value, second value, what is written -/
structure Acc where
  k : Int
  at_ : Int
  n : Int
  v : Int
  w : Int
  b : List Nat
/-- A: what an access tells; O: what the machine tells of itself -/
inductive Pr (A O : Type) where
  | done (o : O)
  | ask (o : O) (a : Acc) (k : A → Pr A O)
variable {A O O' : Type}
namespace Pr
def obs : Pr A O → O
  | .done o => o
  | .ask o _ _ => o
def want : Pr A O → Option Acc
  | .done _ => none
  | .ask _ a _ => some a
/-- behind so many answers; one that is at its end stays there -/
def run : Pr A O → List A → Pr A O
  | p, [] => p
  | .done o, _ :: _ => .done o
  | .ask _ _ k, x :: l => (k x).run l
/-- the answers that are left when it is at its end -/
def left : Pr A O → List A → List A
  | .done _, l => l
  | .ask _ _ _, [] => []
  | .ask _ _ k, x :: l => (k x).left l
theorem run_nil (p : Pr A O) : p.run [] = p := by cases p <;> rfl
theorem run_done (o : O) : ∀ l : List A, (Pr.done o).run l = .done o
  | [] => rfl
  | _ :: _ => rfl
theorem run_append : ∀ (p : Pr A O) (l m : List A), p.run (l ++ m) = (p.run l).run m
  | p, [], m => by rw [List.nil_append, run_nil]
  | .done o, x :: l, m => by rw [run_done, run_done, run_done]
  | .ask _ _ k, x :: l, m => by
    show (k x).run (l ++ m) = ((k x).run l).run m
    exact run_append (k x) l m
/-- one behind the other: f tells of the first one while it waits -/
def bind (p : Pr A O) (f : O → O') (g : O → Pr A O') : Pr A O' :=
  match p with
  | .done o => g o
  | .ask o a k => .ask (f o) a (fun x => (k x).bind f g)
/-- how a bind runs -/
theorem bind_run (f : O → O') (g : O → Pr A O') : ∀ (l : List A) (p : Pr A O), (∃ o, p.run l = .done o ∧ (p.bind f g).run l = (g o).run (p.left l)) ∨ (∃ o a k, p.run l = .ask o a k ∧ (p.bind f g).run l = .ask (f o) a (fun x => (k x).bind f g) ∧ p.left l = [])
  | [], .done o => .inl ⟨o, rfl, by simp [bind, left]⟩
  | [], .ask o a k => .inr ⟨o, a, k, rfl, rfl, rfl⟩
  | x :: l, .done o => .inl ⟨o, rfl, by simp [bind, left]⟩
  | x :: l, .ask o a k => by
    have := bind_run f g l (k x)
    exact this
theorem left_le : ∀ (l : List A) (p : Pr A O), (p.left l).length ≤ l.length
  | [], .done _ => Nat.le_refl _
  | [], .ask .. => Nat.le_refl _
  | _ :: _, .done _ => Nat.le_refl _
  | x :: l, .ask _ _ k => by
    have := left_le l (k x)
    show ((k x).left l).length ≤ _
    simp; omega
/-- what is left is the answers' end -/
theorem left_drop : ∀ (l : List A) (p : Pr A O), p.left l = l.drop (l.length - (p.left l).length)
  | [], .done _ => rfl
  | [], .ask .. => rfl
  | x :: l, .done _ => by simp [left]
  | x :: l, .ask _ _ k => by
    have h := left_drop l (k x)
    have h2 := left_le l (k x)
    show (k x).left l = (x :: l).drop ((x :: l).length - ((k x).left l).length)
    rw [show (x :: l).length - ((k x).left l).length = (l.length - ((k x).left l).length) + 1 by simp; omega, List.drop_succ_cons]
    exact h
end Pr
end Go.Pr
