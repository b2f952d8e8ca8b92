/- The program's Frames, where a log is there. -/
import Derived.Test.YtndgbfpcnkmihaaGreatDoorFrW
import Derived.RangeFuncNested
import Derived.RangeFuncBound
import Derived.RangeFuncCalls
import Derived.RangeFuncLeaves
import Derived.Shelf.Abstract
import Derived.Shelf.RegionOpen
import Derived.WalkKit
import Derived.OwnWalkIn
import Derived.TacticsInMore
import Derived.LoopNIn
import Derived.LoopIn
import Derived.Maps.AppendAt
namespace Go.Proofs.YtndgbfpcnkmihaaGreatDoor.Sy
open Go Go.RowKit Go.Lib Go.Base Go.Proofs.YtndgbfpcnkmihaaGreatDoor.Ba Go.Proofs.YtndgbfpcnkmihaaGreatDoor
attribute [local go_sem] Oper.semAt_some
theorem walk28 (ba : Option Addr) (bn bc : Nat) (l : Lg) (p : Int) (w : World) : Calls Tryz.prog 28 #[.slice ba bn bc, .agg #[.int .i64 l.base, .int .i64 l.term, .int .i64 l.mtu, .int .i64 l.subs, .int .i32 l.ini, .int .i32 l.ses, .int .i32 l.str], .int .i64 p] w fun e w' =>
    e = .returned (.func (.func 54) #[] #[.pointer (some ⟨w.heap.size, 0, none⟩), .pointer (some ⟨w.heap.size + 1, 0, none⟩), .pointer (some ⟨w.heap.size + 2, 0, none⟩)]) ∧
    w' = ((w.alloc (.cells #[.slice ba bn bc] 22)).alloc (.cells #[.int .i64 l.base, .int .i64 l.term, .int .i64 l.mtu, .int .i64 l.subs, .int .i32 l.ini, .int .i32 l.ses, .int .i32 l.str] 24)).alloc (.cells #[.int .i64 p] 3) := by
  go_enter Tryz.func28, Tryz.ntmps28
  go_wp2
  go_ret
  exact ⟨rfl, rfl⟩
theorem walk_stops (l : Lg) (hl : l.ok) (B : Nat → Nat) (hB : ∀ j, B j < 256) (bb bo bn bc : Nat) (hcap : bn ≤ bc) (hbn : bn < 4611686018427387904) (hth : l.there bn) (p : Int) (hp0 : 0 ≤ p) (hp3 : p < 3) (Bb Bl Bp m : Nat) (W : World) (hbb : bb < W.heap.size) (hC : Caught W Bb Bl Bp l p bb bo bn bc W.heap.size) (hr : ReadsB W bb bo bn B) :
    SeqStopsK Fence.wide m Tryz.prog 54 #[.pointer (some ⟨Bb, 0, none⟩), .pointer (some ⟨Bl, 0, none⟩), .pointer (some ⟨Bp, 0, none⟩)] (fun x : Sn => #[.agg #[.int .i64 x.part, .int .i64 x.off, .int .i32 x.len, .int .u8 x.r3, .int .u8 x.r4, .int .u16 x.r5, .int .i32 x.r6, .int .i32 x.r7, .int .i32 x.r8, .int .i32 x.r9, .int .u64 x.r10, .int .i64 x.state]]) (KW Bb Bl Bp bb) (fun xs => xs = wkF l B p 300 0) (fun _ => True) 300 W :=
  fun ll J Jx W' hW hJ _hJx hY h0 => callsIn_wide.2 (walk54 l hl B hB bb bo bn bc hcap hbn hth p hp0 hp3 Bb Bl Bp W.heap.size hbb ll m J Jx W' hW.size hJ (hC.below hW) (hr.below hbb hW) hY h0)
theorem KW.put {Bb Bl Bp bb s : Nat} (W : World) (k : Nat) (o o' : Obj) (hk : s ≤ k) (_h : W.heap[k]? = some o) (hb : Bb < s) (hl : Bl < s) (hp : Bp < s) (hy : bb < s) : KW Bb Bl Bp bb W (W.putObj k o') :=
  ⟨(grownBy_putObj' W k o').size, World.putObj_heap_other (by omega), World.putObj_heap_other (by omega), World.putObj_heap_other (by omega), World.putObj_heap_other (by omega)⟩
theorem block_appended {W w1 : World} {n₀ Bo k n : Nat} {c : Array Value} {t : TypeId} {v : Value} {xs : List Value} {tmp : Obj} (hk : W.heap[k]? = some (.cells c t (0, 0))) (hte : t ≠ 42) (hrow : W.ownsRow n₀ 42 12 v n xs) (hgrow : (W.alloc tmp).grownBy w1 v.ownBlock) (hB : k ≠ Bo) (u : Value) :
    (w1.setCell ⟨Bo, 0, none⟩ u).heap[k]? = W.heap[k]? := by
  obtain ⟨hlt, _⟩ := Array.getElem?_eq_some_iff.1 hk
  refine (Below.heap_setCell w1 ⟨Bo, 0, none⟩ u k hB).trans ((hgrow.block k (by simp; omega) ?_).trans (Below.heap_alloc W tmp k hlt))
  rcases hrow.2 with ⟨rfl, _⟩ | ⟨g, cap, cur, rfl, _, hgb, _⟩
  · simp [Value.ownBlock]
  · intro e
    obtain rfl : k = g := by simpa [Value.ownBlock] using e
    rw [hgb] at hk
    cases hk
    exact hte rfl
theorem caught_own (Bb Bl Bp : Nat) (l : Lg) (p : Int) (bb bo bn bc n0 s : Nat) : OwnFrom s (fun (_ : List Sn) W => Caught W Bb Bl Bp l p bb bo bn bc n0) := fun _ X Y row hs hg hr => by
  have key : ∀ {k : Nat} {c : Array Value} {t : TypeId}, X.heap[k]? = some (.cells c t (0, 0)) → Y.heap[k]? = some (.cells c t (0, 0)) := fun {k c t} hk => by
    refine (hg.block k (Array.getElem?_eq_some_iff.1 hk).1 (fun e => ?_)).trans hk
    obtain ⟨_, o, ho, hc⟩ := hr k e.symm
    rw [hk] at ho; cases ho; cases hc
  exact ⟨key hs.b, key hs.l, key hs.p, hs.lb, hs.ll, hs.lp⟩
/-- earlier loops' blocks for deferred calls lie as they lay -/
def Marks (Ds : List Nat) (s : Nat) (W : World) : Prop := ∀ D ∈ Ds, D < s ∧ W.heap[D]? = some (.deferred (some []))
theorem marks_own (Ds : List Nat) (s : Nat) : OwnFrom s (fun (_ : List Sn) W => Marks Ds s W) := fun _ X Y row hs hg hr D hD => by
  obtain ⟨h1, h2⟩ := hs D hD
  exact ⟨h1, (hg.block D (Array.getElem?_eq_some_iff.1 h2).1 (fun e => by have := (hr D e.symm).1; omega)).trans h2⟩
theorem Marks.kept {Ds : List Nat} {s : Nat} {W W' : World} (h : Marks Ds s W) (k : KeepsOthers W W') : Marks Ds s W' := fun D hD => ⟨(h D hD).1, k.same D _ (h D hD).2 rfl⟩
def asg8 : Code := Code.region 8
  #[{ dst := some 8, op := Op.alloc 42, type := 0, pos := "inspect.go:83", after := #[], guard := none },
    { dst := none, op := Op.store 42 (Operand.tmp 8) (Operand.tmp 20), type := 0, pos := "inspect.go:83", after := #[{ on := 0, ground := Ground.data }, { on := 0, ground := Ground.phase }], guard := none }]
  false
def bod8 : Code := Code.block 3 (Code.region 9
  #[{ dst := some 21, op := Op.load 35 (Operand.tmp 6), type := 35, pos := "inspect.go:84", after := #[], guard := none },
    { dst := some 22, op := Op.load 42 (Operand.tmp 8), type := 42, pos := "inspect.go:84", after := #[], guard := none },
    { dst := some 23, op := Op.buildSlice 35 1 #[(0, Operand.tmp 22)], type := 35, pos := "inspect.go:84", after := #[{ on := 1, ground := Ground.data }], guard := none },
    { dst := some 24, op := Op.call { callee := Callee.builtin Builtin.append, args := #[Operand.tmp 21, Operand.tmp 23], argTypes := #[35, 35] }, type := 35, pos := "inspect.go:84", after := #[{ on := 0, ground := Ground.data }, { on := 2, ground := Ground.data }], guard := none },
    { dst := none, op := Op.store 35 (Operand.tmp 6) (Operand.tmp 24), type := 0, pos := "inspect.go:84", after := #[{ on := 3, ground := Ground.data }, { on := 3, ground := Ground.chain }, { on := 0, ground := Ground.phase }, { on := 1, ground := Ground.phase }, { on := 2, ground := Ground.phase }, { on := 3, ground := Ground.phase }], guard := none }]
  false)
set_option maxHeartbeats 6400000 in
set_option maxRecDepth 1000000 in
theorem range8 (l : Lg) (hl : l.ok) (B : Nat → Nat) (hB : ∀ j, B j < 256) (bb bo bn bc : Nat) (hcap : bn ≤ bc) (hbn : bn < 4611686018427387904) (hth : l.there bn) (p : Int) (hp0 : 0 ≤ p) (hp3 : p < 3) (Bb Bl Bp A Bo : Nat) (ps : List Sn) (hps : ps.length ≤ 700) (u8 u20 u21 u22 u23 u24 u25 u26 : Value) (ds : List Deferred) (Ds : List Nat) (Q : Exit → Act → World → Prop) (w W : World)
    (hbb : bb < A) (hAo : A < Bo) (hW : A + 1 ≤ W.heap.size) (hC : Caught W Bb Bl Bp l p bb bo bn bc W.heap.size) (hr : ReadsB W bb bo bn B) (hI : ∃ v, Boxed W Bo 35 v ∧ W.ownsRow (A + 1) 42 12 v ps.length (rowS ps)) (hD : Marks Ds W.heap.size W) (hnw : A + 1 ≤ w.heap.size) (hBw : Below (A + 1) w W)
    (hdone : ∀ D W', W.heap.size ≤ D → (∃ v, Boxed W' Bo 35 v ∧ W'.ownsRow (A + 1) 42 12 v (ps ++ wkF l B p 300 0).length (rowS (ps ++ wkF l B p 300 0))) → Marks Ds W.heap.size W' → Below (A + 1) w W' → W'.heap[D]? = some (.deferred (some [])) → Q .normal { tmps := #[Value.slice (some ⟨bb, bo, none⟩) bn bc, Value.agg #[.int .i64 l.base, .int .i64 l.term, .int .i64 l.mtu, .int .i64 l.subs, .int .i32 l.ini, .int .i32 l.ses, .int .i32 l.str], undef, .pointer (some ⟨A, 0, none⟩), .slice none 0 0, .int .i64 0, .pointer (some ⟨Bo, 0, none⟩), .int .i64 p, u8, Value.slice (some ⟨bb, bo, none⟩) bn bc, Value.agg #[.int .i64 l.base, .int .i64 l.term, .int .i64 l.mtu, .int .i64 l.subs, .int .i32 l.ini, .int .i32 l.ses, .int .i32 l.str], .bool true, .bool false, .int .i64 p, .bool true, .int .i64 p, Value.slice (some ⟨bb, bo, none⟩) bn bc, Value.agg #[.int .i64 l.base, .int .i64 l.term, .int .i64 l.mtu, .int .i64 l.subs, .int .i32 l.ini, .int .i32 l.ses, .int .i32 l.str], .int .i64 p, Value.func (.func 54) #[] #[.pointer (some ⟨Bb, 0, none⟩), .pointer (some ⟨Bl, 0, none⟩), .pointer (some ⟨Bp, 0, none⟩)], u20, u21, u22, u23, u24, u25, u26], defers := ({ target := .collected D, args := #[] } : Deferred) :: ds } W') :
    (Code.rangeFunc (Operand.tmp 19) #[20] asg8 bod8).wpIn Fence.wide 12 Tryz.prog Q { tmps := #[Value.slice (some ⟨bb, bo, none⟩) bn bc, Value.agg #[.int .i64 l.base, .int .i64 l.term, .int .i64 l.mtu, .int .i64 l.subs, .int .i32 l.ini, .int .i32 l.ses, .int .i32 l.str], undef, .pointer (some ⟨A, 0, none⟩), .slice none 0 0, .int .i64 0, .pointer (some ⟨Bo, 0, none⟩), .int .i64 p, u8, Value.slice (some ⟨bb, bo, none⟩) bn bc, Value.agg #[.int .i64 l.base, .int .i64 l.term, .int .i64 l.mtu, .int .i64 l.subs, .int .i32 l.ini, .int .i32 l.ses, .int .i32 l.str], .bool true, .bool false, .int .i64 p, .bool true, .int .i64 p, Value.slice (some ⟨bb, bo, none⟩) bn bc, Value.agg #[.int .i64 l.base, .int .i64 l.term, .int .i64 l.mtu, .int .i64 l.subs, .int .i32 l.ini, .int .i32 l.ses, .int .i32 l.str], .int .i64 p, Value.func (.func 54) #[] #[.pointer (some ⟨Bb, 0, none⟩), .pointer (some ⟨Bl, 0, none⟩), .pointer (some ⟨Bp, 0, none⟩)], u20, u21, u22, u23, u24, u25, u26], defers := ds } W := by
  have hbb' : bb < W.heap.size := by omega
  have hFk : ∀ k : Nat, Fence.wide.fn k := fun _ => trivial
  have hFd : Fence.wide.depth = none := rfl
  obtain ⟨i0, hi, hz0, hz1, hz2⟩ := info_parts Tryz.info42
  refine wpIn_rangeFunc_ownH rfl (by decide) (gf := 54) (lb := #[.pointer (some ⟨Bb, 0, none⟩), .pointer (some ⟨Bl, 0, none⟩), .pointer (some ⟨Bp, 0, none⟩)]) rfl trivial (enters_of Tryz.func54 (by kernel_rfl) rfl)
    (walk_stops l hl B hB bb bo bn bc hcap hbn hth p hp0 hp3 Bb Bl Bp _ W hbb' hC hr) (fun h k => h.trans k) (fun W' k o o' hk h _ _ => KW.put W' k o o' hk h hC.lb hC.ll hC.lp hbb') (Below.refl _ _) (fun _ => rfl)
    (fun pre W' => (∃ v, Boxed W' Bo 35 v ∧ W'.ownsRow (A + 1) 42 12 v (ps ++ pre).length (rowS (ps ++ pre)) ∧ True) ∧ (Caught W' Bb Bl Bp l p bb bo bn bc W.heap.size ∧ (Marks Ds W.heap.size W' ∧ Below (A + 1) w W')))
    (fun _ _ _ => False)
    (OwnFrom.and (Own.from (holdsRow_own (A + 1) Bo 35 42 12 (fun pre => (ps ++ pre).length) (fun pre => rowS (ps ++ pre)) (fun _ _ => True)) _) (OwnFrom.and (caught_own _ _ _ _ _ _ _ _ _ _ _) (OwnFrom.and (marks_own _ _) (fun s X Y row hs hg hr => hs.grown hg (Nat.le_trans hnw hs.size) (fun k e => by have := (hr k e).1; omega)))))
    (fun _ _ _ _ _ hs _ _ => hs)
    (by rw [List.append_nil]; obtain ⟨v, h1, h2⟩ := hI; exact ⟨⟨v, h1, h2, trivial⟩, hC, hD, hBw⟩)
    (fun x a' W' => ∃ Bx, W'.heap[Bx]? = some (.cells #[.int .i64 x.part, .int .i64 x.off, .int .i32 x.len, .int .u8 x.r3, .int .u8 x.r4, .int .u16 x.r5, .int .i32 x.r6, .int .i32 x.r7, .int .i32 x.r8, .int .i32 x.r9, .int .u64 x.r10, .int .i64 x.state] 42) ∧ a' = { tmps := #[Value.slice (some ⟨bb, bo, none⟩) bn bc, Value.agg #[.int .i64 l.base, .int .i64 l.term, .int .i64 l.mtu, .int .i64 l.subs, .int .i32 l.ini, .int .i32 l.ses, .int .i32 l.str], undef, .pointer (some ⟨A, 0, none⟩), .slice none 0 0, .int .i64 0, .pointer (some ⟨Bo, 0, none⟩), .int .i64 p, .pointer (some ⟨Bx, 0, none⟩), Value.slice (some ⟨bb, bo, none⟩) bn bc, Value.agg #[.int .i64 l.base, .int .i64 l.term, .int .i64 l.mtu, .int .i64 l.subs, .int .i32 l.ini, .int .i32 l.ses, .int .i32 l.str], .bool true, .bool false, .int .i64 p, .bool true, .int .i64 p, Value.slice (some ⟨bb, bo, none⟩) bn bc, Value.agg #[.int .i64 l.base, .int .i64 l.term, .int .i64 l.mtu, .int .i64 l.subs, .int .i32 l.ini, .int .i32 l.ses, .int .i32 l.str], .int .i64 p, Value.func (.func 54) #[] #[.pointer (some ⟨Bb, 0, none⟩), .pointer (some ⟨Bl, 0, none⟩), .pointer (some ⟨Bp, 0, none⟩)], .agg #[.int .i64 x.part, .int .i64 x.off, .int .i32 x.len, .int .u8 x.r3, .int .u8 x.r4, .int .u16 x.r5, .int .i32 x.r6, .int .i32 x.r7, .int .i32 x.r8, .int .i32 x.r9, .int .u64 x.r10, .int .i64 x.state], u21, u22, u23, u24, u25, u26], defers := [] })
    (fun x a' _ X Y row hs hg hr => by
      obtain ⟨Bx, h1, h2⟩ := hs
      refine ⟨Bx, (hg.block Bx (Array.getElem?_eq_some_iff.1 h1).1 (fun e => ?_)).trans h1, h2⟩
      obtain ⟨_, o, ho, hc⟩ := hr Bx e.symm
      rw [h1] at ho; cases ho; cases hc)
    ?assign ?body ?done ?stop
  case assign =>
    rintro ll pre x W' K ⟨⟨v, hv, hrow, _⟩, hC', hD', hB'⟩ hK
    unfold asg8
    gi_wp2
    have hsW : A + 1 ≤ W'.heap.size := Nat.le_trans hnw hB'.size
    have hkw : KW Bb Bl Bp bb W' (W'.alloc (.cells #[.int .i64 x.part, .int .i64 x.off, .int .i32 x.len, .int .u8 x.r3, .int .u8 x.r4, .int .u16 x.r5, .int .i32 x.r6, .int .i32 x.r7, .int .i32 x.r8, .int .i32 x.r9, .int .u64 x.r10, .int .i64 x.state] 42)) := KW.below ((Below.refl _ W').alloc (Nat.le_refl _) _) (Array.getElem?_eq_some_iff.1 hC'.b).1 (Array.getElem?_eq_some_iff.1 hC'.l).1 (Array.getElem?_eq_some_iff.1 hC'.p).1 (by omega)
    exact hK _ _ ((KeepsOthers.alloc _ _).from _) hkw ⟨⟨v, hv.alloc _, hrow.alloc _, trivial⟩, hC'.kw hkw, hD'.kept (KeepsOthers.alloc _ _), hB'.alloc hsW _⟩ ⟨W'.heap.size, heap_new _ _, rfl⟩
  case body =>
    rintro ll pre x a' W' hl hrec ⟨⟨v, hv, hrow, _⟩, hC', hD', hB'⟩ ⟨Bx, hX, rfl⟩ hlen
    obtain ⟨p0, p1, p2, p3, p4, p5, p6, p7, p8, p9, p10, p11, p12⟩ := blkF12 hX
    have hc0 := hv.cell
    have hf0 := hv.frozen
    unfold bod8
    have hlenp : (ps ++ pre).length + 1 ≤ 1100 := by rw [List.length_append]; omega
    have hsW : A + 1 ≤ W'.heap.size := Nat.le_trans hnw hB'.size
    have hAB : A + 1 ≤ Bo := hAo
    gi_wp2_with (gi_at_builtin; refine wpListIn_append_own _ rfl _ _ 35 rfl (A + 1) 42 i0 (.agg #[.int .i64 0, .int .i64 0, .int .i32 0, .int .u8 0, .int .u8 0, .int .u16 0, .int .i32 0, .int .i32 0, .int .i32 0, .int .i32 0, .int .u64 0, .int .i64 0]) 12 56 Tryz.underlying35 hi hz0 hz1 hz2 rfl (by decide) _ _ _ rfl (hrow.alloc _) ⟨W'.heap.size, 0, none⟩ 1 1 [.int .i64 x.part, .int .i64 x.off, .int .i32 x.len, .int .u8 x.r3, .int .u8 x.r4, .int .u16 x.r5, .int .i32 x.r6, .int .i32 x.r7, .int .i32 x.r8, .int .i32 x.r9, .int .u64 x.r10, .int .i64 x.state] rfl rfl (cell_newL _ _ _) (by intro u hu; simp at hu; rcases hu with rfl | rfl | rfl | rfl | rfl | rfl | rfl | rfl | rfl | rfl | rfl | rfl <;> rfl) (Nat.le_trans hlenp (by decide)) (by omega) (by simp; omega) ?_
                 intro v' w1 hown' hgrow hnil
                 obtain ⟨g', cap', rfl⟩ := ownsRow_succ hown'
                 obtain ⟨hv1, hv2, hr2, hk2, hb2⟩ := hv.appended (by decide) hrow hsW hAB hown' hgrow
                 have hc1 := hv1.cell
                 have hf1 := hv1.frozen
                 have hkb := block_appended hC'.b (by decide) hrow hgrow (Bo := Bo) (by rintro rfl; have h := hC'.b; rw [show W'.heap[_]? = _ from hv] at h; cases h) (.slice (some ⟨g', 0, none⟩) ((ps ++ pre).length + 1) cap')
                 have hkl := block_appended hC'.l (by decide) hrow hgrow (Bo := Bo) (by rintro rfl; have h := hC'.l; rw [show W'.heap[_]? = _ from hv] at h; cases h) (.slice (some ⟨g', 0, none⟩) ((ps ++ pre).length + 1) cap')
                 have hkp := block_appended hC'.p (by decide) hrow hgrow (Bo := Bo) (by rintro rfl; have h := hC'.p; rw [show W'.heap[_]? = _ from hv] at h; cases h) (.slice (some ⟨g', 0, none⟩) ((ps ++ pre).length + 1) cap')
                 have hkw : KW Bb Bl Bp bb W' _ := ⟨hk2.size, hkb, hkl, hkp, hb2.block bb (by omega)⟩
                 clear hown' hgrow hnil hv1)
    simp only [← List.length_append]
    refine ⟨hk2.from _, hkw, ⟨⟨_, hv2, ?_, trivial⟩, hC'.kw hkw, hD'.kept hk2, hB'.trans hb2⟩⟩
    rw [show (ps ++ (pre ++ [x])).length = (ps ++ pre).length + 1 by simp; omega, ← List.append_assoc, rowS_snoc]
    exact hr2
  case done =>
    rintro D xs W' hD' rfl ⟨⟨v, hv, hrow, _⟩, hC', hM', hB'⟩ hK
    exact hdone D W' hD' ⟨v, hv, hrow⟩ hM' hB' hK
  case stop =>
    rintro D c pre W' _ _ h _
    exact h.elim
theorem caught_new (W : World) (l : Lg) (p : Int) (bb bo bn bc : Nat) (W' : World) (h : W' = ((W.alloc (.cells #[.slice (some ⟨bb, bo, none⟩) bn bc] 22)).alloc (.cells #[.int .i64 l.base, .int .i64 l.term, .int .i64 l.mtu, .int .i64 l.subs, .int .i32 l.ini, .int .i32 l.ses, .int .i32 l.str] 24)).alloc (.cells #[.int .i64 p] 3)) :
    Caught W' W.heap.size (W.heap.size + 1) (W.heap.size + 2) l p bb bo bn bc W'.heap.size ∧ Below W.heap.size W W' ∧ KeepsOthers W W' := by
  subst h
  refine ⟨⟨?_, ?_, ?_, by simp; omega, by simp, by simp⟩, (((Below.refl _ W).alloc (Nat.le_refl _) _).alloc (by simp) _).alloc (by simp; omega) _, ((KeepsOthers.alloc _ _).trans (KeepsOthers.alloc _ _)).trans (KeepsOthers.alloc _ _)⟩
  · exact (Below.heap_alloc _ _ _ (by simp; omega)).trans ((Below.heap_alloc _ _ _ (by simp)).trans (heap_new _ _))
  · have := heap_new (W.alloc (.cells #[.slice (some ⟨bb, bo, none⟩) bn bc] 22)) (.cells #[.int .i64 l.base, .int .i64 l.term, .int .i64 l.mtu, .int .i64 l.subs, .int .i32 l.ini, .int .i32 l.ses, .int .i32 l.str] 24)
    rw [World.size_alloc] at this
    exact (Below.heap_alloc _ _ _ (by simp)).trans this
  · have := heap_new ((W.alloc (.cells #[.slice (some ⟨bb, bo, none⟩) bn bc] 22)).alloc (.cells #[.int .i64 l.base, .int .i64 l.term, .int .i64 l.mtu, .int .i64 l.subs, .int .i32 l.ini, .int .i32 l.ses, .int .i32 l.str] 24)) (.cells #[.int .i64 p] 3)
    simp only [World.size_alloc] at this
    exact this
theorem Marks.more {Ds : List Nat} {s D : Nat} {W : World} (h : Marks Ds s W) (hD : W.heap[D]? = some (.deferred (some []))) : Marks (D :: Ds) W.heap.size W := fun E hE => by
  rcases List.mem_cons.1 hE with rfl | hE
  · exact ⟨(Array.getElem?_eq_some_iff.1 hD).1, hD⟩
  · exact ⟨(Array.getElem?_eq_some_iff.1 (h E hE).2).1, (h E hE).2⟩
theorem Marks.up {Ds : List Nat} {s s' : Nat} {W : World} (h : Marks Ds s W) (hs : s ≤ s') : Marks Ds s' W := fun E hE => ⟨Nat.lt_of_lt_of_le (h E hE).1 hs, (h E hE).2⟩
set_option maxHeartbeats 6400000 in
set_option maxRecDepth 1000000 in
theorem frames_some (l : Lg) (hl : l.ok) (B : Nat → Nat) (hB : ∀ j, B j < 256) (bb bo bn bc : Nat) (hcap : bn ≤ bc) (hbn : bn < 4611686018427387904) (hth : l.there bn) (w : World) (hlt : bb < w.heap.size) (hr : ReadsB w bb bo bn B) :
    Calls Tryz.prog 8 #[.slice (some ⟨bb, bo, none⟩) bn bc, .agg #[.int .i64 l.base, .int .i64 l.term, .int .i64 l.mtu, .int .i64 l.subs, .int .i32 l.ini, .int .i32 l.ses, .int .i32 l.str]] w fun e w' => ∃ s, e = .returned (.tuple #[s, .int .i64 0]) ∧ w'.ownsRow w.heap.size 42 12 s (allF l B 3).length (rowS (allF l B 3)) ∧ Below w.heap.size w w' := by
  have c18 := fun W => there_yes l hl (ba := some ⟨bb, bo, none⟩) (bc := bc) hbn hth W
  unfold Lg.val at c18
  obtain ⟨W1, hW1⟩ : ∃ W1, w.alloc (.cells #[.int .i64 l.base, .int .i64 l.term, .int .i64 l.mtu, .int .i64 l.subs, .int .i32 l.ini, .int .i32 l.ses, .int .i32 l.str] 24) = W1 := ⟨_, rfl⟩
  obtain ⟨A, hA⟩ : ∃ A, w.heap.size = A := ⟨_, rfl⟩
  have u0 : W1.heap[A]? = some (.cells #[.int .i64 l.base, .int .i64 l.term, .int .i64 l.mtu, .int .i64 l.subs, .int .i32 l.ini, .int .i32 l.ses, .int .i32 l.str] 24) := by rw [← hW1, ← hA]; exact heap_new _ _
  have u1 : Below A w W1 := by rw [← hW1, ← hA]; exact (Below.refl _ _).alloc (Nat.le_refl _) _
  have u2 : W1.heap.size = A + 1 := by rw [← hW1]; simp [hA]
  have HU := Lib.hid (And.intro u0 (And.intro u1 u2))
  obtain ⟨m0, m1, m2, m3, m4, m5, m6⟩ := blk7 u0
  clear u0 u1 u2
  refine (callsIn_wide (n := 12)).1 ?_
  have hFk : ∀ k : Nat, Fence.wide.fn k := fun _ => trivial
  have hFd : Fence.wide.depth = none := rfl
  refine callsIn_of_wp_marks Tryz.func8 rfl trivial ?_ rfl
  simp only [Tryz.ntmps8, List.size_toArray, List.length_cons, List.length_nil, Nat.reduceAdd, Nat.reduceSub, Array.replicate_succ, Array.replicate_zero, List.push_toArray, List.append_toArray, List.nil_append, List.cons_append]
  gi_wp2_with (first
    | (gi_at_call 18; refine (callsIn_wide.2 (c18 _)).mono ?_; clear c18; rintro e w2 ⟨rfl, hB2⟩
       obtain ⟨B6, hB6⟩ : ∃ B6, w2.heap.size = B6 := ⟨_, rfl⟩
       obtain ⟨W3, hW3⟩ : ∃ W3, w2.alloc (.cells #[.slice none 0 0] 35) = W3 := ⟨_, rfl⟩
       have hBW3 : Below W1.heap.size W1 W3 := by rw [← hW3]; exact hB2.alloc hB2.size _
       have hBx : Boxed W3 B6 35 (.slice none 0 0) := by rw [← hW3, ← hB6]; exact Boxed.new _ _ _
       have hs6 : A + 1 ≤ B6 := by have := hB2.size; have := HU.out.2.2; omega
       have HV := Lib.hid (And.intro hBW3 (And.intro hBx hs6))
       obtain ⟨m0, m1, m2, m3, m4, m5, m6⟩ := blk7 ((hBW3.block A (by have := HU.out.2.2; omega)).trans HU.out.1)
       clear hB2 hBW3 hBx hs6))
  have hsz1 := HU.out.2.2
  have hr1 : ReadsB W1 bb bo bn B := hr.below (s := A) (by omega) HU.out.2.1
  have I0 : ∃ v, Boxed W3 B6 35 v ∧ W3.ownsRow (A + 1) 42 12 v (allF l B 0).length (rowS (allF l B 0)) := ⟨_, HV.out.2.1, World.ownsRow_nil _ _ _ _⟩
  have M0 : Marks [] W3.heap.size W3 := fun D hD => by cases hD
  have B0 : Below (A + 1) W1 W3 := HV.out.1.mono (by omega)
  have Z0 : B6 < W3.heap.size := HV.out.2.1.lt
  have hal : ∀ k : Nat, k ≤ 2 → (allF l B k).length ≤ 700 := fun k hk => by
    have h1 := Lg.ok.bounds hl
    have h2 := allF_le l (by omega) B k
    have h3 : (k : Int) * l.term ≤ 2 * l.term := Int.mul_le_mul_of_nonneg_right (by omega) (by omega)
    omega
  clear hW1 hW3
  refine wpIn_loop_rounds 4 ?_
  rw [roundsIn_succ]
  gi_wp2_with (gi_at_call 28; refine (callsIn_wide.2 (walk28 _ _ _ l (0 : Int) _)).mono ?_; clear m0 m1 m2 m3 m4 m5 m6; rintro e x0 ⟨rfl, hx0⟩; have KK0 := Lib.hid (caught_new W3 l (0 : Int) bb bo bn bc x0 hx0); clear hx0)
  obtain ⟨ka0, kb0, kc0⟩ := KK0.out
  refine range8 l hl B hB bb bo bn bc hcap hbn hth (0 : Int) (by decide) (by decide) _ _ _ A B6 (allF l B 0) (hal 0 (by decide)) _ _ _ _ _ _ _ _ _ [] _ W1 x0 (by omega) (by have := HV.out.2.2; omega) (by have := B0.size; have := kb0.size; omega) ka0 ((hr1.below (by omega) B0).below (s := W3.heap.size) (by have := B0.size; omega) kb0) (by obtain ⟨v, h1, h2⟩ := I0; exact ⟨v, (kb0.block B6 Z0).trans h1, own_kept h2 (Nat.le_refl _) kb0⟩) ((M0.kept kc0).up kb0.size) (by omega) (B0.trans (kb0.mono (by have := B0.size; omega))) ?_
  intro D0 V1 hD0 I1 N1 B1 hK0
  have Z1 : B6 < V1.heap.size := by obtain ⟨v, h, _⟩ := I1; exact h.lt
  have M1 : Marks [D0] V1.heap.size V1 := N1.more hK0
  obtain ⟨m0, m1, m2, m3, m4, m5, m6⟩ := blk7 ((B1.block A (by omega)).trans HU.out.1)
  gi_wp2
  rw [roundsIn_succ]
  gi_wp2_with (gi_at_call 28; refine (callsIn_wide.2 (walk28 _ _ _ l (1 : Int) _)).mono ?_; clear m0 m1 m2 m3 m4 m5 m6; rintro e x1 ⟨rfl, hx1⟩; have KK1 := Lib.hid (caught_new V1 l (1 : Int) bb bo bn bc x1 hx1); clear hx1)
  obtain ⟨ka1, kb1, kc1⟩ := KK1.out
  refine range8 l hl B hB bb bo bn bc hcap hbn hth (1 : Int) (by decide) (by decide) _ _ _ A B6 (allF l B 1) (hal 1 (by decide)) _ _ _ _ _ _ _ _ _ [D0] _ W1 x1 (by omega) (by have := HV.out.2.2; omega) (by have := B1.size; have := kb1.size; omega) ka1 ((hr1.below (by omega) B1).below (s := V1.heap.size) (by have := B1.size; omega) kb1) (by obtain ⟨v, h1, h2⟩ := I1; exact ⟨v, (kb1.block B6 Z1).trans h1, own_kept h2 (Nat.le_refl _) kb1⟩) ((M1.kept kc1).up kb1.size) (by omega) (B1.trans (kb1.mono (by have := B1.size; omega))) ?_
  intro D1 V2 hD1 I2 N2 B2 hK1
  have Z2 : B6 < V2.heap.size := by obtain ⟨v, h, _⟩ := I2; exact h.lt
  have M2 : Marks [D1, D0] V2.heap.size V2 := N2.more hK1
  obtain ⟨m0, m1, m2, m3, m4, m5, m6⟩ := blk7 ((B2.block A (by omega)).trans HU.out.1)
  gi_wp2
  rw [roundsIn_succ]
  gi_wp2_with (gi_at_call 28; refine (callsIn_wide.2 (walk28 _ _ _ l (2 : Int) _)).mono ?_; clear m0 m1 m2 m3 m4 m5 m6; rintro e x2 ⟨rfl, hx2⟩; have KK2 := Lib.hid (caught_new V2 l (2 : Int) bb bo bn bc x2 hx2); clear hx2)
  obtain ⟨ka2, kb2, kc2⟩ := KK2.out
  refine range8 l hl B hB bb bo bn bc hcap hbn hth (2 : Int) (by decide) (by decide) _ _ _ A B6 (allF l B 2) (hal 2 (by decide)) _ _ _ _ _ _ _ _ _ [D1, D0] _ W1 x2 (by omega) (by have := HV.out.2.2; omega) (by have := B2.size; have := kb2.size; omega) ka2 ((hr1.below (by omega) B2).below (s := V2.heap.size) (by have := B2.size; omega) kb2) (by obtain ⟨v, h1, h2⟩ := I2; exact ⟨v, (kb2.block B6 Z2).trans h1, own_kept h2 (Nat.le_refl _) kb2⟩) ((M2.kept kc2).up kb2.size) (by omega) (B2.trans (kb2.mono (by have := B2.size; omega))) ?_
  intro D2 V3 hD2 I3 N3 B3 hK2
  have Z3 : B6 < V3.heap.size := by obtain ⟨v, h, _⟩ := I3; exact h.lt
  have M3 : Marks [D2, D1, D0] V3.heap.size V3 := N3.more hK2
  gi_wp2
  rw [roundsIn_succ]
  obtain ⟨v, hv, hrow⟩ := I3
  have hcv := hv.cell
  gi_wp2
  have q2 := (M3 D2 (by simp)).2
  have q1 := (M3 D1 (by simp)).2
  have q0 := (M3 D0 (by simp)).2
  have d01 : D0 < D1 := Nat.lt_of_lt_of_le (N2 D0 (by simp)).1 hD1
  have d12 : D1 < D2 := Nat.lt_of_lt_of_le (N3 D1 (by simp)).1 hD2
  have dA : A + 1 ≤ D0 := Nat.le_trans (Nat.le_trans (by have := B0.size; omega) kb0.size) hD0
  obtain ⟨X1, hX1⟩ : ∃ X, V3.putObj D2 (.deferred none) = X := ⟨_, rfl⟩
  have r1 : X1.heap[D1]? = some (.deferred (some [])) := by rw [← hX1]; exact (World.putObj_heap_other (by omega)).trans q1
  have r0 : X1.heap[D0]? = some (.deferred (some [])) := by rw [← hX1]; exact (World.putObj_heap_other (by omega)).trans q0
  have b1 : Below (A + 1) V3 X1 := by rw [← hX1]; exact belowK_b (w := W1) (by omega) V3 D2 _ _ (by omega) q2 rfl rfl
  have w1 := ownsRow_putObj hrow (.deferred none) q2 rfl
  rw [hX1] at w1
  obtain ⟨X2, hX2⟩ : ∃ X, X1.putObj D1 (.deferred none) = X := ⟨_, rfl⟩
  have s0 : X2.heap[D0]? = some (.deferred (some [])) := by rw [← hX2]; exact (World.putObj_heap_other (by omega)).trans r0
  have b2 : Below (A + 1) X1 X2 := by rw [← hX2]; exact belowK_b (w := W1) (by omega) X1 D1 _ _ (by omega) r1 rfl rfl
  have w2 := ownsRow_putObj w1 (.deferred none) r1 rfl
  rw [hX2] at w2
  have b3 : Below (A + 1) X2 (X2.putObj D0 (.deferred none)) := belowK_b (w := W1) (by omega) X2 D0 _ _ (by omega) s0 rfl rfl
  have w3 := ownsRow_putObj w2 (.deferred none) s0 rfl
  refine ⟨by simp, .inl ⟨_, _, rfl, run_takeDeferred q2, ?_⟩⟩
  rw [hX1]
  refine ⟨by simp, .inl ⟨_, _, rfl, run_takeDeferred r1, ?_⟩⟩
  rw [hX2]
  refine ⟨by simp, .inl ⟨_, _, rfl, run_takeDeferred s0, ?_⟩⟩
  refine ⟨.tuple #[v, .int .i64 0], by simp [results, Tryz.results8, go_sem], v, rfl, ?_, ?_⟩
  · rw [hA]; exact own_base w3 (by omega)
  · rw [hA]; exact HU.out.2.1.trans (((B3.trans b1).trans (b2.trans b3)).mono (by omega))
end Go.Proofs.YtndgbfpcnkmihaaGreatDoor.Sy
