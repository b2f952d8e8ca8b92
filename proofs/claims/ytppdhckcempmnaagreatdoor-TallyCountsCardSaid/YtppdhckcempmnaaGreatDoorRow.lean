/- The row of TallyCounts: for every trace and every actor the law returns true, and the arguments read as they did. The library's table of trailing zeros is as its text lays it (tied). -/
import Derived.Test.YtppdhckcempmnaaGreatDoorRows
import Derived.Test.YtppdhckcempmnaaGreatDoorFacts2
import Derived.Test.YtppdhckcempmnaaGreatDoorCLaw
import Derived.ProofKit
import Derived.LaidMore
import Derived.OpenShut
import Derived.Stop.Joined
import Derived.Lib.LaidTab
import Derived.Lib.SmallJoins
import Derived.SevenTiedAt
import Derived.Deep.Slices
import Derived.Deep.Fields
namespace Go.Proofs.YtppdhckcempmnaaGreatDoor
open Go Go.ChangeShapes Go.WideShapes Go.ChangeAt Go.RowKit Go.Joins Go.Deep Ce
set_option linter.unusedVariables false
theorem own : ownKnob Tryz.prog.godebug = none := by kernel_rfl
theorem laidOut : laidOutB Tryz.prog = true := by kernel_rfl
theorem door_met (os : Os) (args : Array Value) : laidMetH Tryz.prog Rows.tallyCountsRow.laid ((World.doorLaid Tryz.prog 400 os).forCall (fun _ _ => 0) ⟨#[], args, []⟩).memory :=
  laidMetH_of_parts3 (fuel := 8) (laidMet_of_run' 8 (by kernel_rfl) (by kernel_rfl)) (by kernel_rfl) (by kernel_rfl)
/-- what the walk is told of a trace that came in -/
def IsE (w : World) (a : Option Addr) (len : Nat) : Prop :=
  len ≤ maxLen ∧ ∀ i, i < len → ∃ y, a = some y ∧ ∃ x : Ev, w.cell? (y.add (i * 12 + 0)) = some (.int .i64 x.pk) ∧ w.cell? (y.add (i * 12 + 1)) = some (.int .i64 x.act) ∧ w.cell? (y.add (i * 12 + 2)) = some (.int .i64 x.pn) ∧ w.cell? (y.add (i * 12 + 3)) = some (.int .i64 x.ak) ∧ w.cell? (y.add (i * 12 + 4)) = some (.int .i64 x.at_) ∧ w.cell? (y.add (i * 12 + 5)) = some (.int .i64 x.n) ∧ w.cell? (y.add (i * 12 + 6)) = some (.int .u64 x.v) ∧ w.cell? (y.add (i * 12 + 7)) = some (.int .u64 x.w) ∧ w.cell? (y.add (i * 12 + 8)) = some (.slice x.bo x.bl x.bc) ∧ w.cell? (y.add (i * 12 + 9)) = some (.int .u64 x.av) ∧ w.cell? (y.add (i * 12 + 10)) = some (.bool x.done) ∧ w.cell? (y.add (i * 12 + 11)) = some (.slice x.ao x.al x.ac)
theorem pick_row {n : Nat} {C : Nat → Ev → Prop} (h : ∀ i, i < n → ∃ x, C i x) : ∃ l : Array Ev, l.size = n ∧ ∀ i, i < n → C i l[i]! := by
  refine ⟨Array.ofFn (fun i : Fin n => Classical.choose (h i.1 i.2)), by simp, fun i hi => ?_⟩
  rw [getElem!_pos _ i (by simpa using hi)]
  simp only [Array.getElem_ofFn]
  exact Classical.choose_spec (h i hi)
theorem walk (a : Option Addr) (n cap : Nat) (z : Int) (w : World) (h : IsE w a n) :
    Calls Tryz.prog 3 #[.slice a n cap, .int .i64 z] w fun e w' => e = .returned (.bool true) ∧ Below w.heap.size w w' := by
  have h2 : ∀ i, i < n → ∃ x : Ev, ∃ b o, a = some ⟨b, o, none⟩ ∧ b < w.heap.size ∧ At12 w b (o + i * 12) x := fun i hi => by
    obtain ⟨y, rfl, x, c0, c1, c2, c3, c4, c5, c6, c7, c8, c9, c10, c11⟩ := h.2 i hi
    obtain ⟨b, o, spot⟩ := y
    have hspot : spot = none := by
      obtain ⟨y, hy, x', d0, _⟩ := h.2 0 (by omega)
      cases hy
      simpa [Addr.add] using World.cell?_spot d0
    subst hspot
    rw [Go.WideShapes.add_plain] at c0 c1 c2 c3 c4 c5 c6 c7 c8 c9 c10 c11
    have hb := World.block_lt_of_cell? w _ c0
    exact ⟨x, b, o, rfl, by simpa using hb, by simpa using c0, c1, c2, c3, c4, c5, c6, c7, c8, c9, c10, c11⟩
  obtain ⟨l, rfl, hc⟩ := pick_row h2
  have hT : Tr w a l := hc
  have hml : maxLen ≤ 9223372036854775807 := by decide
  by_cases hf : Few l
  · exact law_few a cap l z w hT hf
  · exact law_many a cap l z w hT (Nat.le_trans h.1 hml) hf
theorem get_some {α : Type} {l : List α} {n j : Nat} (h : l.length = n) (hj : j < n) : ∃ y, l[j]? = some y := ⟨l[j]'(by omega), List.getElem?_eq_getElem (by omega)⟩
theorem one_slice {H : Type} {enc : TypeId × Value → H} {w : World} {base : Nat} {spare : Nat → Bool} {held : Bool} {t e : TypeId} {fuel : Nat} {v : Value} {x : DataW H × List MemPlace} (ht : Tryz.prog.underlying t = some (.slice e)) (h : DataW.trod enc Tryz.prog w base spare held fuel t [v] = some x) : ∃ a n c, v = .slice a n c := by
  rcases Go.Deep.open_slice ht h with ⟨hcs, _⟩ | ⟨y, len, c, m, nn, D, Pl, hcs, _⟩
  · exact ⟨none, 0, 0, by simpa using hcs⟩
  · exact ⟨some y, len, c, by simpa using hcs⟩
set_option maxRecDepth 100000 in
theorem open_trace {H : Type} {enc : TypeId × Value → H} {w : World} {base : Nat} {spare : Nat → Bool} {held : Bool} {a : Option Addr} {n cap fuel : Nat} {x : DataW H × List MemPlace}
    (h : DataW.trod enc Tryz.prog w base spare held fuel 22 [.slice a n cap] = some x) : IsE w a n := by
  rcases Go.Deep.open_slice Tryz.underlying22 h with ⟨hcs, _⟩ | ⟨y, len, c, m, nn, D, Pl, hcs, hb, hl, hm, hmm, hx, hi⟩
  · simp at hcs
    obtain ⟨_, rfl, _⟩ := hcs
    exact ⟨Nat.zero_le _, fun i hi => by omega⟩
  · simp only [List.cons.injEq, Value.slice.injEq, and_true] at hcs
    obtain ⟨rfl, rfl, rfl⟩ := hcs
    refine ⟨Nat.le_trans hl hm, fun i hin => ⟨y, rfl, ?_⟩⟩
    have hmi : i < m := by rw [hmm]; split <;> omega
    obtain ⟨cs', hc, ht'⟩ := hi i hmi
    rw [show Tryz.prog.cellsOf 67 = 12 by kernel_rfl] at hc
    obtain ⟨ys, n', _, _, hlen, hyl, hf⟩ := DataW.trod_struct Tryz.underlying67 ht'
    obtain ⟨_, hcl, hat⟩ := World.cells?_some hc
    match cs', hcl with
    | [x0, x1, x2, x3, x4, x5, x6, x7, x8, x9, x10, x11], _ =>
      have k0 := hf 0 _ rfl
      have k1 := hf 1 _ rfl
      have k2 := hf 2 _ rfl
      obtain ⟨y0, e0⟩ := get_some (j := 0) hyl (by decide)
      obtain ⟨y1, e1⟩ := get_some (j := 1) hyl (by decide)
      obtain ⟨y2, e2⟩ := get_some (j := 2) hyl (by decide)
      rw [e0] at k0
      rw [e1] at k1
      rw [e2] at k2
      have g0 : DataW.trod enc Tryz.prog w base spare held n' 60 [x0, x1, x2] = some y0 := k0
      have g1 : DataW.trod enc Tryz.prog w base spare held n' 63 [x3, x4, x5, x6, x7, x8] = some y1 := k1
      have g2 : DataW.trod enc Tryz.prog w base spare held n' 65 [x9, x10, x11] = some y2 := k2
      obtain ⟨zp, np, _, _, hlenp, hzlp, hgp⟩ := DataW.trod_struct Tryz.underlying60 g0
      have jx0 := hgp 0 _ rfl
      obtain ⟨zx0, fx0⟩ := get_some (j := 0) hzlp (by decide)
      rw [fx0] at jx0
      have tx0 : DataW.trod enc Tryz.prog w base spare held np 3 [x0] = some zx0 := jx0
      obtain ⟨vx0, qx0, _, _⟩ := DataW.trod_int Tryz.underlying3 tx0
      have jx1 := hgp 1 _ rfl
      obtain ⟨zx1, fx1⟩ := get_some (j := 1) hzlp (by decide)
      rw [fx1] at jx1
      have tx1 : DataW.trod enc Tryz.prog w base spare held np 3 [x1] = some zx1 := jx1
      obtain ⟨vx1, qx1, _, _⟩ := DataW.trod_int Tryz.underlying3 tx1
      have jx2 := hgp 2 _ rfl
      obtain ⟨zx2, fx2⟩ := get_some (j := 2) hzlp (by decide)
      rw [fx2] at jx2
      have tx2 : DataW.trod enc Tryz.prog w base spare held np 2 [x2] = some zx2 := jx2
      obtain ⟨vx2, qx2, _, _⟩ := DataW.trod_int Tryz.underlying2 tx2
      obtain ⟨zq, nq, _, _, hlenq, hzlq, hgq⟩ := DataW.trod_struct Tryz.underlying63 g1
      have jx3 := hgq 0 _ rfl
      obtain ⟨zx3, fx3⟩ := get_some (j := 0) hzlq (by decide)
      rw [fx3] at jx3
      have tx3 : DataW.trod enc Tryz.prog w base spare held nq 3 [x3] = some zx3 := jx3
      obtain ⟨vx3, qx3, _, _⟩ := DataW.trod_int Tryz.underlying3 tx3
      have jx4 := hgq 1 _ rfl
      obtain ⟨zx4, fx4⟩ := get_some (j := 1) hzlq (by decide)
      rw [fx4] at jx4
      have tx4 : DataW.trod enc Tryz.prog w base spare held nq 3 [x4] = some zx4 := jx4
      obtain ⟨vx4, qx4, _, _⟩ := DataW.trod_int Tryz.underlying3 tx4
      have jx5 := hgq 2 _ rfl
      obtain ⟨zx5, fx5⟩ := get_some (j := 2) hzlq (by decide)
      rw [fx5] at jx5
      have tx5 : DataW.trod enc Tryz.prog w base spare held nq 3 [x5] = some zx5 := jx5
      obtain ⟨vx5, qx5, _, _⟩ := DataW.trod_int Tryz.underlying3 tx5
      have jx6 := hgq 3 _ rfl
      obtain ⟨zx6, fx6⟩ := get_some (j := 3) hzlq (by decide)
      rw [fx6] at jx6
      have tx6 : DataW.trod enc Tryz.prog w base spare held nq 61 [x6] = some zx6 := jx6
      obtain ⟨vx6, qx6, _, _⟩ := DataW.trod_int Tryz.underlying61 tx6
      have jx7 := hgq 4 _ rfl
      obtain ⟨zx7, fx7⟩ := get_some (j := 4) hzlq (by decide)
      rw [fx7] at jx7
      have tx7 : DataW.trod enc Tryz.prog w base spare held nq 61 [x7] = some zx7 := jx7
      obtain ⟨vx7, qx7, _, _⟩ := DataW.trod_int Tryz.underlying61 tx7
      have jx8 := hgq 5 _ rfl
      obtain ⟨zx8, fx8⟩ := get_some (j := 5) hzlq (by decide)
      rw [fx8] at jx8
      have tx8 : DataW.trod enc Tryz.prog w base spare held nq 40 [x8] = some zx8 := jx8
      obtain ⟨ax8, lx8, cx8, qx8⟩ := one_slice Tryz.underlying40 tx8
      obtain ⟨zr, nr, _, _, hlenr, hzlr, hgr⟩ := DataW.trod_struct Tryz.underlying65 g2
      have jx9 := hgr 0 _ rfl
      obtain ⟨zx9, fx9⟩ := get_some (j := 0) hzlr (by decide)
      rw [fx9] at jx9
      have tx9 : DataW.trod enc Tryz.prog w base spare held nr 61 [x9] = some zx9 := jx9
      obtain ⟨vx9, qx9, _, _⟩ := DataW.trod_int Tryz.underlying61 tx9
      have jx10 := hgr 1 _ rfl
      obtain ⟨zx10, fx10⟩ := get_some (j := 1) hzlr (by decide)
      rw [fx10] at jx10
      have tx10 : DataW.trod enc Tryz.prog w base spare held nr 4 [x10] = some zx10 := jx10
      obtain ⟨vx10, qx10, _⟩ := DataW.trod_bool Tryz.underlying4 tx10
      have jx11 := hgr 2 _ rfl
      obtain ⟨zx11, fx11⟩ := get_some (j := 2) hzlr (by decide)
      rw [fx11] at jx11
      have tx11 : DataW.trod enc Tryz.prog w base spare held nr 40 [x11] = some zx11 := jx11
      obtain ⟨ax11, lx11, cx11, qx11⟩ := one_slice Tryz.underlying40 tx11
      simp only [List.cons.injEq, and_true] at qx0 qx1 qx2 qx3 qx4 qx5 qx6 qx7 qx9 qx10
      subst qx0 qx1 qx2 qx3 qx4 qx5 qx6 qx7 qx8 qx9 qx10 qx11
      refine ⟨⟨vx0, vx1, vx2, vx3, vx4, vx5, vx6, vx7, ax8, lx8, cx8, vx9, vx10, ax11, lx11, cx11⟩, ?_⟩
      have key : ∀ j, j < 12 → w.cell? (y.add (i * 12 + j)) = ([.int .i64 vx0, .int .i64 vx1, .int .i64 vx2, .int .i64 vx3, .int .i64 vx4, .int .i64 vx5, .int .u64 vx6, .int .u64 vx7, .slice ax8 lx8 cx8, .int .u64 vx9, .bool vx10, .slice ax11 lx11 cx11] : List Value)[j]? := fun j hj => by
        rw [← Go.Deep.add_add]; exact hat j hj
      exact ⟨key 0 (by decide), key 1 (by decide), key 2 (by decide), key 3 (by decide), key 4 (by decide), key 5 (by decide), key 6 (by decide), key 7 (by decide), key 8 (by decide), key 9 (by decide), key 10 (by decide), key 11 (by decide)⟩
set_option maxRecDepth 100000 in
theorem lifted (os : Os) (started : os.Started) (H : Type) (enc : TypeId × Value → H) :
    ReturnsInHanded {} Tryz.checked os 3 .any (fun w args => (Rows.tallyCountsSpec.pre enc Tryz.prog Tryz.f3 [] false w args ∧ laidMetH Tryz.prog Rows.tallyCountsRow.laid w) ∧ sizedMet enc Tryz.prog Tryz.f3 (OpenSpec.ofChange Rows.tallyCountsSpec) false w args)
      (Rows.tallyCountsSpec.post enc Tryz.prog Tryz.f3 false true false false) := by
  refine returnsInHanded_of_change_and (C := Tryz.checked) (X := fun w _ => laidMetH Tryz.prog Rows.tallyCountsRow.laid w) (fun _ _ _ hh h => h.of_heap hh) own started (by kernel_rfl) Tryz.func3
    (ChangeSpec.witness_shaped (enc := enc) (C := Tryz.checked) (os := os) (X := fun w _ => laidMetH Tryz.prog Rows.tallyCountsRow.laid w) false (World.doorLaid Tryz.prog 400 os) #[.slice none 0 0, .int .i64 0] 8 rfl (World.shaped_of_RefB (by kernel_rfl) (by kernel_rfl)) (by kernel_rfl) (by kernel_rfl) (by kernel_rfl) (door_met os _)) ?_
  intro W base args ds gs before hval0 hW _ _ hL _
  have hval : ∀ (j : Nat) t v, Tryz.f3.params[j]? = some t → args[j]? = some v → Value.okWide Tryz.prog W .any base t v := hval0
  have hW' := hW
  obtain ⟨p, q, hA0, hV, rfl, hfz, hnd⟩ := hW
  have hA : DataW.TrodAll enc Tryz.prog W 0 (fun _ => true) true Tryz.f3.params.toList args.toList ds p := hA0
  rw [Tryz.params3] at hA hval
  obtain ⟨v0, vs0, d0, ds0, p0, q0, hargs, rfl, rfl, h0, r0⟩ := trodAll_cons hA
  obtain ⟨v1, vs1, d1, ds1, p1, q1, rfl, rfl, rfl, h1, r1⟩ := trodAll_cons r0
  obtain ⟨rfl, rfl, rfl⟩ := trodAll_nil r1
  obtain rfl : args = #[v0, v1] := by cases args; simp_all
  obtain ⟨rfl, rfl⟩ := trodVars_none hV
  obtain ⟨a, n, c, rfl⟩ := okWide_slice Tryz.underlying22 (hval 0 22 v0 rfl rfl)
  have k0 := h0
  have k1 := h1
  have lt0 : ∀ x ∈ p0, x.block < W.heap.size := by obtain ⟨m, hm⟩ := k0; exact DataW.trod_lt m _ _ _ hm
  have lt1 : ∀ x ∈ p1, x.block < W.heap.size := by obtain ⟨m, hm⟩ := k1; exact DataW.trod_lt m _ _ _ hm
  have wq : IsE W a n := by obtain ⟨fuel, hf⟩ := h0; exact open_trace hf
  obtain ⟨z, rfl, rfl, rfl, _⟩ := open_int Tryz.underlying3 (hval 1 3 v1 rfl rfl) h1
  clear hA0 hval0
  refine (walk a n c z W wq).mono fun e W' ⟨he, bel⟩ => ?_
  subst he
  exact ⟨_, rfl, _, _, _, [], _, [], hW', trodAll_mk1 (shut_bool Tryz.underlying4 _), (trodAll_cons_mk (Below.trod laidOut (by kernel_rfl) (of_decide_eq_true (by kernel_rfl)) k0 bel lt0) (trodAll_cons_mk (Below.trod laidOut (by kernel_rfl) (of_decide_eq_true (by kernel_rfl)) k1 bel lt1) trodAll_mk0)), rfl, bel.frame _, fun h => by cases h⟩
theorem tc_wrap : Tryz.f3.isWrapper Tryz.pinned.checked.prog Rows.tallyCountsRow.wrapper Rows.tallyCountsRow.mainSum := by
  unfold Func.isWrapper; first | (rw [if_pos (by decide +kernel)]; kernel_rfl) | (rw [if_neg (by decide +kernel)]; exact ⟨rfl, rfl⟩)
theorem tc_named4 : Tryz.pinned.checked.prog.funcNamed Rows.tallyCountsRow.func = some 3 := by kernel_rfl
theorem tc_inst : Tryz.f3.isInstance Tryz.pinned.checked.prog Rows.tallyCountsRow.origin Rows.tallyCountsRow.targs := of_decide_eq_true (by kernel_rfl)
theorem row_holds : Rows.TallyCountsSaid :=
  OpenClaim.holds_of_wide 3 Tryz.f3 rfl rfl rfl rfl rfl rfl rfl ⟨rfl, rfl, rfl, rfl, rfl⟩ rfl rfl rfl rfl rfl tc_named4 Tryz.func3 tc_facts
    tc_inst tc_wrap
    (fun os started H enc _ => lifted os started H enc)
end Go.Proofs.YtppdhckcempmnaaGreatDoor
