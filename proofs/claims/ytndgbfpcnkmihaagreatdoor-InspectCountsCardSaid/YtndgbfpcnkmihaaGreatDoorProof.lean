/- InspectCounts: for every row of frames, every state and every part the law returns true, and the arguments read as they did. The library's table of trailing zeros is as its text lays it (tied). -/
import Derived.Test.YtndgbfpcnkmihaaGreatDoorRows
import Derived.Test.YtndgbfpcnkmihaaGreatDoorTie
import Derived.Test.YtndgbfpcnkmihaaGreatDoorCards
import Derived.Test.YtndgbfpcnkmihaaGreatDoorCountLaw
import Derived.ProofKit
import Derived.LaidMore
import Derived.OpenShut
import Derived.Stop.Joined
import Derived.Lib.LaidTab
import Derived.Lib.SmallJoins
import Derived.SevenTiedAt
import Derived.Deep.Slices
import Derived.Deep.Fields
namespace Go.Proofs.YtndgbfpcnkmihaaGreatDoor
open Go Go.ChangeShapes Go.WideShapes Go.ChangeAt Go.RowKit Go.Joins Go.Deep
set_option linter.unusedVariables false
theorem own : ownKnob Tryz.prog.godebug = none := by kernel_rfl
theorem laidOut : laidOutB Tryz.prog = true := by kernel_rfl
theorem door_met (os : Os) (args : Array Value) : laidMetH Tryz.prog Rows.inspectCountsRow.laid ((World.doorLaid Tryz.prog 400 os).forCall (fun _ _ => 0) ⟨#[], args, []⟩).memory :=
  laidMetH_of_parts3 (fuel := 8) (laidMet_of_run' 8 (by kernel_rfl) (by kernel_rfl)) (by kernel_rfl) (by kernel_rfl)
/-- what the walk is told of a slice of frames that came in -/
def IsS (w : World) (a : Option Addr) (len : Nat) : Prop :=
  len = 0 ∨ ∃ x, a = some x ∧ ∀ i, i < len → ∃ s : Sn, (-2147483648 ≤ s.len ∧ s.len ≤ 2147483647) ∧ w.cell? (x.add (i * 12 + 0)) = some (.int .i64 s.part) ∧ w.cell? (x.add (i * 12 + 1)) = some (.int .i64 s.off) ∧ w.cell? (x.add (i * 12 + 2)) = some (.int .i32 s.len) ∧ w.cell? (x.add (i * 12 + 3)) = some (.int .u8 s.r3) ∧ w.cell? (x.add (i * 12 + 4)) = some (.int .u8 s.r4) ∧ w.cell? (x.add (i * 12 + 5)) = some (.int .u16 s.r5) ∧ w.cell? (x.add (i * 12 + 6)) = some (.int .i32 s.r6) ∧ w.cell? (x.add (i * 12 + 7)) = some (.int .i32 s.r7) ∧ w.cell? (x.add (i * 12 + 8)) = some (.int .i32 s.r8) ∧ w.cell? (x.add (i * 12 + 9)) = some (.int .i32 s.r9) ∧ w.cell? (x.add (i * 12 + 10)) = some (.int .u64 s.r10) ∧ w.cell? (x.add (i * 12 + 11)) = some (.int .i64 s.state)
theorem pick_row {n : Nat} {C : Nat → Sn → Prop} (h : ∀ i, i < n → ∃ x, C i x) : ∃ l : Array Sn, l.size = n ∧ ∀ i, i < n → C i l[i]! := by
  refine ⟨Array.ofFn (fun i : Fin n => Classical.choose (h i.1 i.2)), by simp, fun i hi => ?_⟩
  rw [getElem!_pos _ i (by simpa using hi)]
  simp only [Array.getElem_ofFn]
  exact Classical.choose_spec (h i hi)
theorem walk (a : Option Addr) (n cap : Nat) (st part : Int) (w : World) (h : IsS w a n) :
    Calls Tryz.prog 4 #[.slice a n cap, .int .i64 st, .int .i64 part] w fun e w' => e = .returned (.bool true) ∧ Below w.heap.size w w' := by
  by_cases hl : 300 < n
  · exact law_long a n cap st part hl w
  · rcases h with rfl | ⟨x, rfl, hx⟩
    · exact law_none a cap st part w
    · rcases Nat.eq_zero_or_pos n with rfl | h0
      · exact law_none _ cap st part w
      · obtain ⟨l, rfl, hc⟩ := pick_row hx
        obtain ⟨b, off, spot⟩ := x
        have h00 := (hc 0 h0).2.1
        have hspot : spot = none := by simpa [Addr.add] using World.cell?_spot h00
        subst hspot
        refine law_some b off cap l st part (fun j hj => (hc j hj).1) (by omega) w (World.block_lt_of_cell? w _ (by simpa [Addr.add] using h00)) (fun j hj => ?_)
        obtain ⟨_, c0, c1, c2, c3, c4, c5, c6, c7, c8, c9, c10, c11⟩ := hc j hj
        rw [Go.WideShapes.add_plain] at c0 c1 c2 c3 c4 c5 c6 c7 c8 c9 c10 c11
        exact ⟨c0, c1, c2, c3, c4, c5, c6, c7, c8, c9, c10, c11⟩
theorem get_some {α : Type} {l : List α} {n j : Nat} (h : l.length = n) (hj : j < n) : ∃ y, l[j]? = some y := ⟨l[j]'(by omega), List.getElem?_eq_getElem (by omega)⟩
theorem i32_bounds {n : Int} (h : (Lit.int .i32 n).wf = true) : -2147483648 ≤ n ∧ n ≤ 2147483647 := by
  have e1 : IntKind.i32.min = -2147483648 := by decide
  have e2 : IntKind.i32.max = 2147483647 := by decide
  simp [Lit.wf] at h
  rw [e1, e2] at h
  omega
set_option maxRecDepth 100000 in
theorem open_seen {H : Type} {enc : TypeId × Value → H} {w : World} {base : Nat} {spare : Nat → Bool} {held : Bool} {a : Option Addr} {n cap fuel : Nat} {x : DataW H × List MemPlace}
    (h : DataW.trod enc Tryz.prog w base spare held fuel 35 [.slice a n cap] = some x) : IsS w a n := by
  rcases Go.Deep.open_slice Tryz.underlying35 h with ⟨hcs, _⟩ | ⟨y, len, c, m, nn, D, Pl, hcs, hb, hl, hm, hmm, hx, hi⟩
  · simp at hcs
    exact .inl hcs.2.1
  · simp only [List.cons.injEq, Value.slice.injEq, and_true] at hcs
    obtain ⟨rfl, rfl, rfl⟩ := hcs
    refine .inr ⟨y, rfl, fun i hin => ?_⟩
    have hmi : i < m := by rw [hmm]; split <;> omega
    obtain ⟨cs', hc, ht'⟩ := hi i hmi
    rw [show Tryz.prog.cellsOf 42 = 12 by kernel_rfl] at hc
    obtain ⟨ys, n', _, _, hlen, hyl, hf⟩ := DataW.trod_struct Tryz.underlying42 ht'
    obtain ⟨_, hcl, hat⟩ := World.cells?_some hc
    match cs', hcl with
    | [x0, x1, x2, x3, x4, x5, x6, x7, x8, x9, x10, x11], _ =>
      have k0 := hf 0 _ rfl
      have k1 := hf 1 _ rfl
      have k2 := hf 2 _ rfl
      have k3 := hf 3 _ rfl
      obtain ⟨y0, e0⟩ := get_some (j := 0) hyl (by decide)
      obtain ⟨y1, e1⟩ := get_some (j := 1) hyl (by decide)
      obtain ⟨y2, e2⟩ := get_some (j := 2) hyl (by decide)
      obtain ⟨y3, e3⟩ := get_some (j := 3) hyl (by decide)
      rw [e0] at k0
      rw [e1] at k1
      rw [e2] at k2
      rw [e3] at k3
      have g0 : DataW.trod enc Tryz.prog w base spare held n' 3 [x0] = some y0 := k0
      have g1 : DataW.trod enc Tryz.prog w base spare held n' 3 [x1] = some y1 := k1
      have g2 : DataW.trod enc Tryz.prog w base spare held n' 40 [x2, x3, x4, x5, x6, x7, x8, x9, x10] = some y2 := k2
      have g3 : DataW.trod enc Tryz.prog w base spare held n' 3 [x11] = some y3 := k3
      obtain ⟨zs, n2, _, _, hlen2, hzl, hg⟩ := DataW.trod_struct Tryz.underlying40 g2
      obtain ⟨n0, q0, _, _⟩ := DataW.trod_int Tryz.underlying3 g0
      obtain ⟨n1, q1, _, _⟩ := DataW.trod_int Tryz.underlying3 g1
      obtain ⟨n11, q11, _, _⟩ := DataW.trod_int Tryz.underlying3 g3
      have j0 := hg 0 _ rfl
      obtain ⟨z0, f0⟩ := get_some (j := 0) hzl (by decide)
      rw [f0] at j0
      have t0 : DataW.trod enc Tryz.prog w base spare held n2 21 [x2] = some z0 := j0
      obtain ⟨m2, q2, _, b0⟩ := DataW.trod_int Tryz.underlying21 t0
      have j1 := hg 1 _ rfl
      obtain ⟨z1, f1⟩ := get_some (j := 1) hzl (by decide)
      rw [f1] at j1
      have t1 : DataW.trod enc Tryz.prog w base spare held n2 5 [x3] = some z1 := j1
      obtain ⟨m3, q3, _, b1⟩ := DataW.trod_int Tryz.underlying5 t1
      have j2 := hg 2 _ rfl
      obtain ⟨z2, f2⟩ := get_some (j := 2) hzl (by decide)
      rw [f2] at j2
      have t2 : DataW.trod enc Tryz.prog w base spare held n2 5 [x4] = some z2 := j2
      obtain ⟨m4, q4, _, b2⟩ := DataW.trod_int Tryz.underlying5 t2
      have j3 := hg 3 _ rfl
      obtain ⟨z3, f3⟩ := get_some (j := 3) hzl (by decide)
      rw [f3] at j3
      have t3 : DataW.trod enc Tryz.prog w base spare held n2 38 [x5] = some z3 := j3
      obtain ⟨m5, q5, _, b3⟩ := DataW.trod_int Tryz.underlying38 t3
      have j4 := hg 4 _ rfl
      obtain ⟨z4, f4⟩ := get_some (j := 4) hzl (by decide)
      rw [f4] at j4
      have t4 : DataW.trod enc Tryz.prog w base spare held n2 21 [x6] = some z4 := j4
      obtain ⟨m6, q6, _, b4⟩ := DataW.trod_int Tryz.underlying21 t4
      have j5 := hg 5 _ rfl
      obtain ⟨z5, f5⟩ := get_some (j := 5) hzl (by decide)
      rw [f5] at j5
      have t5 : DataW.trod enc Tryz.prog w base spare held n2 21 [x7] = some z5 := j5
      obtain ⟨m7, q7, _, b5⟩ := DataW.trod_int Tryz.underlying21 t5
      have j6 := hg 6 _ rfl
      obtain ⟨z6, f6⟩ := get_some (j := 6) hzl (by decide)
      rw [f6] at j6
      have t6 : DataW.trod enc Tryz.prog w base spare held n2 21 [x8] = some z6 := j6
      obtain ⟨m8, q8, _, b6⟩ := DataW.trod_int Tryz.underlying21 t6
      have j7 := hg 7 _ rfl
      obtain ⟨z7, f7⟩ := get_some (j := 7) hzl (by decide)
      rw [f7] at j7
      have t7 : DataW.trod enc Tryz.prog w base spare held n2 21 [x9] = some z7 := j7
      obtain ⟨m9, q9, _, b7⟩ := DataW.trod_int Tryz.underlying21 t7
      have j8 := hg 8 _ rfl
      obtain ⟨z8, f8⟩ := get_some (j := 8) hzl (by decide)
      rw [f8] at j8
      have t8 : DataW.trod enc Tryz.prog w base spare held n2 27 [x10] = some z8 := j8
      obtain ⟨m10, q10, _, b8⟩ := DataW.trod_int Tryz.underlying27 t8
      simp only [List.cons.injEq, and_true] at q0 q1 q2 q3 q4 q5 q6 q7 q8 q9 q10 q11
      subst q0 q1 q2 q3 q4 q5 q6 q7 q8 q9 q10 q11
      refine ⟨⟨n0, n1, m2, m3, m4, m5, m6, m7, m8, m9, m10, n11⟩, i32_bounds b0, ?_⟩
      have key : ∀ j, j < 12 → w.cell? (y.add (i * 12 + j)) = ([.int .i64 n0, .int .i64 n1, .int .i32 m2, .int .u8 m3, .int .u8 m4, .int .u16 m5, .int .i32 m6, .int .i32 m7, .int .i32 m8, .int .i32 m9, .int .u64 m10, .int .i64 n11] : List Value)[j]? := fun j hj => by
        rw [← Go.Deep.add_add]; exact hat j hj
      exact ⟨key 0 (by decide), key 1 (by decide), key 2 (by decide), key 3 (by decide), key 4 (by decide), key 5 (by decide), key 6 (by decide), key 7 (by decide), key 8 (by decide), key 9 (by decide), key 10 (by decide), key 11 (by decide)⟩
set_option maxRecDepth 100000 in
theorem lifted (os : Os) (started : os.Started) (H : Type) (enc : TypeId × Value → H) :
    ReturnsInHanded {} Tryz.checked os 4 .any (fun w args => (Rows.inspectCountsSpec.pre enc Tryz.prog Tryz.f4 [] false w args ∧ laidMetH Tryz.prog Rows.inspectCountsRow.laid w) ∧ sizedMet enc Tryz.prog Tryz.f4 (OpenSpec.ofChange Rows.inspectCountsSpec) false w args)
      (Rows.inspectCountsSpec.post enc Tryz.prog Tryz.f4 false true false false) := by
  refine returnsInHanded_of_change_and (C := Tryz.checked) (X := fun w _ => laidMetH Tryz.prog Rows.inspectCountsRow.laid w) (fun _ _ _ hh h => h.of_heap hh) own started (by kernel_rfl) Tryz.func4
    (ChangeSpec.witness_shaped (enc := enc) (C := Tryz.checked) (os := os) (X := fun w _ => laidMetH Tryz.prog Rows.inspectCountsRow.laid w) false (World.doorLaid Tryz.prog 400 os) #[.slice none 0 0, .int .i64 0, .int .i64 0] 8 rfl (World.shaped_of_RefB (by kernel_rfl) (by kernel_rfl)) (by kernel_rfl) (by kernel_rfl) (by kernel_rfl) (door_met os _)) ?_
  intro W base args ds gs before hval0 hW _ _ hL _
  have hval : ∀ (j : Nat) t v, Tryz.f4.params[j]? = some t → args[j]? = some v → Value.okWide Tryz.prog W .any base t v := hval0
  have hW' := hW
  obtain ⟨p, q, hA0, hV, rfl, hfz, hnd⟩ := hW
  have hA : DataW.TrodAll enc Tryz.prog W 0 (fun _ => true) true Tryz.f4.params.toList args.toList ds p := hA0
  rw [Tryz.params4] at hA hval
  obtain ⟨v0, vs0, d0, ds0, p0, q0, hargs, rfl, rfl, h0, r0⟩ := trodAll_cons hA
  obtain ⟨v1, vs1, d1, ds1, p1, q1, rfl, rfl, rfl, h1, r1⟩ := trodAll_cons r0
  obtain ⟨v2, vs2, d2, ds2, p2, q2, rfl, rfl, rfl, h2, r2⟩ := trodAll_cons r1
  obtain ⟨rfl, rfl, rfl⟩ := trodAll_nil r2
  obtain rfl : args = #[v0, v1, v2] := by cases args; simp_all
  obtain ⟨rfl, rfl⟩ := trodVars_none hV
  obtain ⟨a, n, c, rfl⟩ := okWide_slice Tryz.underlying35 (hval 0 35 v0 rfl rfl)
  have k0 := h0
  have k1 := h1
  have k2 := h2
  have lt0 : ∀ x ∈ p0, x.block < W.heap.size := by obtain ⟨m, hm⟩ := k0; exact DataW.trod_lt m _ _ _ hm
  have lt1 : ∀ x ∈ p1, x.block < W.heap.size := by obtain ⟨m, hm⟩ := k1; exact DataW.trod_lt m _ _ _ hm
  have lt2 : ∀ x ∈ p2, x.block < W.heap.size := by obtain ⟨m, hm⟩ := k2; exact DataW.trod_lt m _ _ _ hm
  have wq : IsS W a n := by obtain ⟨fuel, hf⟩ := h0; exact open_seen hf
  obtain ⟨st, rfl, rfl, rfl, _⟩ := open_int Tryz.underlying3 (hval 1 3 v1 rfl rfl) h1
  obtain ⟨part, rfl, rfl, rfl, _⟩ := open_int Tryz.underlying3 (hval 2 3 v2 rfl rfl) h2
  clear hA0 hval0
  refine (walk a n c st part W wq).mono fun e W' ⟨he, bel⟩ => ?_
  subst he
  exact ⟨_, rfl, _, _, _, [], _, [], hW', trodAll_mk1 (shut_bool Tryz.underlying4 _), (trodAll_cons_mk (Below.trod laidOut (by kernel_rfl) (of_decide_eq_true (by kernel_rfl)) k0 bel lt0) (trodAll_cons_mk (Below.trod laidOut (by kernel_rfl) (of_decide_eq_true (by kernel_rfl)) k1 bel lt1) (trodAll_cons_mk (Below.trod laidOut (by kernel_rfl) (of_decide_eq_true (by kernel_rfl)) k2 bel lt2) trodAll_mk0))), rfl, bel.frame _, fun h => by cases h⟩
theorem row_holds : Rows.InspectCountsSaid :=
  OpenClaim.holds_of_wide 4 Tryz.f4 rfl rfl rfl rfl rfl rfl rfl ⟨rfl, rfl, rfl, rfl, rfl⟩ rfl rfl rfl rfl rfl (by kernel_rfl) Tryz.func4 (by kernel_rfl)
    (of_decide_eq_true (by kernel_rfl)) (by unfold Func.isWrapper; first | (rw [if_pos (by decide +kernel)]; kernel_rfl) | (rw [if_neg (by decide +kernel)]; exact ⟨rfl, rfl⟩))
    (fun os started H enc _ => lifted os started H enc)
theorem card_holds : Rows.InspectCountsCardSaid :=
  Claim7.holds_tied_plain_at .later [] [.data] true (true, "aca9039ed721b4102ade47d63b3c2bc1211cbeaee7d3aa3e921936a3d5b534b4") true
    row_holds (fun _ h => by cases h) (by kernel_rfl) (fun _ h => by cases h) inspectCounts_row_tie rfl ⟨rfl, rfl⟩ (by kernel_rfl) rfl
    (fun f fn hf hfn => by
      obtain rfl : f = 4 := Option.some.inj ((show Tryz.prog.funcNamed Rows.inspectCountsRow.func = some 4 by kernel_rfl).symm.trans hf) |>.symm
      obtain rfl : fn = Tryz.f4 := (Option.some.inj (Tryz.func4.symm.trans hfn)).symm
      exact ⟨by kernel_rfl, fun j t ht => by
        rw [Tryz.params4] at ht
        have hm : t ∈ [35, 3, 3] := by simpa using Array.mem_of_getElem? ht
        have hall : ([35, 3, 3].all fun u => !Tryz.prog.wantsStandIn u) = true := by kernel_rfl
        exact (show Tryz.prog.wantsStandIn t = false by simpa using List.all_eq_true.1 hall t hm)⟩)
    (by kernel_rfl)
#print axioms card_holds
end Go.Proofs.YtndgbfpcnkmihaaGreatDoor
