/- InspectTells: for whatever bytes, log, state and part the law returns true, and the arguments read as they did. The library's table of trailing zeros is as its text lays it (tied). -/
import Derived.Test.YtndgbfpcnkmihaaGreatDoorRows
import Derived.Test.YtndgbfpcnkmihaaGreatDoorTie
import Derived.Test.YtndgbfpcnkmihaaGreatDoorCards
import Derived.Test.YtndgbfpcnkmihaaGreatDoorTelC
import Derived.ProofKit
import Derived.LaidMore
import Derived.OpenShut
import Derived.Stop.Joined
import Derived.Lib.LaidTab
import Derived.Lib.SmallJoins
import Derived.SevenTiedAt
import Derived.Deep.Slices
import Derived.Deep.Fields
namespace Go.Proofs.YtndgbfpcnkmihaaGreatDoor
open Go Go.ChangeShapes Go.WideShapes Go.ChangeAt Go.RowKit Go.Joins Go.Deep
open Go.Proofs.YtndgbfpcnkmihaaGreatDoor.Ba
set_option linter.unusedVariables false
theorem own : ownKnob Tryz.prog.godebug = none := by kernel_rfl
theorem laidOut : laidOutB Tryz.prog = true := by kernel_rfl
theorem door_met (os : Os) (args : Array Value) : laidMetH Tryz.prog Rows.inspectTellsRow.laid ((World.doorLaid Tryz.prog 400 os).forCall (fun _ _ => 0) ⟨#[], args, []⟩).memory :=
  laidMetH_of_parts3 (fuel := 8) (laidMet_of_run' 8 (by kernel_rfl) (by kernel_rfl)) (by kernel_rfl) (by kernel_rfl)
/-- what the walk is told of a slice of bytes that came in -/
def IsBs (w : World) (a : Option Addr) (len cap : Nat) : Prop := len = 0 ∨ ∃ x, a = some x ∧ len ≤ cap ∧ ∀ i, i < len → ∃ k : Nat, k < 256 ∧ w.cell? (x.add i) = some (.int .u8 (k : Nat))
theorem u8_bounds {n : Int} (h : (Lit.int .u8 n).wf = true) : 0 ≤ n ∧ n < 256 := by
  have e1 : IntKind.u8.min = 0 := by decide
  have e2 : IntKind.u8.max = 255 := by decide
  simp [Lit.wf] at h
  rw [e1, e2] at h
  omega
theorem i64_bounds {n : Int} (h : (Lit.int .i64 n).wf = true) : -9223372036854775808 ≤ n ∧ n ≤ 9223372036854775807 := by
  simp [Lit.wf] at h
  exact h
theorem get_some {α : Type} {l : List α} {n j : Nat} (h : l.length = n) (hj : j < n) : ∃ y, l[j]? = some y := ⟨l[j]'(by omega), List.getElem?_eq_getElem (by omega)⟩
theorem walk (a : Option Addr) (n cap : Nat) (l : Lg) (hl : l.wf) (st part : Int) (w : World) (h : IsBs w a n cap) :
    Calls Tryz.prog 3 #[.slice a n cap, l.val, .int .i64 st, .int .i64 part] w fun e w' => e = .returned (.bool true) ∧ Below w.heap.size w w' := by
  by_cases hb : 5000 < n
  · exact Sy.law_big a n cap l st part hb w
  · by_cases hth : l.there n
    · rcases h with rfl | ⟨x, rfl, hcap, hx⟩
      · have h1 := Lg.ok.bounds hth.1
        have h2 := hth.2
        exfalso
        omega
      · have h1 := Lg.ok.bounds hth.1
        have h2 := hth.2
        have h0 : 0 < n := by omega
        obtain ⟨b, off, spot⟩ := x
        obtain ⟨k0, _, h00⟩ := hx 0 h0
        have hspot : spot = none := by simpa [Addr.add] using World.cell?_spot h00
        subst hspot
        have hB : ∃ B : Nat → Nat, (∀ j, B j < 256) ∧ ∀ i, i < n → w.cell? ((⟨b, off, none⟩ : Addr).add i) = some (.int .u8 (B i : Nat)) := by
          refine ⟨fun i => if hi : i < n then Classical.choose (hx i hi) else 0, fun j => ?_, fun i hi => ?_⟩
          · dsimp only
            split
            · rename_i hi; exact (Classical.choose_spec (hx j hi)).1
            · decide
          · simp only [dif_pos hi]
            exact (Classical.choose_spec (hx i hi)).2
        obtain ⟨B, hB, hc⟩ := hB
        exact Sy.law_there l B hB b off n cap st part hcap hth (by omega) w (World.block_lt_of_cell? w _ (by simpa [Addr.add] using h00)) (fun j hj => by
          have := hc j hj
          rwa [Go.WideShapes.add_plain] at this)
    · exact Sy.law_no l hl a n cap st part (by omega) hth (by omega) w
set_option maxRecDepth 100000 in
theorem open_bytes {H : Type} {enc : TypeId × Value → H} {w : World} {base : Nat} {spare : Nat → Bool} {held : Bool} {a : Option Addr} {n cap fuel : Nat} {x : DataW H × List MemPlace}
    (h : DataW.trod enc Tryz.prog w base spare held fuel 22 [.slice a n cap] = some x) : IsBs w a n cap := by
  rcases Go.Deep.open_slice1 Tryz.underlying22 (by kernel_rfl) h with ⟨hcs, _⟩ | ⟨y, len, c, m, nn, V, D, Pl, hcs, hb, hl, hm, hmm, hx, hi⟩
  · simp at hcs
    exact .inl hcs.2.1
  · simp only [List.cons.injEq, Value.slice.injEq, and_true] at hcs
    obtain ⟨rfl, rfl, rfl⟩ := hcs
    refine .inr ⟨y, rfl, hl, fun i hin => ?_⟩
    have hmi : i < m := by rw [hmm]; split <;> omega
    obtain ⟨h1, h2⟩ := hi i hmi
    obtain ⟨k, hk, _, hw⟩ := DataW.trod_int Tryz.underlying5 h2
    simp only [List.cons.injEq, and_true] at hk
    have hb := u8_bounds hw
    exact ⟨k.toNat, by omega, by rw [h1, hk, Int.toNat_of_nonneg hb.1]⟩
set_option maxRecDepth 100000 in
theorem open_log {H : Type} {enc : TypeId × Value → H} {w : World} {base : Nat} {spare : Nat → Bool} {held : Bool} {cs : Array Value} {fuel : Nat} {x : DataW H × List MemPlace} (hs : cs.size = 7)
    (h : DataW.trod enc Tryz.prog w base spare held fuel 24 cs.toList = some x) : ∃ l : Lg, l.wf ∧ Value.agg cs = l.val := by
  obtain ⟨x0, x1, x2, x3, x4, x5, x6, hcs⟩ : ∃ x0 x1 x2 x3 x4 x5 x6, cs.toList = [x0, x1, x2, x3, x4, x5, x6] := by
    match hl : cs.toList, (show cs.toList.length = 7 by simpa using hs) with
    | [x0, x1, x2, x3, x4, x5, x6], _ => exact ⟨x0, x1, x2, x3, x4, x5, x6, rfl⟩
  rw [hcs] at h
  have e : cs = #[x0, x1, x2, x3, x4, x5, x6] := Array.ext' (by rw [hcs])
  obtain ⟨ys, n', _, _, hlen, hyl, hf⟩ := DataW.trod_struct Tryz.underlying24 h
  have k0 := hf 0 _ rfl
  obtain ⟨y0, e0⟩ := get_some (j := 0) hyl (by decide)
  rw [e0] at k0
  have g0 : DataW.trod enc Tryz.prog w base spare held n' 3 [x0] = some y0 := k0
  obtain ⟨n0, q0, _, b0⟩ := DataW.trod_int Tryz.underlying3 g0
  have k1 := hf 1 _ rfl
  obtain ⟨y1, e1⟩ := get_some (j := 1) hyl (by decide)
  rw [e1] at k1
  have g1 : DataW.trod enc Tryz.prog w base spare held n' 3 [x1] = some y1 := k1
  obtain ⟨n1, q1, _, b1⟩ := DataW.trod_int Tryz.underlying3 g1
  have k2 := hf 2 _ rfl
  obtain ⟨y2, e2⟩ := get_some (j := 2) hyl (by decide)
  rw [e2] at k2
  have g2 : DataW.trod enc Tryz.prog w base spare held n' 3 [x2] = some y2 := k2
  obtain ⟨n2, q2, _, b2⟩ := DataW.trod_int Tryz.underlying3 g2
  have k3 := hf 3 _ rfl
  obtain ⟨y3, e3⟩ := get_some (j := 3) hyl (by decide)
  rw [e3] at k3
  have g3 : DataW.trod enc Tryz.prog w base spare held n' 3 [x3] = some y3 := k3
  obtain ⟨n3, q3, _, b3⟩ := DataW.trod_int Tryz.underlying3 g3
  have k4 := hf 4 _ rfl
  obtain ⟨y4, e4⟩ := get_some (j := 4) hyl (by decide)
  rw [e4] at k4
  have g4 : DataW.trod enc Tryz.prog w base spare held n' 21 [x4] = some y4 := k4
  obtain ⟨n4, q4, _, b4⟩ := DataW.trod_int Tryz.underlying21 g4
  have k5 := hf 5 _ rfl
  obtain ⟨y5, e5⟩ := get_some (j := 5) hyl (by decide)
  rw [e5] at k5
  have g5 : DataW.trod enc Tryz.prog w base spare held n' 21 [x5] = some y5 := k5
  obtain ⟨n5, q5, _, b5⟩ := DataW.trod_int Tryz.underlying21 g5
  have k6 := hf 6 _ rfl
  obtain ⟨y6, e6⟩ := get_some (j := 6) hyl (by decide)
  rw [e6] at k6
  have g6 : DataW.trod enc Tryz.prog w base spare held n' 21 [x6] = some y6 := k6
  obtain ⟨n6, q6, _, b6⟩ := DataW.trod_int Tryz.underlying21 g6
  simp only [List.cons.injEq, and_true] at q0 q1 q2 q3 q4 q5 q6
  subst q0 q1 q2 q3 q4 q5 q6
  have r0 := i64_bounds b0
  have r1 := i64_bounds b1
  have r2 := i64_bounds b2
  have r3 := i64_bounds b3
  exact ⟨⟨n0, n1, n2, n3, n4, n5, n6⟩, ⟨r0.1, r0.2, r1.1, r1.2, r2.1, r2.2, r3.1, r3.2⟩, by rw [e]; rfl⟩
set_option maxRecDepth 100000 in
theorem lifted (os : Os) (started : os.Started) (H : Type) (enc : TypeId × Value → H) :
    ReturnsInHanded {} Tryz.checked os 3 .any (fun w args => (Rows.inspectTellsSpec.pre enc Tryz.prog Tryz.f3 [] false w args ∧ laidMetH Tryz.prog Rows.inspectTellsRow.laid w) ∧ sizedMet enc Tryz.prog Tryz.f3 (OpenSpec.ofChange Rows.inspectTellsSpec) false w args)
      (Rows.inspectTellsSpec.post enc Tryz.prog Tryz.f3 false true false false) := by
  refine returnsInHanded_of_change_and (C := Tryz.checked) (X := fun w _ => laidMetH Tryz.prog Rows.inspectTellsRow.laid w) (fun _ _ _ hh h => h.of_heap hh) own started (by kernel_rfl) Tryz.func3
    (ChangeSpec.witness_shaped (enc := enc) (C := Tryz.checked) (os := os) (X := fun w _ => laidMetH Tryz.prog Rows.inspectTellsRow.laid w) false (World.doorLaid Tryz.prog 400 os) #[.slice none 0 0, .agg #[.int .i64 0, .int .i64 0, .int .i64 0, .int .i64 0, .int .i32 0, .int .i32 0, .int .i32 0], .int .i64 0, .int .i64 0] 8 rfl (World.shaped_of_RefB (by kernel_rfl) (by kernel_rfl)) (by kernel_rfl) (by kernel_rfl) (by kernel_rfl) (door_met os _)) ?_
  intro W base args ds gs before hval0 hW _ _ hL _
  have hval : ∀ (j : Nat) t v, Tryz.f3.params[j]? = some t → args[j]? = some v → Value.okWide Tryz.prog W .any base t v := hval0
  have hW' := hW
  obtain ⟨p, q, hA0, hV, rfl, hfz, hnd⟩ := hW
  have hA : DataW.TrodAll enc Tryz.prog W 0 (fun _ => true) true Tryz.f3.params.toList args.toList ds p := hA0
  rw [Tryz.params3] at hA hval
  obtain ⟨v0, vs0, d0, ds0, p0, q0, hargs, rfl, rfl, h0, r0⟩ := trodAll_cons hA
  obtain ⟨v1, vs1, d1, ds1, p1, q1, rfl, rfl, rfl, h1, r1⟩ := trodAll_cons r0
  obtain ⟨v2, vs2, d2, ds2, p2, q2, rfl, rfl, rfl, h2, r2⟩ := trodAll_cons r1
  obtain ⟨v3, vs3, d3, ds3, p3, q3, rfl, rfl, rfl, h3, r3⟩ := trodAll_cons r2
  obtain ⟨rfl, rfl, rfl⟩ := trodAll_nil r3
  obtain rfl : args = #[v0, v1, v2, v3] := by cases args; simp_all
  obtain ⟨rfl, rfl⟩ := trodVars_none hV
  obtain ⟨a, n, c, rfl⟩ := okWide_slice Tryz.underlying22 (hval 0 22 v0 rfl rfl)
  obtain ⟨cs, rfl, hcs⟩ := okWide_struct Tryz.underlying24 (hval 1 24 v1 rfl rfl)
  have k0 := h0
  have k1 := h1
  have k2 := h2
  have k3 := h3
  have lt0 : ∀ x ∈ p0, x.block < W.heap.size := by obtain ⟨m, hm⟩ := k0; exact DataW.trod_lt m _ _ _ hm
  have lt1 : ∀ x ∈ p1, x.block < W.heap.size := by obtain ⟨m, hm⟩ := k1; exact DataW.trod_lt m _ _ _ hm
  have lt2 : ∀ x ∈ p2, x.block < W.heap.size := by obtain ⟨m, hm⟩ := k2; exact DataW.trod_lt m _ _ _ hm
  have lt3 : ∀ x ∈ p3, x.block < W.heap.size := by obtain ⟨m, hm⟩ := k3; exact DataW.trod_lt m _ _ _ hm
  have wq : IsBs W a n c := by obtain ⟨fuel, hf⟩ := h0; exact open_bytes hf
  obtain ⟨l, hlw, hle⟩ : ∃ l : Lg, l.wf ∧ Value.agg cs = l.val := by obtain ⟨fuel, hf⟩ := h1; exact open_log (hcs.trans (by kernel_rfl)) hf
  obtain ⟨st, rfl, rfl, rfl, _⟩ := open_int Tryz.underlying3 (hval 2 3 v2 rfl rfl) h2
  obtain ⟨part, rfl, rfl, rfl, _⟩ := open_int Tryz.underlying3 (hval 3 3 v3 rfl rfl) h3
  clear hA0 hval0
  have hwk := walk a n c l hlw st part W wq
  rw [← hle] at hwk
  refine hwk.mono fun e W' ⟨he, bel⟩ => ?_
  subst he
  exact ⟨_, rfl, _, _, _, [], _, [], hW', trodAll_mk1 (shut_bool Tryz.underlying4 _), (trodAll_cons_mk (Below.trod laidOut (by kernel_rfl) (of_decide_eq_true (by kernel_rfl)) k0 bel lt0) (trodAll_cons_mk (Below.trod laidOut (by kernel_rfl) (of_decide_eq_true (by kernel_rfl)) k1 bel lt1) (trodAll_cons_mk (Below.trod laidOut (by kernel_rfl) (of_decide_eq_true (by kernel_rfl)) k2 bel lt2) (trodAll_cons_mk (Below.trod laidOut (by kernel_rfl) (of_decide_eq_true (by kernel_rfl)) k3 bel lt3) trodAll_mk0)))), rfl, bel.frame _, fun h => by cases h⟩
theorem row_holds : Rows.InspectTellsSaid :=
  OpenClaim.holds_of_wide 3 Tryz.f3 rfl rfl rfl rfl rfl rfl rfl ⟨rfl, rfl, rfl, rfl, rfl⟩ rfl rfl rfl rfl rfl (by kernel_rfl) Tryz.func3 (by kernel_rfl)
    (of_decide_eq_true (by kernel_rfl)) (by unfold Func.isWrapper; first | (rw [if_pos (by decide +kernel)]; kernel_rfl) | (rw [if_neg (by decide +kernel)]; exact ⟨rfl, rfl⟩))
    (fun os started H enc _ => lifted os started H enc)
theorem card_holds : Rows.InspectTellsCardSaid :=
  Claim7.holds_tied_plain_at .later [] [.data] true (true, "aca9039ed721b4102ade47d63b3c2bc1211cbeaee7d3aa3e921936a3d5b534b4") true
    row_holds (fun _ h => by cases h) (by kernel_rfl) (fun _ h => by cases h) inspectTells_row_tie rfl ⟨rfl, rfl⟩ (by kernel_rfl) rfl
    (fun f fn hf hfn => by
      obtain rfl : f = 3 := Option.some.inj ((show Tryz.prog.funcNamed Rows.inspectTellsRow.func = some 3 by kernel_rfl).symm.trans hf) |>.symm
      obtain rfl : fn = Tryz.f3 := (Option.some.inj (Tryz.func3.symm.trans hfn)).symm
      exact ⟨by kernel_rfl, fun j t ht => by
        rw [Tryz.params3] at ht
        have hm : t ∈ [22, 24, 3, 3] := by simpa using Array.mem_of_getElem? ht
        have hall : ([22, 24, 3, 3].all fun u => !Tryz.prog.wantsStandIn u) = true := by kernel_rfl
        exact (show Tryz.prog.wantsStandIn t = false by simpa using List.all_eq_true.1 hall t hm)⟩)
    (by kernel_rfl)
#print axioms card_holds
end Go.Proofs.YtndgbfpcnkmihaaGreatDoor
