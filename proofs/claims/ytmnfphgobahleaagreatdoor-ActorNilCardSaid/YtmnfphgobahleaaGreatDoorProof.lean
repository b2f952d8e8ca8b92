/- ActorNil: for every answer and every clock, nil actors are at their end: the law returns true, and the arguments read as they did. The library's table of trailing zeros is as its text lays it (tied). -/
import Derived.Test.YtmnfphgobahleaaGreatDoorRows
import Derived.Test.YtmnfphgobahleaaGreatDoorTie
import Derived.Test.YtmnfphgobahleaaGreatDoorCards
import Derived.Test.YtmnfphgobahleaaGreatDoorRun
import Derived.ProofKit
import Derived.LaidMore
import Derived.OpenShut
import Derived.Stop.Joined
import Derived.Lib.LaidTab
import Derived.Lib.SmallJoins
import Derived.SevenTiedAt
namespace Go.Proofs.YtmnfphgobahleaaGreatDoor
open Go Go.ChangeShapes Go.WideShapes Go.ChangeAt Go.RowKit Go.Joins
theorem own : ownKnob Tryz.prog.godebug = none := by kernel_rfl
theorem laidOut : laidOutB Tryz.prog = true := by kernel_rfl
/-- the name of the listed table -/
def tabName : String := (Rows.actorNilRow.laid.head?.map (·.1)).getD default
theorem gTab : Tryz.prog.globalNamed tabName = some 0 := by kernel_rfl
theorem tTab : (Tryz.prog.globals[0]?).map (·.type) = some 275 := by kernel_rfl
theorem door_met (os : Os) (args : Array Value) : laidMetH Tryz.prog Rows.actorNilRow.laid ((World.doorLaid Tryz.prog 400 os).forCall (fun _ _ => 0) ⟨#[], args, []⟩).memory :=
  laidMetH_of_parts3 (fuel := 8) (laidMet_of_run' 8 (by kernel_rfl) (by kernel_rfl)) (by kernel_rfl) (by kernel_rfl)
theorem of_laid {W : World} (h : laidMetH Tryz.prog Rows.actorNilRow.laid W) : TabAt 0 Lib.deBruijn64tab W := by
  rw [MakeChecks.laidMetH_plain _ _ _ (by kernel_rfl)] at h
  have h2 := Lib.tabIs_of_head (name := tabName) (k := .u8) (zs := Lib.deBruijn64tab.map Int.ofNat) (rest := []) gTab tTab Tryz.underlying275 Tryz.underlying5 (by kernel_rfl) (by kernel_rfl) h
  intro j hj
  have h3 := h2.cell gTab j (by simpa using hj)
  rw [h3]
  simp [List.getD, hj]
theorem slice_of {H : Type} {enc : TypeId × Value → H} {P : Program} {w : World} {base : Nat} {spare : Nat → Bool} {held : Bool} {fuel : Nat} {t e : TypeId} {v : Value} {x : DataW H × List MemPlace} (ht : P.underlying t = some (.slice e)) (h : DataW.trod enc P w base spare held fuel t [v] = some x) : ∃ a n c, v = .slice a n c := by
  cases fuel with
  | zero => simp [DataW.trod] at h
  | succ n =>
    unfold DataW.trod at h
    rw [ht] at h
    cases v with
    | slice a n c => exact ⟨a, n, c, rfl⟩
    | _ => simp at h
theorem walk (n : Int) (b : Bool) (a : Option Addr) (l c : Nat) (now : Int) (W : World) (hT : TabAt 0 Lib.deBruijn64tab W) :
    Calls Tryz.prog 3 #[.agg #[.int .u64 n, .bool b, .slice a l c], .int .i64 now] W fun e w' => e = .returned (.bool true) ∧ Below W.heap.size W w' := by
  refine AE.ae_true_with mixed ?_ runs W (S_ok W hT)
  refine .cons (.agg rfl fun i hi => ?_) (.cons (.topI _ _) (.nil _))
  match i, hi with
  | 0, _ => exact .topI _ _
  | 1, _ => exact .topB _
  | 2, _ => exact .topS _ _ _
set_option maxRecDepth 100000 in
theorem lifted (os : Os) (started : os.Started) (H : Type) (enc : TypeId × Value → H) :
    ReturnsInHanded {} Tryz.checked os 3 .any (fun w args => (Rows.actorNilSpec.pre enc Tryz.prog Tryz.f3 [] false w args ∧ laidMetH Tryz.prog Rows.actorNilRow.laid w) ∧ sizedMet enc Tryz.prog Tryz.f3 (OpenSpec.ofChange Rows.actorNilSpec) false w args)
      (Rows.actorNilSpec.post enc Tryz.prog Tryz.f3 false true false false) := by
  refine returnsInHanded_of_change_and (C := Tryz.checked) (X := fun w _ => laidMetH Tryz.prog Rows.actorNilRow.laid w) (fun _ _ _ hh h => h.of_heap hh) own started (by kernel_rfl) Tryz.func3
    (ChangeSpec.witness_shaped (enc := enc) (C := Tryz.checked) (os := os) (X := fun w _ => laidMetH Tryz.prog Rows.actorNilRow.laid w) false (World.doorLaid Tryz.prog 400 os) #[.agg #[.int .u64 0, .bool false, .slice none 0 0], .int .i64 0] 8 rfl (World.shaped_of_RefB (by kernel_rfl) (by kernel_rfl)) (by kernel_rfl) (by kernel_rfl) (by kernel_rfl) (door_met os _)) ?_
  intro W base args ds gs before hval0 hW _ _ hL _
  have hval : ∀ (j : Nat) t v, Tryz.f3.params[j]? = some t → args[j]? = some v → Value.okWide Tryz.prog W .any base t v := hval0
  have hW' := hW
  obtain ⟨p, q, hA0, hV, rfl, hfz, hnd⟩ := hW
  have hA : DataW.TrodAll enc Tryz.prog W 0 (fun _ => true) true Tryz.f3.params.toList args.toList ds p := hA0
  rw [Tryz.params3] at hA hval
  obtain ⟨v0, vs0, d0, ds0, p0, q0, hargs, rfl, rfl, h0, r0⟩ := trodAll_cons hA
  obtain ⟨v1, vs1, d1, ds1, p1, q1, rfl, rfl, rfl, h1, r1⟩ := trodAll_cons r0
  obtain ⟨rfl, rfl, rfl⟩ := trodAll_nil r1
  obtain rfl : args = #[v0, v1] := by cases args; simp_all
  obtain ⟨rfl, rfl⟩ := trodVars_none hV
  have k0 := h0
  have k1 := h1
  have lt0 : ∀ x ∈ p0, x.block < W.heap.size := by obtain ⟨m, hm⟩ := k0; exact DataW.trod_lt m _ _ _ hm
  have lt1 : ∀ x ∈ p1, x.block < W.heap.size := by obtain ⟨m, hm⟩ := k1; exact DataW.trod_lt m _ _ _ hm
  obtain ⟨c0, c1, c2, y0, y1, y2, m, rfl, _, _, g0, g1, g2⟩ := open_agg3 Tryz.underlying25 (by kernel_rfl) (by kernel_rfl) (hval 0 25 v0 rfl rfl) h0
  obtain ⟨n, e0, _, _⟩ := DataW.trod_int Tryz.underlying22 g0
  obtain ⟨b, e1, _⟩ := DataW.trod_bool Tryz.underlying4 g1
  obtain ⟨a, l, c, rfl⟩ := slice_of Tryz.underlying23 g2
  simp only [List.cons.injEq, and_true] at e0 e1
  subst e0 e1
  obtain ⟨now, rfl, rfl, rfl, _⟩ := open_int Tryz.underlying2 (hval 1 2 v1 rfl rfl) h1
  have hT := of_laid hL
  clear hA0 hval0
  refine (walk n b a l c now W hT).mono fun e W' ⟨he, bel⟩ => ?_
  subst he
  exact ⟨_, rfl, _, _, _, [], _, [], hW', trodAll_mk1 (shut_bool Tryz.underlying4 _), (trodAll_cons_mk (Below.trod laidOut (by kernel_rfl) (of_decide_eq_true (by kernel_rfl)) k0 bel lt0) (trodAll_cons_mk (Below.trod laidOut (by kernel_rfl) (of_decide_eq_true (by kernel_rfl)) k1 bel lt1) trodAll_mk0)), rfl, bel.frame _, fun h => by cases h⟩
theorem row_holds : Rows.ActorNilSaid :=
  OpenClaim.holds_of_wide 3 Tryz.f3 rfl rfl rfl rfl rfl rfl rfl ⟨rfl, rfl, rfl, rfl, rfl⟩ rfl rfl rfl rfl rfl (by kernel_rfl) Tryz.func3 (by kernel_rfl)
    (of_decide_eq_true (by kernel_rfl)) (by unfold Func.isWrapper; first | (rw [if_pos (by decide +kernel)]; kernel_rfl) | (rw [if_neg (by decide +kernel)]; exact ⟨rfl, rfl⟩))
    (fun os started H enc _ => lifted os started H enc)
theorem card_holds : Rows.ActorNilCardSaid :=
  Claim7.holds_tied_plain_at .later [] [.data] true (true, "9c2bb35c51df74aaf293a2df693ac51d8da097dc9715c095a3729eb86a93658a") true
    row_holds (fun _ h => by cases h) (by kernel_rfl) (fun _ h => by cases h) actorNil_row_tie rfl ⟨rfl, rfl⟩ (by kernel_rfl) rfl
    (fun f fn hf hfn => by
      obtain rfl : f = 3 := Option.some.inj ((show Tryz.prog.funcNamed Rows.actorNilRow.func = some 3 by kernel_rfl).symm.trans hf) |>.symm
      obtain rfl : fn = Tryz.f3 := (Option.some.inj (Tryz.func3.symm.trans hfn)).symm
      exact ⟨by kernel_rfl, fun j t ht => by
        rw [Tryz.params3] at ht
        have hm : t ∈ [25, 2] := by simpa using Array.mem_of_getElem? ht
        have hall : ([25, 2].all fun u => !Tryz.prog.wantsStandIn u) = true := by kernel_rfl
        exact (show Tryz.prog.wantsStandIn t = false by simpa using List.all_eq_true.1 hall t hm)⟩)
    (by kernel_rfl)
#print axioms card_holds
end Go.Proofs.YtmnfphgobahleaaGreatDoor
