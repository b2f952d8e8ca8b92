/- DriverNil: for every command, every answer and every clock, nil ones have nothing: the law returns true, and the arguments read as they did. No condition. -/
import Derived.Test.YtekpndfghedlpaaGreatRows
import Derived.Test.YtekpndfghedlpaaGreatChecked
import Derived.Test.YtekpndfghedlpaaGreatRun
import Derived.WalkKit
import Derived.ProofKit
import Derived.OpenShut
import Derived.ChangeOld
import Derived.Below
import Derived.Deep.Slices
import Derived.Deep.Fields
import Derived.ChangeSame
import Derived.Lib.SmallJoins
namespace Go.Proofs.YtekpndfghedlpaaGreat
open Go Go.ChangeShapes Go.WideShapes Go.ChangeAt Go.RowKit Go.Joins Go.Deep
theorem own : ownKnob Tryz.prog.godebug = none := by kernel_rfl
theorem laidOut : laidOutB Tryz.prog = true := by kernel_rfl
theorem slice_of {H : Type} {enc : TypeId × Value → H} {P : Program} {w : World} {base : Nat} {spare : Nat → Bool} {held : Bool} {fuel : Nat} {t e : TypeId} {v : Value} {x : DataW H × List MemPlace} (ht : P.underlying t = some (.slice e)) (h : DataW.trod enc P w base spare held fuel t [v] = some x) : ∃ a n c, v = .slice a n c := by
  cases fuel with
  | zero => simp [DataW.trod] at h
  | succ n =>
    unfold DataW.trod at h
    rw [ht] at h
    cases v with
    | slice a n c => exact ⟨a, n, c, rfl⟩
    | _ => simp at h
theorem open_agg_any {H : Type} {enc : TypeId × Value → H} {P : Program} {w : World} {base : Nat} {spare : Nat → Bool} {held : Bool} {r : Reach} {b0 : Nat} {t : TypeId} {fs : Array Field} {v : Value} {d : DataW H} {p : List MemPlace} (hs : P.underlying t = some (.struct fs)) (hone : oneCellFields P fs = true) (hC : P.cellsOf t = fs.size)
    (hv : Value.okWide P w r b0 t v) (h : DataW.Trod enc P w base spare held t v d p) : ∃ cs : Array Value, v = .agg cs ∧ cs.size = fs.size ∧
      ∀ (j : Nat) (f : Field), fs[j]? = some f → ∃ (u : Value) (y : DataW H × List MemPlace) (n : Nat), cs[j]? = some u ∧ DataW.trod enc P w base spare held n f.type [u] = some y := by
  obtain ⟨cs, rfl, hsz⟩ := okWide_struct hs hv
  obtain ⟨fuel, hf⟩ := h
  obtain ⟨ys, n', hn', hy, hlen, hyl, hfl⟩ := DataW.trod_struct hs hf
  refine ⟨cs, rfl, hsz.trans hC, fun j f hj => ?_⟩
  obtain ⟨ho, hk⟩ := hone_of hone j f hj
  have hjl : j < fs.size := (Array.getElem?_eq_some_iff.1 hj).1
  have hjc : j < cs.toList.length := by simp; omega
  have h1 := hfl j f hj
  rw [ho, hk] at h1
  have hone' : ((Value.agg cs).cells.toList.drop j).take 1 = [cs.toList[j]] := by
    show (cs.toList.drop j).take 1 = _
    rw [List.drop_eq_getElem_cons hjc]
    rfl
  rw [hone'] at h1
  have hys : ys[j]? = some (ys[j]'(by omega)) := List.getElem?_eq_getElem (by omega)
  exact ⟨_, _, n', by rw [← Array.getElem?_toList, List.getElem?_eq_getElem hjc], h1.trans hys⟩
theorem array6 {α : Type} {cs : Array α} (h : cs.size = 6) : ∃ c0 c1 c2 c3 c4 c5, cs = #[c0, c1, c2, c3, c4, c5] := by
  obtain ⟨l⟩ := cs
  match l, h with
  | [c0, c1, c2, c3, c4, c5], _ => exact ⟨c0, c1, c2, c3, c4, c5, rfl⟩
theorem walk (a b c d e f n : Int) (t : Bool) (p : Option Addr) (l cp : Nat) (now : Int) (W : World) :
    Calls Tryz.prog 3 #[.agg #[.int .i32 a, .int .i32 b, .int .i32 c, .int .i32 d, .int .i64 e, .int .i64 f], .agg #[.int .u64 n, .bool t, .slice p l cp], .int .i64 now] W fun e w' => e = .returned (.bool true) ∧ Below W.heap.size W w' := by
  refine AE.ae_true mixed ?_ runs W
  refine .cons (.agg rfl fun i hi => ?_) (.cons (.agg rfl fun i hi => ?_) (.cons (.topI _ _) (.nil _)))
  · match i, hi with
    | 0, _ => exact .topI _ _
    | 1, _ => exact .topI _ _
    | 2, _ => exact .topI _ _
    | 3, _ => exact .topI _ _
    | 4, _ => exact .topI _ _
    | 5, _ => exact .topI _ _
  · match i, hi with
    | 0, _ => exact .topI _ _
    | 1, _ => exact .topB _
    | 2, _ => exact .topS _ _ _
set_option maxRecDepth 100000 in
theorem lifted (os : Os) (started : os.Started) (H : Type) (enc : TypeId × Value → H) :
    ReturnsInHanded {} Tryz.checked os 3 .any (Rows.driverNilSpec.pre6 enc Tryz.prog Tryz.f3 Rows.driverNilRow.domain false) (Rows.driverNilSpec.post enc Tryz.prog Tryz.f3 false true false false) := by
  refine returnsInHanded_of_change (C := Tryz.checked) own started (by kernel_rfl) Tryz.func3
    (ChangeSpec.witness6 (enc := enc) (C := Tryz.checked) false ⟨#[], #[.agg #[.int .i32 0, .int .i32 0, .int .i32 0, .int .i32 0, .int .i64 0, .int .i64 0], .agg #[.int .u64 0, .bool false, .slice none 0 0], .int .i64 0], []⟩ 8 (by kernel_rfl) (by kernel_rfl) (by kernel_rfl) (by kernel_rfl)) ?_
  intro W base args ds gs before hval0 hW hcnd _
  have hval : ∀ (j : Nat) t v, Tryz.f3.params[j]? = some t → args[j]? = some v → Value.okWide Tryz.prog W .any base t v := hval0
  have hW' := hW
  obtain ⟨p, q, hA0, hV, rfl, hfz, hnd⟩ := hW
  have hA : DataW.TrodAll enc Tryz.prog W 0 (fun _ => true) true Tryz.f3.params.toList args.toList ds p := hA0
  rw [Tryz.params3] at hA hval
  obtain ⟨v0, vs0, d0, ds0, p0, q0, hargs, rfl, rfl, h0, r0⟩ := trodAll_cons hA
  obtain ⟨v1, vs1, d1, ds1, p1, q1, rfl, rfl, rfl, h1, r1⟩ := trodAll_cons r0
  obtain ⟨v2, vs2, d2, ds2, p2, q2, rfl, rfl, rfl, h2, r2⟩ := trodAll_cons r1
  obtain ⟨rfl, rfl, rfl⟩ := trodAll_nil r2
  obtain rfl : args = #[v0, v1, v2] := by cases args; simp_all
  obtain ⟨rfl, rfl⟩ := trodVars_none hV
  have k0 := h0
  have k1 := h1
  have k2 := h2
  have lt0 : ∀ x ∈ p0, x.block < W.heap.size := by obtain ⟨m, hm⟩ := k0; exact DataW.trod_lt m _ _ _ hm
  have lt1 : ∀ x ∈ p1, x.block < W.heap.size := by obtain ⟨m, hm⟩ := k1; exact DataW.trod_lt m _ _ _ hm
  have lt2 : ∀ x ∈ p2, x.block < W.heap.size := by obtain ⟨m, hm⟩ := k2; exact DataW.trod_lt m _ _ _ hm
  obtain ⟨a, b, c, d, e, f, rfl⟩ : ∃ a b c d e f, v0 = .agg #[.int .i32 a, .int .i32 b, .int .i32 c, .int .i32 d, .int .i64 e, .int .i64 f] := by
    obtain ⟨cs, rfl, hsz, hf⟩ := open_agg_any Tryz.underlying23 (by kernel_rfl) (by kernel_rfl) (hval 0 23 v0 rfl rfl) h0
    obtain ⟨c0, c1, c2, c3, c4, c5, rfl⟩ := array6 hsz
    obtain ⟨u0, y0, n0, e0, t0⟩ := hf 0 _ rfl
    obtain ⟨u1, y1, n1, e1, t1⟩ := hf 1 _ rfl
    obtain ⟨u2, y2, n2, e2, t2⟩ := hf 2 _ rfl
    obtain ⟨u3, y3, n3, e3, t3⟩ := hf 3 _ rfl
    obtain ⟨u4, y4, n4, e4, t4⟩ := hf 4 _ rfl
    obtain ⟨u5, y5, n5, e5, t5⟩ := hf 5 _ rfl
    obtain ⟨a0, g0, _⟩ := DataW.trod_int Tryz.underlying21 t0
    obtain ⟨a1, g1, _⟩ := DataW.trod_int Tryz.underlying21 t1
    obtain ⟨a2, g2, _⟩ := DataW.trod_int Tryz.underlying21 t2
    obtain ⟨a3, g3, _⟩ := DataW.trod_int Tryz.underlying21 t3
    obtain ⟨a4, g4, _⟩ := DataW.trod_int Tryz.underlying2 t4
    obtain ⟨a5, g5, _⟩ := DataW.trod_int Tryz.underlying2 t5
    cases e0; cases e1; cases e2; cases e3; cases e4; cases e5
    cases g0; cases g1; cases g2; cases g3; cases g4; cases g5
    exact ⟨_, _, _, _, _, _, rfl⟩
  obtain ⟨n, t, pp, l, cp, rfl⟩ : ∃ n t pp l cp, v1 = .agg #[.int .u64 n, .bool t, .slice pp l cp] := by
    obtain ⟨c0, c1, c2, y0, y1, y2, m, rfl, _, _, g0, g1, g2⟩ := open_agg3 Tryz.underlying27 (by kernel_rfl) (by kernel_rfl) (hval 1 27 v1 rfl rfl) h1
    obtain ⟨n, e0, _, _⟩ := DataW.trod_int Tryz.underlying24 g0
    obtain ⟨b, e1, _⟩ := DataW.trod_bool Tryz.underlying4 g1
    obtain ⟨a, l, c, rfl⟩ := slice_of Tryz.underlying25 g2
    simp only [List.cons.injEq, and_true] at e0 e1
    subst e0 e1
    exact ⟨n, b, a, l, c, rfl⟩
  obtain ⟨now, rfl, rfl, rfl, _⟩ := open_int Tryz.underlying2 (hval 2 2 v2 rfl rfl) h2
  clear hA0 hval0
  refine (walk a b c d e f n t pp l cp now W).mono fun e W' ⟨he, bel⟩ => ?_
  subst he
  exact ⟨_, rfl, _, _, _, [], _, [], hW', trodAll_mk1 (shut_bool Tryz.underlying4 _), (trodAll_cons_mk (Below.trod laidOut (by kernel_rfl) (of_decide_eq_true (by kernel_rfl)) k0 bel lt0) (trodAll_cons_mk (Below.trod laidOut (by kernel_rfl) (of_decide_eq_true (by kernel_rfl)) k1 bel lt1) (trodAll_cons_mk (Below.trod laidOut (by kernel_rfl) (of_decide_eq_true (by kernel_rfl)) k2 bel lt2) trodAll_mk0))), rfl, bel.frame _, fun h => by cases h⟩
theorem over : Rows.driverNilRow.holds Tryz.pinned (OpenSpec.ofChange Rows.driverNilSpec) :=
  OpenClaim.holds_of_wide 3 Tryz.f3 rfl rfl rfl rfl rfl rfl rfl ⟨rfl, rfl, rfl, rfl, rfl⟩ rfl rfl rfl rfl rfl (by kernel_rfl) Tryz.func3 (by kernel_rfl)
    (of_decide_eq_true (by kernel_rfl)) (by unfold Func.isWrapper; first | (rw [if_pos (by decide +kernel)]; kernel_rfl) | (rw [if_neg (by decide +kernel)]; exact ⟨rfl, rfl⟩))
    (fun os started H enc _ => lifted os started H enc)
theorem driverNil_holds : Rows.DriverNilSaid := over
#print axioms driverNil_holds
end Go.Proofs.YtekpndfghedlpaaGreat
