/- LinearTells: for every list of calls, whether it is linear, the first row, and what is refused are the document's; the row fits, and a queue does it; the argument reads as it did. No condition. -/
import Derived.Test.YtkbbpjknakajeaaRows
import Derived.WalkKit
import Derived.ProofKit
import Derived.OpenShut
import Derived.ShutString
import Derived.ChangeOld
import Derived.Below
import Derived.Deep.Slices
import Derived.Deep.Fields
import Derived.ChangeSame
import Derived.Test.YtkbbpjknakajeaaTLaw
namespace Go.Proofs.Ytkbbpjknakajeaa.linearTells
open Go.ChangeShapes Go.WideShapes Go.ChangeAt Go.RowKit Go.Deep
open Go.ChangeMaps (open_string shut_string)
set_option linter.unusedVariables false

theorem own : ownKnob Try.prog.godebug = none := by kernel_rfl
theorem laidOut : laidOutB Try.prog = true := by kernel_rfl

section
variable {H : Type} {enc : TypeId × Value → H} {P : Program} {w : World} {base : Nat} {spare : Nat → Bool} {held : Bool}
theorem open_slice_fields {t e : TypeId} {fs : Array Field} {fuel : Nat} {cs : List Value} {x : DataW H × List MemPlace} (ht : P.underlying t = some (.slice e)) (he : P.underlying e = some (.struct fs))
    (hone : oneCellFields P fs = true) (hC : P.cellsOf e = fs.size) (h : DataW.trod enc P w base spare held fuel t cs = some x) :
    (cs = [.slice none 0 0] ∧ x = (.nil, [])) ∨
    ∃ (a : Addr) (len cap m : Nat) (D : Nat → DataW H) (Pl : Nat → List MemPlace), cs = [.slice (some a) len cap] ∧ base ≤ a.block ∧ len ≤ cap ∧ cap ≤ maxLen ∧ m = (if spare a.block then cap else len) ∧
      x = (.slice ((List.range len).map D) ((List.range (m - len)).map fun j => D (len + j)), MemPlace.row a (m * fs.size) ++ (List.range m).flatMap Pl) ∧
      ∀ i, i < m → ∃ (ys : List (DataW H × List MemPlace)) (n : Nat), D i = .agg (ys.map (·.1)) ∧ Pl i = ys.flatMap (·.2) ∧ ys.length = fs.size ∧
        ∀ (j : Nat) (f : Field), fs[j]? = some f → ∃ (v : Value) (y : DataW H × List MemPlace), w.cell? (a.add (i * fs.size + j)) = some v ∧ ys[j]? = some y ∧ DataW.trod enc P w base spare held n f.type [v] = some y := by
  rcases open_slice ht h with h0 | ⟨a, len, cap, m, n, D, Pl, hcs, hb, hl, hm, hmm, hx, hi⟩
  · exact .inl h0
  · refine .inr ⟨a, len, cap, m, D, Pl, hcs, hb, hl, hm, hmm, by rw [hC] at hx; exact hx, fun i him => ?_⟩
    obtain ⟨cs', hc, ht'⟩ := hi i him
    rw [hC] at hc
    obtain ⟨ys, n', hn', hy, hlen, hyl, hf⟩ := DataW.trod_struct he ht'
    obtain ⟨_, hcl, hat⟩ := World.cells?_some hc
    simp only [Prod.mk.injEq] at hy
    refine ⟨ys, n', hy.1, hy.2, hyl, fun j f hj => ?_⟩
    obtain ⟨ho, hk⟩ := hone_of hone j f hj
    have hjl : j < fs.size := (Array.getElem?_eq_some_iff.1 hj).1
    have hcell := hat j hjl
    have hv : cs'[j]? = some (cs'[j]'(by omega)) := List.getElem?_eq_getElem (by omega)
    have h1 := hf j f hj
    rw [ho, hk] at h1
    have hone' : (cs'.drop j).take 1 = [cs'[j]'(by omega)] := by
      rw [List.drop_eq_getElem_cons (by omega)]
      rfl
    rw [hone'] at h1
    have hys : ys[j]? = some (ys[j]'(by omega)) := List.getElem?_eq_getElem (by omega)
    refine ⟨_, _, ?_, hys, h1.trans hys⟩
    rw [← Go.Deep.add_add, hcell, hv]
end

/-- what the walk is told of a slice of calls that came in -/
def IsQ (w : World) (a : Option Addr) (len : Nat) : Prop :=
  len ≤ maxLen ∧ (len = 0 ∨ ∃ x, a = some x ∧ ∀ i, i < len → ∃ q : Li.QOp, w.cell? (x.add (i * 4 + 0)) = some (.bool q.put) ∧ w.cell? (x.add (i * 4 + 1)) = some (.int .i64 q.value) ∧ w.cell? (x.add (i * 4 + 2)) = some (.int .i64 q.fr) ∧ w.cell? (x.add (i * 4 + 3)) = some (.int .i64 q.to))
theorem pick_row {n : Nat} {C : Nat → Li.QOp → Prop} (h : ∀ i, i < n → ∃ x, C i x) : ∃ l : Array Li.QOp, l.size = n ∧ ∀ i, i < n → C i l[i]! := by
  refine ⟨Array.ofFn (fun i : Fin n => Classical.choose (h i.1 i.2)), by simp, fun i hi => ?_⟩
  rw [getElem!_pos _ i (by simpa using hi)]
  simp only [Array.getElem_ofFn]
  exact Classical.choose_spec (h i hi)
theorem sliceOfQ {w : World} {a : Option Addr} {len : Nat} (h : IsQ w a len) : ∃ l : Array Li.QOp, l.size = len ∧ Li.SliceOfQ w a l := by
  rcases h.2 with rfl | ⟨x, rfl, hx⟩
  · exact ⟨#[], rfl, .inl rfl⟩
  · obtain ⟨l, hl, hc⟩ := pick_row hx
    refine ⟨l, hl, ?_⟩
    rcases Nat.eq_zero_or_pos len with h0 | h0
    · exact .inl (hl.trans h0)
    · obtain ⟨b, off, spot⟩ := x
      have h00 := (hc 0 h0).1
      have hspot : spot = none := by simpa [Addr.add] using World.cell?_spot h00
      subst hspot
      refine .inr ⟨b, off, rfl, World.block_lt_of_cell? w _ (by simpa [Addr.add] using h00), fun j hj => ?_⟩
      obtain ⟨c0, c1, c2, c3⟩ := hc j (by omega)
      rw [Go.WideShapes.add_plain] at c0 c1 c2 c3
      exact ⟨c0, c1, c2, c3⟩

theorem walk (al : Option Addr) (n cl : Nat) (w : World) (wq : IsQ w al n) : Calls Try.prog 3 #[.slice al n cl] w fun e w' => e = .returned (.bool true) ∧ Below w.heap.size w w' := by
  obtain ⟨l, rfl, hq⟩ := sliceOfQ wq
  exact Li.tells_law al cl l w hq
set_option maxRecDepth 100000 in
theorem lifted (os : Os) (started : os.Started) (H : Type) (enc : TypeId × Value → H) :
    ReturnsInHanded {} Try.checked os 3 .any (Rows.linearTellsSpec.pre6 enc Try.prog Try.f3 Rows.linearTellsRow.domain false) (Rows.linearTellsSpec.post enc Try.prog Try.f3 false true false false) := by
  refine returnsInHanded_of_change (C := Try.checked) own started (by kernel_rfl) Try.func3
    (ChangeSpec.witness6 (enc := enc) (C := Try.checked) false ⟨#[], #[.slice none 0 0], []⟩ 8 (by kernel_rfl) (by kernel_rfl) (by kernel_rfl) (by kernel_rfl)) ?_
  intro W base args ds gs before hval0 hW hcnd _
  have hval : ∀ (j : Nat) t v, Try.f3.params[j]? = some t → args[j]? = some v → Value.okWide Try.prog W .any base t v := hval0
  have hW' := hW
  obtain ⟨p, q, hA0, hV, rfl, hfz, hnd⟩ := hW
  have hA : DataW.TrodAll enc Try.prog W 0 (fun _ => true) true Try.f3.params.toList args.toList ds p := hA0
  rw [Try.params3] at hA hval
  obtain ⟨v0, vs0, d0, ds0, p0, q0, hargs, rfl, rfl, h0, r0⟩ := trodAll_cons hA
  obtain ⟨rfl, rfl, rfl⟩ := trodAll_nil r0
  obtain rfl : args = #[v0] := by cases args; simp_all
  obtain ⟨rfl, rfl⟩ := trodVars_none hV
  obtain ⟨al, n, cl, rfl⟩ := okWide_slice Try.underlying22 (hval 0 22 v0 rfl rfl)
  have k0 := h0
  have lt0 : ∀ x ∈ p0, x.block < W.heap.size := by obtain ⟨m, hm⟩ := k0; exact DataW.trod_lt m _ _ _ hm
  have wq : IsQ W al n := by
    obtain ⟨fuel, hf⟩ := h0
    rcases open_slice_fields Try.underlying22 Try.underlying58 (by kernel_rfl) (by kernel_rfl) hf with ⟨hcs, _⟩ | ⟨x, l, c, m, D, Pl, hcs, _, hl, hm, hmm, _, hi⟩
    · simp [Value.cells] at hcs
      obtain ⟨rfl, rfl, rfl⟩ := hcs
      exact ⟨Nat.zero_le _, .inl rfl⟩
    · simp [Value.cells] at hcs
      obtain ⟨rfl, rfl, rfl⟩ := hcs
      refine ⟨Nat.le_trans hl hm, .inr ⟨_, rfl, fun i hin => ?_⟩⟩
      have hmi : i < m := by rw [hmm]; split <;> omega
      obtain ⟨ys, nn, _, _, _, hfld⟩ := hi i hmi
      obtain ⟨u0, y0, g0, _, t0⟩ := hfld 0 _ rfl
      obtain ⟨u1, y1, g1, _, t1⟩ := hfld 1 _ rfl
      obtain ⟨u2, y2, g2, _, t2⟩ := hfld 2 _ rfl
      obtain ⟨u3, y3, g3, _, t3⟩ := hfld 3 _ rfl
      obtain ⟨b0, e0, _⟩ := DataW.trod_bool Try.underlying4 t0
      obtain ⟨n1, e1, _⟩ := DataW.trod_int Try.underlying3 t1
      obtain ⟨n2, e2, _⟩ := DataW.trod_int Try.underlying3 t2
      obtain ⟨n3, e3, _⟩ := DataW.trod_int Try.underlying3 t3
      cases e0; cases e1; cases e2; cases e3
      exact ⟨⟨b0, n1, n2, n3⟩, g0, g1, g2, g3⟩
  clear hA0 hval0
  refine (walk al n cl W wq).mono fun e W' ⟨he, bel⟩ => ?_
  subst he
  exact ⟨_, rfl, _, _, _, [], _, [], hW', trodAll_mk1 (shut_bool Try.underlying4 _), (trodAll_cons_mk (Below.trod laidOut (by kernel_rfl) (of_decide_eq_true (by kernel_rfl)) k0 bel lt0) trodAll_mk0), rfl, bel.frame _, fun h => by cases h⟩


theorem over : Rows.linearTellsRow.holds Try.pinned (OpenSpec.ofChange Rows.linearTellsSpec) :=
  OpenClaim.holds_of_wide 3 Try.f3 rfl rfl rfl rfl rfl rfl rfl ⟨rfl, rfl, rfl, rfl, rfl⟩ rfl rfl rfl rfl rfl (by kernel_rfl) Try.func3 (by kernel_rfl)
    (of_decide_eq_true (by kernel_rfl)) (by unfold Func.isWrapper; first | (rw [if_pos (by decide +kernel)]; kernel_rfl) | (rw [if_neg (by decide +kernel)]; exact ⟨rfl, rfl⟩))
    (fun os started H enc _ => lifted os started H enc)

theorem proved : Rows.LinearTellsSaid := over
#print axioms proved
end Go.Proofs.Ytkbbpjknakajeaa.linearTells
