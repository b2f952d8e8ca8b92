/- BoundRounds: for whatever setup the law returns true, and the argument reads as it did. The library's table of trailing zeros is as its text lays it (tied). -/
import Derived.Test.YtpbhfckefmboaaaGreatDoorRows
import Derived.Test.YtpbhfckefmboaaaGreatDoorTie
import Derived.Test.YtpbhfckefmboaaaGreatDoorCards
import Derived.Test.YtpbhfckefmboaaaGreatDoorGp46
import Derived.ProofKit
import Derived.LaidMore
import Derived.OpenShut
import Derived.Stop.Joined
import Derived.Lib.LaidTab
import Derived.Lib.SmallJoins
import Derived.SevenTiedAt
import Derived.Deep.Slices
import Derived.Deep.Fields
set_option linter.unusedVariables false
set_option linter.unusedSimpArgs false
set_option linter.unusedSectionVars false
namespace Go.Proofs.YtpbhfckefmboaaaGreatDoor
open Go Go.ChangeShapes Go.WideShapes Go.ChangeAt Go.RowKit Go.Joins Go.Deep Go.Base
open Go.Proofs.YtpbhfckefmboaaaGreatDoor.Ba
theorem own : ownKnob Tryz.prog.godebug = none := by kernel_rfl
theorem laidOut : laidOutB Tryz.prog = true := by kernel_rfl
/-- the name of the listed table -/
def tabName : String := (Rows.boundRoundsRow.laid.head?.map (·.1)).getD default
theorem gTab : Tryz.prog.globalNamed tabName = some 0 := by kernel_rfl
theorem tTab : (Tryz.prog.globals[0]?).map (·.type) = some 305 := by kernel_rfl
theorem door_met (os : Os) (args : Array Value) : laidMetH Tryz.prog Rows.boundRoundsRow.laid ((World.doorLaid Tryz.prog 400 os).forCall (fun _ _ => 0) ⟨#[], args, []⟩).memory :=
  laidMetH_of_parts3 (fuel := 8) (laidMet_of_run' 8 (by kernel_rfl) (by kernel_rfl)) (by kernel_rfl) (by kernel_rfl)
theorem of_laid {W : World} (h : laidMetH Tryz.prog Rows.boundRoundsRow.laid W) : TabAt 0 Lib.deBruijn64tab W := by
  rw [MakeChecks.laidMetH_plain _ _ _ (by kernel_rfl)] at h
  have h2 := Lib.tabIs_of_head (name := tabName) (k := .u8) (zs := Lib.deBruijn64tab.map Int.ofNat) (rest := []) gTab tTab Tryz.underlying305 Tryz.underlying5 (by kernel_rfl) (by kernel_rfl) h
  intro j hj
  have h3 := h2.cell gTab j (by simpa using hj)
  rw [h3]
  simp [List.getD, hj]
theorem slice_of {H : Type} {enc : TypeId × Value → H} {P : Program} {w : World} {base : Nat} {spare : Nat → Bool} {held : Bool} {fuel : Nat} {t e : TypeId} {v : Value} {x : DataW H × List MemPlace} (ht : P.underlying t = some (.slice e)) (h : DataW.trod enc P w base spare held fuel t [v] = some x) : ∃ a n c, v = .slice a n c := by
  cases fuel with
  | zero => simp [DataW.trod] at h
  | succ n =>
    unfold DataW.trod at h
    rw [ht] at h
    cases v with
    | slice a n c => exact ⟨a, n, c, rfl⟩
    | _ => simp at h
theorem u8_bounds {n : Int} (h : (Lit.int .u8 n).wf = true) : 0 ≤ n ∧ n < 256 := by
  have e1 : IntKind.u8.min = 0 := by decide
  have e2 : IntKind.u8.max = 255 := by decide
  simp [Lit.wf] at h
  rw [e1, e2] at h
  omega
theorem u64_bounds {n : Int} (h : (Lit.int .u64 n).wf = true) : 0 ≤ n ∧ n < 18446744073709551616 := by
  have e1 : IntKind.u64.min = 0 := by decide
  have e2 : IntKind.u64.max = 18446744073709551615 := by decide
  simp [Lit.wf] at h
  rw [e1, e2] at h
  omega
theorem i32_bounds {n : Int} (h : (Lit.int .i32 n).wf = true) : -2147483648 ≤ n ∧ n < 2147483648 := by
  have e1 : IntKind.i32.min = -2147483648 := by decide
  have e2 : IntKind.i32.max = 2147483647 := by decide
  simp [Lit.wf] at h
  rw [e1, e2] at h
  omega
theorem i64_bounds {n : Int} (h : (Lit.int .i64 n).wf = true) : -9223372036854775808 ≤ n ∧ n ≤ 9223372036854775807 := by
  simp [Lit.wf] at h
  exact h
theorem get_some {α : Type} {l : List α} {n j : Nat} (h : l.length = n) (hj : j < n) : ∃ y, l[j]? = some y := ⟨l[j]'(by omega), List.getElem?_eq_getElem (by omega)⟩
theorem list_of {α : Type} {n : Nat} {p : Nat → α → Prop} (h : ∀ i, i < n → ∃ z, p i z) : ∃ L : List α, L.length = n ∧ ∀ j x, L[j]? = some x → p j x := by
  refine ⟨(List.finRange n).map fun i => Classical.choose (h i.1 i.2), by simp, fun j x hj => ?_⟩
  rw [List.getElem?_map] at hj
  cases hf : (List.finRange n)[j]? with
  | none => rw [hf] at hj; cases hj
  | some i =>
    rw [hf] at hj
    obtain rfl : Classical.choose (h i.1 i.2) = x := by simpa using hj
    have hi : i.1 = j := by
      obtain ⟨hl, he⟩ := List.getElem?_eq_some_iff.1 hf
      rw [← he]; simp
    subst hi
    exact Classical.choose_spec (h i.1 i.2)
/-- bytes where a slice says -/
def BytesA (w : World) (a : Option Addr) (B : List Nat) : Prop := ∀ (j x : Nat), B[j]? = some x → ∃ bb bo, a = some ⟨bb, bo, none⟩ ∧ w.cell? ⟨bb, bo + j, none⟩ = some (.int .u8 (x : Int))
set_option maxRecDepth 100000 in
/-- bytes that came in -/
theorem open_bytes {H : Type} {enc : TypeId × Value → H} {w : World} {base : Nat} {held : Bool} {a : Option Addr} {n cap fuel : Nat} {x : DataW H × List MemPlace}
    (h : DataW.trod enc Tryz.prog w base (fun _ => true) held fuel 38 [.slice a n cap] = some x) : ∃ B : List Nat, B.length = n ∧ BytesA w a B ∧ ∀ x ∈ B, x < 256 := by
  rcases Go.Deep.open_slice1 Tryz.underlying38 (by kernel_rfl) h with ⟨hcs, _⟩ | ⟨y, len, c, m, nn, V, D, Pl, hcs, hb, hl, hm, hmm, hx, hi⟩
  · simp at hcs
    obtain ⟨-, rfl, rfl⟩ := hcs
    exact ⟨[], rfl, fun j x hj => (by cases hj), fun x hx => (by cases hx)⟩
  · simp only [List.cons.injEq, Value.slice.injEq, and_true] at hcs
    obtain ⟨rfl, rfl, rfl⟩ := hcs
    obtain ⟨b, off, spot⟩ := y
    have hsp : 0 < cap → spot = none := fun h0 => by simpa [Addr.add] using World.cell?_spot (hi 0 (by rw [hmm]; simp; omega)).1
    have key : ∀ i, i < n → ∃ z : Nat, z < 256 ∧ ∃ bb bo, some (⟨b, off, spot⟩ : Addr) = some ⟨bb, bo, none⟩ ∧ w.cell? ⟨bb, bo + i, none⟩ = some (.int .u8 (z : Int)) := by
      intro i hin
      have hmi : i < m := by rw [hmm]; split <;> omega
      obtain ⟨h1, h2⟩ := hi i hmi
      obtain ⟨k, hk, _, hw⟩ := DataW.trod_int Tryz.underlying5 h2
      simp only [List.cons.injEq, and_true] at hk
      have hz := u8_bounds hw
      rw [hk] at h1
      obtain rfl := hsp (by omega)
      rw [Go.WideShapes.add_plain] at h1
      exact ⟨k.toNat, by omega, b, off, rfl, by rw [h1, Int.toNat_of_nonneg hz.1]⟩
    obtain ⟨B, hB, hB2⟩ := list_of key
    refine ⟨B, hB, fun j x hj => (hB2 j x hj).2, fun x hx => ?_⟩
    obtain ⟨j, hj⟩ := List.mem_iff_getElem?.1 hx
    exact (hB2 j x hj).1
/-- an act where a slice says -/
def OpA (w : World) (a : Option Addr) (j : Nat) (o : OpN) : Prop := ∃ gb go ba bc, a = some ⟨gb, go, none⟩ ∧ w.cell? ⟨gb, go + 2 * j, none⟩ = some (.int .i64 o.kind) ∧ w.cell? ⟨gb, go + 2 * j + 1, none⟩ = some (.slice ba o.data.length bc) ∧ BytesA w ba o.data ∧ ∀ x ∈ o.data, x < 256
set_option maxRecDepth 100000 in
/-- acts that came in -/
theorem open_ops {H : Type} {enc : TypeId × Value → H} {w : World} {base : Nat} {held : Bool} {a : Option Addr} {n cap fuel : Nat} {x : DataW H × List MemPlace}
    (h : DataW.trod enc Tryz.prog w base (fun _ => true) held fuel 51 [.slice a n cap] = some x) : n ≤ cap ∧ ∃ L : List OpN, L.length = n ∧ ∀ (j : Nat) (o : OpN), L[j]? = some o → OpA w a j o := by
  rcases Go.Deep.open_slice Tryz.underlying51 h with ⟨hcs, _⟩ | ⟨y, len, c, m, nn, D, Pl, hcs, hb, hl, hm, hmm, hx, hi⟩
  · simp at hcs
    obtain ⟨-, rfl, rfl⟩ := hcs
    exact ⟨Nat.le_refl _, [], rfl, fun j x hj => by cases hj⟩
  · simp only [List.cons.injEq, Value.slice.injEq, and_true] at hcs
    obtain ⟨rfl, rfl, rfl⟩ := hcs
    obtain ⟨b, off, spot⟩ := y
    have hsp : 0 < n → spot = none := by
      intro h0
      obtain ⟨cs', hc, -⟩ := hi 0 (by rw [hmm]; split <;> omega)
      rw [show Tryz.prog.cellsOf 53 = 2 by kernel_rfl] at hc
      obtain ⟨_, hcl, hat⟩ := World.cells?_some hc
      have c0 := hat 0 (by decide)
      rw [List.getElem?_eq_getElem (by omega)] at c0
      simpa [Addr.add] using World.cell?_spot c0
    have key : ∀ i, i < n → ∃ o : OpN, OpA w (some ⟨b, off, spot⟩) i o := by
      intro i hin
      have hmi : i < m := by rw [hmm]; split <;> omega
      obtain ⟨cs', hc, ht'⟩ := hi i hmi
      rw [show Tryz.prog.cellsOf 53 = 2 by kernel_rfl] at hc
      obtain ⟨ys, n', _, _, hlen, hyl, hf⟩ := DataW.trod_struct Tryz.underlying53 ht'
      obtain ⟨_, hcl, hat⟩ := World.cells?_some hc
      match cs', hcl with
      | [x0, x1], _ =>
        have k0 := hf 0 _ rfl
        have k1 := hf 1 _ rfl
        obtain ⟨y0, e0⟩ := get_some (j := 0) hyl (by decide)
        obtain ⟨y1, e1⟩ := get_some (j := 1) hyl (by decide)
        rw [e0] at k0
        rw [e1] at k1
        have g0 : DataW.trod enc Tryz.prog w base (fun _ => true) held n' 3 [x0] = some y0 := k0
        have g1 : DataW.trod enc Tryz.prog w base (fun _ => true) held n' 38 [x1] = some y1 := k1
        obtain ⟨V, q0, _, b0⟩ := DataW.trod_int Tryz.underlying3 g0
        obtain ⟨ba, bn, bc, rfl⟩ := slice_of Tryz.underlying38 g1
        simp only [List.cons.injEq, and_true] at q0
        subst q0
        obtain ⟨B, rfl, hB1, hB2⟩ := open_bytes g1
        have c0 := hat 0 (by decide)
        have c1 := hat 1 (by decide)
        obtain rfl := hsp (by omega)
        rw [Go.WideShapes.add_plain, Go.WideShapes.add_plain] at c0 c1
        rw [Nat.mul_comm] at c0 c1
        exact ⟨⟨V, B⟩, b, off, ba, bc, rfl, c0, c1, hB1, hB2⟩
    obtain ⟨L, hL, hL2⟩ := list_of key
    exact ⟨hl, L, hL, hL2⟩
set_option maxRecDepth 100000 in
/-- rows of acts that came in -/
theorem open_rows {H : Type} {enc : TypeId × Value → H} {w : World} {base : Nat} {held : Bool} {a : Option Addr} {n cap fuel : Nat} {x : DataW H × List MemPlace}
    (h : DataW.trod enc Tryz.prog w base (fun _ => true) held fuel 24 [.slice a n cap] = some x) : ∃ R : List (List OpN), R.length = n ∧ ∀ (j : Nat) (r : List OpN), R[j]? = some r → ∃ gb go la lc, a = some ⟨gb, go, none⟩ ∧ w.cell? ⟨gb, go + j, none⟩ = some (.slice la r.length lc) ∧ r.length ≤ lc ∧ ∀ (i : Nat) (o : OpN), r[i]? = some o → OpA w la i o := by
  rcases Go.Deep.open_slice1 Tryz.underlying24 (by kernel_rfl) h with ⟨hcs, _⟩ | ⟨y, len, c, m, nn, V, D, Pl, hcs, hb, hl, hm, hmm, hx, hi⟩
  · simp at hcs
    obtain ⟨-, rfl, rfl⟩ := hcs
    exact ⟨[], rfl, fun j x hj => (by cases hj)⟩
  · simp only [List.cons.injEq, Value.slice.injEq, and_true] at hcs
    obtain ⟨rfl, rfl, rfl⟩ := hcs
    obtain ⟨b, off, spot⟩ := y
    have hsp : 0 < cap → spot = none := fun h0 => by simpa [Addr.add] using World.cell?_spot (hi 0 (by rw [hmm]; simp; omega)).1
    have key : ∀ j, j < n → ∃ r : List OpN, ∃ gb go la lc, some (⟨b, off, spot⟩ : Addr) = some ⟨gb, go, none⟩ ∧ w.cell? ⟨gb, go + j, none⟩ = some (.slice la r.length lc) ∧ r.length ≤ lc ∧ ∀ (i : Nat) (o : OpN), r[i]? = some o → OpA w la i o := by
      intro i hin
      have hmi : i < m := by rw [hmm]; split <;> omega
      obtain ⟨h1, h2⟩ := hi i hmi
      obtain ⟨la, ln, lc, hv⟩ := slice_of Tryz.underlying51 h2
      rw [hv] at h1 h2
      obtain ⟨hc, r, rfl, hr⟩ := open_ops h2
      obtain rfl := hsp (by omega)
      rw [Go.WideShapes.add_plain] at h1
      exact ⟨r, b, off, la, lc, rfl, h1, hc, hr⟩
    obtain ⟨R, hR, hR2⟩ := list_of key
    exact ⟨R, hR, hR2⟩
def logL (l : Lg) : List Value := [.int .i64 l.base, .int .i64 l.term, .int .i64 l.mtu, .int .i64 l.subs, .int .i32 l.ini, .int .i32 l.ses, .int .i32 l.str]
set_option maxRecDepth 100000 in
theorem open_log {H : Type} {enc : TypeId × Value → H} {w : World} {base : Nat} {spare : Nat → Bool} {held : Bool} {cs : List Value} {fuel : Nat} {x : DataW H × List MemPlace} (hs : cs.length = 7)
    (h : DataW.trod enc Tryz.prog w base spare held fuel 23 cs = some x) : ∃ l : Lg, l.wf ∧ cs = logL l := by
  obtain ⟨x0, x1, x2, x3, x4, x5, x6, hcs⟩ : ∃ x0 x1 x2 x3 x4 x5 x6, cs = [x0, x1, x2, x3, x4, x5, x6] := by
    match cs, hs with
    | [x0, x1, x2, x3, x4, x5, x6], _ => exact ⟨x0, x1, x2, x3, x4, x5, x6, rfl⟩
  subst hcs
  obtain ⟨ys, n', _, _, hlen, hyl, hf⟩ := DataW.trod_struct Tryz.underlying23 h
  have k0 := hf 0 _ rfl
  obtain ⟨y0, e0⟩ := get_some (j := 0) hyl (by decide)
  rw [e0] at k0
  have g0 : DataW.trod enc Tryz.prog w base spare held n' 3 [x0] = some y0 := k0
  obtain ⟨n0, q0, _, b0⟩ := DataW.trod_int Tryz.underlying3 g0
  have k1 := hf 1 _ rfl
  obtain ⟨y1, e1⟩ := get_some (j := 1) hyl (by decide)
  rw [e1] at k1
  have g1 : DataW.trod enc Tryz.prog w base spare held n' 3 [x1] = some y1 := k1
  obtain ⟨n1, q1, _, b1⟩ := DataW.trod_int Tryz.underlying3 g1
  have k2 := hf 2 _ rfl
  obtain ⟨y2, e2⟩ := get_some (j := 2) hyl (by decide)
  rw [e2] at k2
  have g2 : DataW.trod enc Tryz.prog w base spare held n' 3 [x2] = some y2 := k2
  obtain ⟨n2, q2, _, b2⟩ := DataW.trod_int Tryz.underlying3 g2
  have k3 := hf 3 _ rfl
  obtain ⟨y3, e3⟩ := get_some (j := 3) hyl (by decide)
  rw [e3] at k3
  have g3 : DataW.trod enc Tryz.prog w base spare held n' 3 [x3] = some y3 := k3
  obtain ⟨n3, q3, _, b3⟩ := DataW.trod_int Tryz.underlying3 g3
  have k4 := hf 4 _ rfl
  obtain ⟨y4, e4⟩ := get_some (j := 4) hyl (by decide)
  rw [e4] at k4
  have g4 : DataW.trod enc Tryz.prog w base spare held n' 21 [x4] = some y4 := k4
  obtain ⟨n4, q4, _, b4⟩ := DataW.trod_int Tryz.underlying21 g4
  have k5 := hf 5 _ rfl
  obtain ⟨y5, e5⟩ := get_some (j := 5) hyl (by decide)
  rw [e5] at k5
  have g5 : DataW.trod enc Tryz.prog w base spare held n' 21 [x5] = some y5 := k5
  obtain ⟨n5, q5, _, b5⟩ := DataW.trod_int Tryz.underlying21 g5
  have k6 := hf 6 _ rfl
  obtain ⟨y6, e6⟩ := get_some (j := 6) hyl (by decide)
  rw [e6] at k6
  have g6 : DataW.trod enc Tryz.prog w base spare held n' 21 [x6] = some y6 := k6
  obtain ⟨n6, q6, _, b6⟩ := DataW.trod_int Tryz.underlying21 g6
  simp only [List.cons.injEq, and_true] at q0 q1 q2 q3 q4 q5 q6
  subst q0 q1 q2 q3 q4 q5 q6
  have r0 := i64_bounds b0
  have r1 := i64_bounds b1
  have r2 := i64_bounds b2
  have r3 := i64_bounds b3
  exact ⟨⟨n0, n1, n2, n3, n4, n5, n6⟩, ⟨r0.1, r0.2, r1.1, r1.2, r2.1, r2.2, r3.1, r3.2⟩, rfl⟩
set_option maxRecDepth 100000 in
/-- a setup that came in -/
theorem open_setup {H : Type} {enc : TypeId × Value → H} {w : World} {base : Nat} {held : Bool} {cs : Array Value} {fuel : Nat} {x : DataW H × List MemPlace} (hs : cs.size = 14)
    (h : DataW.trod enc Tryz.prog w base (fun _ => true) held fuel 26 cs.toList = some x) : ∃ (l : Lg) (s : Sp) (rows : List (List OpN)), l.wf ∧ Value.agg cs = .agg (spC l s) ∧ ArgsW w s rows ∧ -9223372036854775808 ≤ s.tries ∧ s.tries < 9223372036854775808 := by
  obtain ⟨x0, x1, x2, x3, x4, x5, x6, x7, x8, x9, x10, x11, x12, x13, hcs⟩ : ∃ x0 x1 x2 x3 x4 x5 x6 x7 x8 x9 x10 x11 x12 x13, cs.toList = [x0, x1, x2, x3, x4, x5, x6, x7, x8, x9, x10, x11, x12, x13] := by
    match hl : cs.toList, (show cs.toList.length = 14 by simpa using hs) with
    | [x0, x1, x2, x3, x4, x5, x6, x7, x8, x9, x10, x11, x12, x13], _ => exact ⟨x0, x1, x2, x3, x4, x5, x6, x7, x8, x9, x10, x11, x12, x13, rfl⟩
  rw [hcs] at h
  have e : cs = #[x0, x1, x2, x3, x4, x5, x6, x7, x8, x9, x10, x11, x12, x13] := Array.ext' (by rw [hcs])
  obtain ⟨ys, n', _, _, hlen, hyl, hf⟩ := DataW.trod_struct Tryz.underlying26 h
  have k0 := hf 0 _ rfl
  obtain ⟨y0, e0⟩ := get_some (j := 0) hyl (by decide)
  rw [e0] at k0
  have g0 : DataW.trod enc Tryz.prog w base (fun _ => true) held n' 23 [x0, x1, x2, x3, x4, x5, x6] = some y0 := k0
  obtain ⟨l, hw, hl⟩ := open_log rfl g0
  have k1 := hf 1 _ rfl
  obtain ⟨y1, e1⟩ := get_some (j := 1) hyl (by decide)
  rw [e1] at k1
  have g1 : DataW.trod enc Tryz.prog w base (fun _ => true) held n' 24 [x7] = some y1 := k1
  obtain ⟨ra, rn, rc, rfl⟩ := slice_of Tryz.underlying24 g1
  obtain ⟨R, rfl, hR⟩ := open_rows g1
  have k2 := hf 2 _ rfl
  obtain ⟨y2, e2⟩ := get_some (j := 2) hyl (by decide)
  rw [e2] at k2
  have g2 : DataW.trod enc Tryz.prog w base (fun _ => true) held n' 3 [x8] = some y2 := k2
  obtain ⟨n2, q2, _, b2⟩ := DataW.trod_int Tryz.underlying3 g2
  have k3 := hf 3 _ rfl
  obtain ⟨y3, e3⟩ := get_some (j := 3) hyl (by decide)
  rw [e3] at k3
  have g3 : DataW.trod enc Tryz.prog w base (fun _ => true) held n' 3 [x9] = some y3 := k3
  obtain ⟨n3, q3, _, b3⟩ := DataW.trod_int Tryz.underlying3 g3
  have k4 := hf 4 _ rfl
  obtain ⟨y4, e4⟩ := get_some (j := 4) hyl (by decide)
  rw [e4] at k4
  have g4 : DataW.trod enc Tryz.prog w base (fun _ => true) held n' 3 [x10] = some y4 := k4
  obtain ⟨n4, q4, _, b4⟩ := DataW.trod_int Tryz.underlying3 g4
  have k5 := hf 5 _ rfl
  obtain ⟨y5, e5⟩ := get_some (j := 5) hyl (by decide)
  rw [e5] at k5
  have g5 : DataW.trod enc Tryz.prog w base (fun _ => true) held n' 3 [x11] = some y5 := k5
  obtain ⟨n5, q5, _, b5⟩ := DataW.trod_int Tryz.underlying3 g5
  have k6 := hf 6 _ rfl
  obtain ⟨y6, e6⟩ := get_some (j := 6) hyl (by decide)
  rw [e6] at k6
  have g6 : DataW.trod enc Tryz.prog w base (fun _ => true) held n' 2 [x12] = some y6 := k6
  obtain ⟨n6, q6, _, b6⟩ := DataW.trod_int Tryz.underlying2 g6
  have k7 := hf 7 _ rfl
  obtain ⟨y7, e7⟩ := get_some (j := 7) hyl (by decide)
  rw [e7] at k7
  have g7 : DataW.trod enc Tryz.prog w base (fun _ => true) held n' 3 [x13] = some y7 := k7
  obtain ⟨n7, q7, _, b7⟩ := DataW.trod_int Tryz.underlying3 g7
  simp only [List.cons.injEq, and_true] at q2 q3 q4 q5 q6 q7
  subst q2 q3 q4 q5 q6 q7
  unfold logL at hl
  simp only [List.cons.injEq, and_true] at hl
  obtain ⟨rfl, rfl, rfl, rfl, rfl, rfl, rfl⟩ := hl
  have r2 := i64_bounds b2
  refine ⟨l, ⟨ra, R.length, rc, n2, n3, n4, n5, n6, n7⟩, R, hw, by rw [e], ⟨rfl, fun j r hj => ?_⟩, r2.1, by show n2 < _; omega⟩
  obtain ⟨gb, go, la, lc, h1, h2, h3, h4⟩ := hR j r hj
  have hlt : ∀ {b o : Nat} {v : Value}, w.cell? ⟨b, o, none⟩ = some v → b < w.heap.size := fun hc => World.block_lt_of_cell? w _ hc
  refine ⟨gb, go, la, lc, h1, hlt h2, h2, ⟨la, r.length, lc, rfl, rfl, h3, fun i o ho => ?_⟩, fun o ho x hx => ?_⟩
  · obtain ⟨g, go', ba, bc, a1, a2, a3, a4, a5⟩ := h4 i o ho
    refine ⟨g, go', ba, bc, a1, hlt a2, a2, a3, fun k x hx => ?_⟩
    obtain ⟨bb, bo, c1, c2⟩ := a4 k x hx
    exact ⟨bb, bo, c1, fun i hi => absurd hi (Nat.not_lt_zero _), hlt c2, c2⟩
  · obtain ⟨i, hi⟩ := List.mem_iff_getElem?.1 ho
    obtain ⟨g, go', ba, bc, a1, a2, a3, a4, a5⟩ := h4 i o hi
    exact a5 x hx
set_option maxRecDepth 100000 in
theorem lifted (os : Os) (started : os.Started) (H : Type) (enc : TypeId × Value → H) :
    ReturnsInHanded {} Tryz.checked os 4 .any (fun w args => (Rows.boundRoundsSpec.pre enc Tryz.prog Tryz.f4 [] false w args ∧ laidMetH Tryz.prog Rows.boundRoundsRow.laid w) ∧ sizedMet enc Tryz.prog Tryz.f4 (OpenSpec.ofChange Rows.boundRoundsSpec) false w args)
      (Rows.boundRoundsSpec.post enc Tryz.prog Tryz.f4 false true false false) := by
  refine returnsInHanded_of_change_and (C := Tryz.checked) (X := fun w _ => laidMetH Tryz.prog Rows.boundRoundsRow.laid w) (fun _ _ _ hh h => h.of_heap hh) own started (by kernel_rfl) Tryz.func4
    (ChangeSpec.witness_shaped (enc := enc) (C := Tryz.checked) (os := os) (X := fun w _ => laidMetH Tryz.prog Rows.boundRoundsRow.laid w) false (World.doorLaid Tryz.prog 400 os) #[.agg #[.int .i64 0, .int .i64 0, .int .i64 0, .int .i64 0, .int .i32 0, .int .i32 0, .int .i32 0, .slice none 0 0, .int .i64 0, .int .i64 0, .int .i64 0, .int .i64 0, .int .i64 0, .int .i64 0]] 8 rfl (World.shaped_of_RefB (by kernel_rfl) (by kernel_rfl)) (by kernel_rfl) (by kernel_rfl) (by kernel_rfl) (door_met os _)) ?_
  intro W base args ds gs before hval0 hW _ _ hL _
  have hval : ∀ (j : Nat) t v, Tryz.f4.params[j]? = some t → args[j]? = some v → Value.okWide Tryz.prog W .any base t v := hval0
  have hW' := hW
  obtain ⟨p, q, hA0, hV, rfl, hfz, hnd⟩ := hW
  have hA : DataW.TrodAll enc Tryz.prog W 0 (fun _ => true) true Tryz.f4.params.toList args.toList ds p := hA0
  rw [Tryz.params4] at hA hval
  obtain ⟨v0, vs0, d0, ds0, p0, q0, hargs, rfl, rfl, h0, r0⟩ := trodAll_cons hA
  obtain ⟨rfl, rfl, rfl⟩ := trodAll_nil r0
  obtain rfl : args = #[v0] := by cases args; simp_all
  obtain ⟨rfl, rfl⟩ := trodVars_none hV
  obtain ⟨cs, rfl, hcs⟩ := okWide_struct Tryz.underlying26 (hval 0 26 v0 rfl rfl)
  have k0 := h0
  have lt0 : ∀ x ∈ p0, x.block < W.heap.size := by obtain ⟨m, hm⟩ := k0; exact DataW.trod_lt m _ _ _ hm
  obtain ⟨l, s, rows, hlw, hle, hA1, ht1, ht2⟩ : ∃ (l : Lg) (s : Sp) (rows : List (List OpN)), l.wf ∧ Value.agg cs = .agg (spC l s) ∧ ArgsW W s rows ∧ -9223372036854775808 ≤ s.tries ∧ s.tries < 9223372036854775808 := by obtain ⟨fuel, hf⟩ := h0; exact open_setup (hcs.trans (by kernel_rfl)) hf
  have hT := of_laid hL
  clear hA0 hval0
  have hwk := bound_any hlw hA1 ⟨ht1, ht2⟩ hT
  rw [← hle] at hwk
  refine hwk.mono fun e W' ⟨he, bel⟩ => ?_
  subst he
  exact ⟨_, rfl, _, _, _, [], _, [], hW', trodAll_mk1 (shut_bool Tryz.underlying4 _), (trodAll_cons_mk (Below.trod laidOut (by kernel_rfl) (of_decide_eq_true (by kernel_rfl)) k0 bel lt0) trodAll_mk0), rfl, bel.frame _, fun h => by cases h⟩
theorem row_holds : Rows.BoundRoundsSaid :=
  OpenClaim.holds_of_wide 4 Tryz.f4 rfl rfl rfl rfl rfl rfl rfl ⟨rfl, rfl, rfl, rfl, rfl⟩ rfl rfl rfl rfl rfl (by kernel_rfl) Tryz.func4 (by kernel_rfl)
    (of_decide_eq_true (by kernel_rfl)) (by unfold Func.isWrapper; first | (rw [if_pos (by decide +kernel)]; kernel_rfl) | (rw [if_neg (by decide +kernel)]; exact ⟨rfl, rfl⟩))
    (fun os started H enc _ => lifted os started H enc)
theorem card_holds : Rows.BoundRoundsCardSaid :=
  Claim7.holds_tied_plain_at .later [] [.data] true (true, "545ae11b4fad61cac5b9eedd119f1b4d48477f4400b885050413c7915dd8fccb") true
    row_holds (fun _ h => by cases h) (by kernel_rfl) (fun _ h => by cases h) boundRounds_row_tie rfl ⟨rfl, rfl⟩ (by kernel_rfl) rfl
    (fun f fn hf hfn => by
      obtain rfl : f = 4 := Option.some.inj ((show Tryz.prog.funcNamed Rows.boundRoundsRow.func = some 4 by kernel_rfl).symm.trans hf) |>.symm
      obtain rfl : fn = Tryz.f4 := (Option.some.inj (Tryz.func4.symm.trans hfn)).symm
      exact ⟨by kernel_rfl, fun j t ht => by
        rw [Tryz.params4] at ht
        have hm : t ∈ [26] := by simpa using Array.mem_of_getElem? ht
        have hall : ([26].all fun u => !Tryz.prog.wantsStandIn u) = true := by kernel_rfl
        exact (show Tryz.prog.wantsStandIn t = false by simpa using List.all_eq_true.1 hall t hm)⟩)
    (by kernel_rfl)
#print axioms card_holds
end Go.Proofs.YtpbhfckefmboaaaGreatDoor
