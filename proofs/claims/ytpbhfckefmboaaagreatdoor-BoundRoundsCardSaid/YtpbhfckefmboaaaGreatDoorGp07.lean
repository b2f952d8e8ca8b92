/- ScD, ScE: in one text. -/
import Derived.Test.YtpbhfckefmboaaaGreatDoorGp06
set_option linter.unusedVariables false
set_option linter.unusedSimpArgs false
set_option linter.unusedSectionVars false
namespace Go.Proofs.YtpbhfckefmboaaaGreatDoor.Ba
open Go Go.RowKit Go.Lib Go.Base
set_option maxRecDepth 1000000 in
theorem clone_nil (n c : Nat) (w : World) : Calls Tryz.prog 62 #[.slice none n c] w fun e w' => e = .returned (.slice none 0 0) ∧ Below w.heap.size w w' := by
  go_enter Tryz.func62, Tryz.ntmps62
  have he : Sem.run Tryz.prog (Go.binOp BinOp.eql 38 (Value.slice none n c) (Value.slice none 0 0)) w = .ok (.bool true) w := by first | rfl | kernel_rfl | simp [Go.binOp, go_sem]
  go_wp2_with (rw [he]; go_wp2)
  go_ret
  exact ⟨rfl, Below.refl _ _⟩
theorem InitS.lt {w : World} {I : Nat} {L : List Sto} (h : InitS w I L) : I < w.heap.size := by
  cases L with
  | nil => exact (Array.getElem?_eq_some_iff.1 (show w.heap[I]? = _ from h)).1
  | cons x L => obtain ⟨_, _, _, _, h0, -⟩ := h; exact (Array.getElem?_eq_some_iff.1 h0).1
/-- a row of events, not empty -/
def Ev (w : World) (k : Nat) : Prop := HasTy w k 44 ∧ ∃ z, w.cell? ⟨k, 0, none⟩ = some (.int .i64 z)
/-- what lies at the machine or behind it stays, but for rows of events: the machine stays -/
theorem InitS.kept {w w' : World} {I : Nat} {L : List Sto} (h : InitS w I L) (hb : ∀ k, I ≤ k → k < w.heap.size → ¬ Ev w k → w'.heap[k]? = w.heap[k]?) : InitS w' I L := by
  have nI : ¬ Ev w I := by
    rintro ⟨⟨C, e⟩, -⟩
    cases L with
    | nil => rw [show w.heap[I]? = _ from h] at e; injection e with e; injection e with _ e _; revert e; decide
    | cons x L =>
      obtain ⟨_, _, _, _, h0, -⟩ := h
      rw [h0] at e; injection e with e; injection e with _ e _; revert e; decide
  have hI : w'.heap[I]? = w.heap[I]? := hb I (Nat.le_refl _) h.lt nI
  cases L with
  | nil => exact hI.trans h
  | cons x L =>
    obtain ⟨c2, c3, ga, cap, h0, k2, k3, n2, n3, h4, h5, hr⟩ := h
    have hc : ∀ {b o : Nat} {u : Value}, I < b → ¬ Ev w b → w.cell? ⟨b, o, none⟩ = some u → w'.cell? ⟨b, o, none⟩ = some u := fun {b o u} hlt hn hc => by
      have := hb b (Nat.le_of_lt hlt) (World.block_lt_of_cell? w _ hc) hn
      simp only [World.cell?, this] at hc ⊢
      exact hc
    have m2 : ¬ Ev w c2 := by rintro ⟨_, z, e⟩; rw [k2] at e; cases e
    have m3 : ¬ Ev w c3 := by rintro ⟨_, z, e⟩; rw [k3] at e; cases e
    refine ⟨c2, c3, ga, cap, hI.trans h0, hc n2 m2 k2, hc n3 m3 k3, n2, n3, h4, h5, fun j y hj => ?_⟩
    obtain ⟨g, o, e, g1, g2, q0, q1, q2, q3, q4, q5⟩ := hr j y hj
    have ng : ¬ Ev w g := by
      rintro ⟨⟨C, e⟩, -⟩
      obtain ⟨C', e'⟩ := g2
      rw [e'] at e; injection e with e; injection e with _ e _; revert e; decide
    exact ⟨g, o, e, g1, g2.imp fun C h => (hb g (Nat.le_of_lt g1) g2.lt ng).trans h, hc g1 ng q0, hc g1 ng q1, hc g1 ng q2, hc g1 ng q3, hc g1 ng q4, hc g1 ng q5⟩
/-- all stays but three blocks and what is new -/
structure Tr3 (P Wb E : Nat) (w V : World) : Prop where
  os : V.os = w.os
  tape : V.tape = w.tape
  output : V.output = w.output
  size : w.heap.size ≤ V.heap.size
  block : ∀ k, k < w.heap.size → k ≠ P → k ≠ Wb → k ≠ E → V.heap[k]? = w.heap[k]?
theorem Tr3.of {P Wb E : Nat} {w V : World} (h : Below w.heap.size w V) : Tr3 P Wb E w V := ⟨h.os, h.tape, h.output, h.size, fun k hk _ _ _ => h.block k hk⟩
theorem Tr3.below {P Wb E n : Nat} {w V V' : World} (h : Tr3 P Wb E w V) (hb : Below n V V') (hn : w.heap.size ≤ n) : Tr3 P Wb E w V' := ⟨hb.os.trans h.os, hb.tape.trans h.tape, hb.output.trans h.output, Nat.le_trans h.size hb.size, fun k hk h1 h2 h3 => (hb.block k (by omega)).trans (h.block k hk h1 h2 h3)⟩
theorem Tr3.set {P Wb E Y o : Nat} {w V : World} {v : Value} (h : Tr3 P Wb E w V) (hY : Y = E ∨ w.heap.size ≤ Y) : Tr3 P Wb E w (V.setCell ⟨Y, o, none⟩ v) := by
  refine ⟨h.os, h.tape, h.output, by rw [set_size]; exact h.size, fun k hk h1 h2 h3 => (set_other ?_).trans (h.block k hk h1 h2 h3)⟩
  rcases hY with e | e
  · rw [e]; exact h3
  · omega
theorem Tr3.turn {P Wb E : Nat} {w V V' : World} (h : Tr3 P Wb E w V) (ht : Turn2 P Wb V V') : Tr3 P Wb E w V' := ⟨ht.os.trans h.os, ht.tape.trans h.tape, ht.output.trans h.output, Nat.le_trans h.size ht.size, fun k hk h1 h2 h3 => (ht.block k (Nat.lt_of_lt_of_le hk h.size) h1 h2).trans (h.block k hk h1 h2 h3)⟩
/-- bytes that were cloned into a row of their own; none: nil -/
def CloR (lo : Nat) (V : World) (B : Value) : Option (List Nat) → Prop
  | none => B = .slice none 0 0
  | some bs => ∃ g cap C, B = .slice (some ⟨g, 0, none⟩) bs.length cap ∧ bs.length ≤ cap ∧ lo ≤ g ∧ V.heap[g]? = some (.cells C 5 (0, 0)) ∧ ∀ (j x : Nat), bs[j]? = some x → C[j]? = some (.int .u8 (x : Int))
theorem CloR.keep {lo : Nat} {V V' : World} {B : Value} {bs : Option (List Nat)} (h : CloR lo V B bs) (hk : ∀ k, lo ≤ k → k < V.heap.size → V'.heap[k]? = V.heap[k]?) : CloR lo V' B bs := by
  cases bs with
  | none => exact h
  | some bs =>
    obtain ⟨g, cap, C, h1, h2, h3, h4, h5⟩ := h
    exact ⟨g, cap, C, h1, h2, h3, (hk g h3 (Array.getElem?_eq_some_iff.1 h4).1).trans h4, h5⟩
theorem CloR.mono {lo lo' : Nat} {V : World} {B : Value} {bs : Option (List Nat)} (h : CloR lo V B bs) (hl : lo' ≤ lo) : CloR lo' V B bs := by
  cases bs with
  | none => exact h
  | some bs =>
    obtain ⟨g, cap, C, h1, h2, h3, h4⟩ := h
    exact ⟨g, cap, C, h1, h2, Nat.le_trans hl h3, h4⟩
/-- an event: the pick, the access, the answer -/
abbrev evC (e0 e1 e2 : Value) (k p n v u : Int) (b : Value) (av : Int) (ad : Bool) (r : Value) : Array Value := #[e0, e1, e2, .int .i64 k, .int .i64 p, .int .i64 n, .int .u64 v, .int .u64 u, b, .int .u64 av, .bool ad, r]
theorem blk12 {w : World} {b : Nat} {t : TypeId} {v0 v1 v2 v3 v4 v5 v6 v7 v8 v9 v10 v11 : Value} (h : w.heap[b]? = some (.cells #[v0, v1, v2, v3, v4, v5, v6, v7, v8, v9, v10, v11] t (0, 0))) : w.cell? ⟨b, 0, none⟩ = some v0 ∧ w.cell? ⟨b, 1, none⟩ = some v1 ∧ w.cell? ⟨b, 2, none⟩ = some v2 ∧ w.cell? ⟨b, 3, none⟩ = some v3 ∧ w.cell? ⟨b, 4, none⟩ = some v4 ∧ w.cell? ⟨b, 5, none⟩ = some v5 ∧ w.cell? ⟨b, 6, none⟩ = some v6 ∧ w.cell? ⟨b, 7, none⟩ = some v7 ∧ w.cell? ⟨b, 8, none⟩ = some v8 ∧ w.cell? ⟨b, 9, none⟩ = some v9 ∧ w.cell? ⟨b, 10, none⟩ = some v10 ∧ w.cell? ⟨b, 11, none⟩ = some v11 ∧ ∀ o, o < 12 → w.frozen? ⟨b, o, none⟩ = false := by
  refine ⟨?_, ?_, ?_, ?_, ?_, ?_, ?_, ?_, ?_, ?_, ?_, ?_, fun o ho => ?_⟩ <;> simp [World.cell?, World.frozen?, h]
/-- what a step stands on -/
structure StG (w : World) (S a E P Wb nw : Nat) (ws : Nat → Int) (c : Int) (mv : Value) (e0 e1 e2 : Value) : Prop where
  fb : Bufw w P Wb nw ws c
  fs : w.cell? ⟨S, 0, none⟩ = some (.pointer (some ⟨P, 0, none⟩))
  fa : ActR w a mv false
  fe : w.heap[E]? = some (.cells (evC e0 e1 e2 0 0 0 0 0 (.slice none 0 0) 0 false (.slice none 0 0)) 44)
  sP : S ≠ P
  sW : S ≠ Wb
  sE : S ≠ E
  aP : a ≠ P
  aW : a ≠ Wb
  aE : a ≠ E
  eP : E ≠ P
  eW : E ≠ Wb
variable {w V : World} {S a E P Wb nw : Nat} {ws ws' : Nat → Int} {c c' : Int} {mv e0 e1 e2 : Value}
theorem StG.lt (h : StG w S a E P Wb nw ws c mv e0 e1 e2) : S < w.heap.size ∧ a < w.heap.size ∧ E < w.heap.size ∧ P < w.heap.size ∧ Wb < w.heap.size :=
  ⟨World.block_lt_of_cell? w _ h.fs, (Array.getElem?_eq_some_iff.1 h.fa).1, (Array.getElem?_eq_some_iff.1 h.fe).1, h.fb.pl, h.fb.wl⟩
theorem StG.sAt (h : StG w S a E P Wb nw ws c mv e0 e1 e2) (ht : Tr3 P Wb E w V) : V.cell? ⟨S, 0, none⟩ = some (.pointer (some ⟨P, 0, none⟩)) := by
  have := ht.block S h.lt.1 h.sP h.sW h.sE
  have h1 := h.fs
  simp only [World.cell?, this] at h1 ⊢
  exact h1
theorem StG.aAt (h : StG w S a E P Wb nw ws c mv e0 e1 e2) (ht : Tr3 P Wb E w V) : ActR V a mv false :=
  (ht.block a h.lt.2.1 h.aP h.aW h.aE).trans h.fa
theorem CloR.set {lo X o : Nat} {V : World} {B v : Value} {bs : Option (List Nat)} {A : Array Value} {t : TypeId} (h : CloR lo V B bs) (hX : V.heap[X]? = some (.cells A t (0, 0))) (ht : t ≠ 5) : CloR lo (V.setCell ⟨X, o, none⟩ v) B bs := by
  cases bs with
  | none => exact h
  | some bs =>
    obtain ⟨g, cap, C, h1, h2, h3, h4, h5⟩ := h
    refine ⟨g, cap, C, h1, h2, h3, (set_other ?_).trans h4, h5⟩
    intro e
    subst e
    rw [hX] at h4
    injection h4 with h4
    injection h4 with _ h4 _
    exact ht h4
theorem CloR.drew {lo : Nat} {V : World} {B : Value} {bs : Option (List Nat)} (h : CloR lo V B bs) : CloR lo V.drew B bs := h.keep fun k _ hk => (Below.drew (Below.refl V.heap.size V)).block k hk
theorem CloR.below {lo : Nat} {V V' : World} {B : Value} {bs : Option (List Nat)} (h : CloR lo V B bs) (hb : Below V.heap.size V V') : CloR lo V' B bs := h.keep fun k _ hk => hb.block k hk
/-- the answer is stored -/
def putB3 (V : World) (Y : Nat) (av : Int) (ad : Bool) (r : Value) : World := ((V.setCell ⟨Y, 0, none⟩ (.int .u64 av)).setCell ⟨Y, 1, none⟩ (.bool ad)).setCell ⟨Y, 2, none⟩ r
theorem putB3_at {X Y : Nat} {av : Int} {ad : Bool} {r b : Value} {bs rs : Option (List Nat)} {A : Array Value} {a0 a1 a2 : Value} {lo lo' : Nat} (ht : Tr3 P Wb P w V) (hB : Bufw V P Wb nw ws' c') (hY0 : w.heap.size ≤ Y) (hP : P < w.heap.size) (hWb : Wb < w.heap.size) (hXY : X ≠ Y) (hx : V.heap[X]? = some (.cells A 40)) (hy : V.heap[Y]? = some (.cells #[a0, a1, a2] 42)) (h1 : CloR lo V b bs) (h2 : CloR lo' V r rs) :
    Tr3 P Wb P w (putB3 V Y av ad r) ∧ Bufw (putB3 V Y av ad r) P Wb nw ws' c' ∧ (putB3 V Y av ad r).heap[X]? = some (.cells A 40) ∧ (putB3 V Y av ad r).heap[Y]? = some (.cells #[.int .u64 av, .bool ad, r] 42) ∧ CloR lo (putB3 V Y av ad r) b bs ∧ CloR lo' (putB3 V Y av ad r) r rs := by
  have j0 := set7 hy 0 (.int .u64 av)
  have j1 := set7 j0 1 (.bool ad)
  have j2 := set7 j1 2 r
  have d : (42 : TypeId) ≠ 5 := by decide
  refine ⟨((ht.set (.inr hY0)).set (.inr hY0)).set (.inr hY0), ((hB.other (by omega) (by omega)).other (by omega) (by omega)).other (by omega) (by omega), (set_other hXY).trans ((set_other hXY).trans ((set_other hXY).trans hx)), ?_, ((h1.set hy d).set j0 d).set j1 d, ((h2.set hy d).set j0 d).set j1 d⟩
  unfold putB3
  rw [j2]
  rfl
theorem Tr3.weak {E' : Nat} {w V : World} {P Wb : Nat} (h : Tr3 P Wb P w V) : Tr3 P Wb E' w V := ⟨h.os, h.tape, h.output, h.size, fun k hk h1 h2 _ => h.block k hk h1 h2 h1⟩
/-- the event gets the access and the answer -/
def putE (V : World) (E : Nat) (k p n v u : Int) (b : Value) (av : Int) (ad : Bool) (r : Value) : World := ((((((((V.setCell ⟨E, 3, none⟩ (.int .i64 k)).setCell ⟨E, 4, none⟩ (.int .i64 p)).setCell ⟨E, 5, none⟩ (.int .i64 n)).setCell ⟨E, 6, none⟩ (.int .u64 v)).setCell ⟨E, 7, none⟩ (.int .u64 u)).setCell ⟨E, 8, none⟩ b).setCell ⟨E, 9, none⟩ (.int .u64 av)).setCell ⟨E, 10, none⟩ (.bool ad)).setCell ⟨E, 11, none⟩ r
theorem putE_other {V : World} {k' : Nat} {k p n v u av : Int} {ad : Bool} {r b : Value} (h : k' ≠ E) : (putE V E k p n v u b av ad r).heap[k']? = V.heap[k']? := by
  unfold putE
  rw [set_other h, set_other h, set_other h, set_other h, set_other h, set_other h, set_other h, set_other h, set_other h]
set_option maxHeartbeats 3200000 in
theorem putE_at {k p n v u av : Int} {ad : Bool} {X Y : Nat} {r b : Value} {bs rs : Option (List Nat)} {A B : Array Value} {lo lo' : Nat} (ht : Tr3 P Wb P w V) (hB : Bufw V P Wb nw ws' c') (hEP : E ≠ P) (hEW : E ≠ Wb) (hXE : X ≠ E) (hYE : Y ≠ E) (he : V.heap[E]? = some (.cells (evC e0 e1 e2 0 0 0 0 0 (.slice none 0 0) 0 false (.slice none 0 0)) 44)) (hx : V.heap[X]? = some (.cells A 40)) (hy : V.heap[Y]? = some (.cells B 42)) (h1 : CloR lo V b bs) (h2 : CloR lo' V r rs) :
    Tr3 P Wb E w (putE V E k p n v u b av ad r) ∧ Bufw (putE V E k p n v u b av ad r) P Wb nw ws' c' ∧ (putE V E k p n v u b av ad r).heap[E]? = some (.cells (evC e0 e1 e2 k p n v u b av ad r) 44) ∧ (putE V E k p n v u b av ad r).heap[X]? = some (.cells A 40) ∧ (putE V E k p n v u b av ad r).heap[Y]? = some (.cells B 42) ∧ CloR lo (putE V E k p n v u b av ad r) b bs ∧ CloR lo' (putE V E k p n v u b av ad r) r rs := by
  have d : (44 : TypeId) ≠ 5 := by decide
  have j0 := set7 he 3 (.int .i64 k)
  have j1 := set7 j0 4 (.int .i64 p)
  have j2 := set7 j1 5 (.int .i64 n)
  have j3 := set7 j2 6 (.int .u64 v)
  have j4 := set7 j3 7 (.int .u64 u)
  have j5 := set7 j4 8 b
  have j6 := set7 j5 9 (.int .u64 av)
  have j7 := set7 j6 10 (.bool ad)
  have j8 := set7 j7 11 r
  have hT : Tr3 P Wb E w V := ht.weak
  refine ⟨((((((((hT.set (.inl rfl)).set (.inl rfl)).set (.inl rfl)).set (.inl rfl)).set (.inl rfl)).set (.inl rfl)).set (.inl rfl)).set (.inl rfl)).set (.inl rfl), ((((((((hB.other hEP.symm hEW.symm).other hEP.symm hEW.symm).other hEP.symm hEW.symm).other hEP.symm hEW.symm).other hEP.symm hEW.symm).other hEP.symm hEW.symm).other hEP.symm hEW.symm).other hEP.symm hEW.symm).other hEP.symm hEW.symm, ?_, ?_, ?_, ((((((((h1.set he d).set j0 d).set j1 d).set j2 d).set j3 d).set j4 d).set j5 d).set j6 d).set j7 d, ((((((((h2.set he d).set j0 d).set j1 d).set j2 d).set j3 d).set j4 d).set j5 d).set j6 d).set j7 d⟩
  · unfold putE
    simpa [evC] using j8
  · exact (putE_other hXE).trans hx
  · exact (putE_other hYE).trans hy
end Go.Proofs.YtpbhfckefmboaaaGreatDoor.Ba
namespace Go.Proofs.YtpbhfckefmboaaaGreatDoor.Ba
open Go Go.RowKit Go.Lib Go.Base
variable {w V : World} {S a E P Wb nw : Nat} {ws ws' : Nat → Int} {c c' : Int} {mv e0 e1 e2 : Value}
theorem ev_drew {k p n v u av : Int} {ad : Bool} {b r : Value} {bs rs : Option (List Nat)} {Y : Nat} {V : World} (h : Tr3 P Wb E w V ∧ Bufw V P Wb nw ws' c' ∧ V.heap[E]? = some (.cells (evC e0 e1 e2 k p n v u b av ad r) 44) ∧ V.heap[Y]? = some (.cells #[.int .u64 av, .bool ad, r] 42) ∧ CloR w.heap.size V b bs ∧ CloR w.heap.size V r rs) : Tr3 P Wb E w V.drew ∧ Bufw V.drew P Wb nw ws' c' ∧ V.drew.heap[E]? = some (.cells (evC e0 e1 e2 k p n v u b av ad r) 44) ∧ V.drew.heap[Y]? = some (.cells #[.int .u64 av, .bool ad, r] 42) ∧ CloR w.heap.size V.drew b bs ∧ CloR w.heap.size V.drew r rs :=
  ⟨h.1.below (Below.drew (Below.refl _ _)) h.1.size, h.2.1.below (Below.drew (Below.refl _ _)), h.2.2.1, h.2.2.2.1, h.2.2.2.2.1.drew, h.2.2.2.2.2.drew⟩
set_option maxRecDepth 100000 in
set_option maxHeartbeats 3200000 in
theorem step_ok {mt : TypeId} {mp : Value} {fT : FuncId} {k p n v u av : Int} {ad : Bool} {ba : Option Addr} {bn bc : Nat} {bs rs : Option (List Nat)} {Post : World → World → Prop} (h : StG w S a E P Wb nw ws c (.iface mt mp) e0 e1 e2)
    (hN : Calls Tryz.prog 61 #[.pointer (some ⟨a, 0, none⟩)] w fun e w1 => e = .returned (.tuple #[accM k p n v u ba bn bc, .bool true]) ∧ Below w.heap.size w w1)
    (hC : ∀ V, Below w.heap.size w V → Calls Tryz.prog 62 #[.slice ba bn bc] V fun e V' => ∃ xa xn xc, e = .returned (.slice xa xn xc) ∧ Below V.heap.size V V' ∧ CloR V.heap.size V' (.slice xa xn xc) bs)
    (hD : ∀ V xa xn xc, Below w.heap.size w V → CloR w.heap.size V (.slice xa xn xc) bs → Calls Tryz.prog 128 #[.pointer (some ⟨P, 0, none⟩), accM k p n v u xa xn xc] V fun e V' => ∃ ra rn rc, e = .returned (.tuple #[.agg #[.int .u64 av, .bool ad, .slice ra rn rc], .int .i64 0]) ∧ Turn2 P Wb V V' ∧ Bufw V' P Wb nw ws' c' ∧ CloR V.heap.size V' (.slice ra rn rc) rs)
    (hC2 : ∀ V ra rn rc, Tr3 P Wb E w V → CloR w.heap.size V (.slice ra rn rc) rs → Calls Tryz.prog 62 #[.slice ra rn rc] V fun e V' => ∃ xa xn xc, e = .returned (.slice xa xn xc) ∧ Below V.heap.size V V' ∧ CloR V.heap.size V' (.slice xa xn xc) rs)
    (hm : ∀ n, n = Tryz.prog.types.size + Made.depth → ∀ W, Sem.run Tryz.prog (method n mt mp "Take") W = .ok (fT, mp) W)
    (hf : ∀ x W, Sem.run Tryz.prog (callFunc fT #[mp, x]) W = .ok (.enter fT #[mp, x]) W)
    (hT : ∀ V ya yn yc, Tr3 P Wb E w V → Bufw V P Wb nw ws' c' → CloR w.heap.size V (.slice ya yn yc) rs → Calls Tryz.prog fT #[mp, .agg #[.int .u64 av, .bool ad, .slice ya yn yc]] V fun e V' => e = .returned (.tuple #[]) ∧ Post V V') :
    Calls Tryz.prog 104 #[.pointer (some ⟨S, 0, none⟩), .pointer (some ⟨a, 0, none⟩), .pointer (some ⟨E, 0, none⟩)] w fun e w' => e = .returned (.int .i64 0) ∧ ∃ V xa xn xc ra rn rc, Tr3 P Wb E w V ∧ Bufw V P Wb nw ws' c' ∧ V.heap[E]? = some (.cells (evC e0 e1 e2 k p n v u (.slice xa xn xc) av ad (.slice ra rn rc)) 44) ∧ CloR w.heap.size V (.slice xa xn xc) bs ∧ CloR w.heap.size V (.slice ra rn rc) rs ∧ Post V w' := by
  have HS := Lib.hid h
  have HC := Lib.hid (And.intro hC (And.intro hD (And.intro hC2 (And.intro hm (And.intro hf hT)))))
  have neSE := h.sE
  unfold accM at hN
  clear h hC hD hC2 hm hf hT
  go_enter Tryz.func104, Tryz.ntmps104
  go_wp2_with (first
    | (go_at_call 61
       refine hN.mono ?_
       clear hN
       rintro e w1 ⟨rfl, hB⟩
       obtain ⟨X, hX⟩ : ∃ X, w1.heap.size = X := ⟨_, rfl⟩
       obtain ⟨V1, hV1⟩ : ∃ V, w1.alloc (.cells #[.int .i64 0, .int .i64 0, .int .i64 0, .int .u64 0, .int .u64 0, .slice none 0 0] 40) = V := ⟨_, rfl⟩
       obtain ⟨b1, r1, s1⟩ := at_new hV1
       rw [hX] at r1
       obtain ⟨d0, d1, d2, d3, d4, d5⟩ := blk6 r1
       have y0 := froz6 r1 0
       have y1 := froz6 r1 1
       have y2 := froz6 r1 2
       have y3 := froz6 r1 3
       have y4 := froz6 r1 4
       have y5 := froz6 r1 5
       obtain ⟨q1, q2⟩ := putA_new (k := k) (p := p) (n := n) (v := v) (u := u) (s := .slice ba bn bc) hX b1 r1
       obtain ⟨k0, k1, k2, k3, k4, k5⟩ := blk6 q2
       have H1 := Lib.hid (And.intro (show w.heap.size ≤ X from hX ▸ hB.size) (And.intro (show Below w.heap.size w (putA V1 X k p n v u (.slice ba bn bc)) from hB.trans (q1.mono hB.size)) q2))
       clear hB b1 r1 q1 q2 k0 k1 k2 k3 k4 s1
       unfold putA at k5)
    )
  refine (HC.out.1 _ H1.out.2.1).mono ?_
  rintro e w2 ⟨xa, xn, xc, rfl, hB, hR⟩
  replace hB : Below (putA V1 X k p n v u (.slice ba bn bc)).heap.size (putA V1 X k p n v u (.slice ba bn bc)) w2 := hB
  replace hR : CloR (putA V1 X k p n v u (.slice ba bn bc)).heap.size w2 (.slice xa xn xc) bs := hR
  have hXl := (Array.getElem?_eq_some_iff.1 H1.out.2.2).1
  have hb2 : Below w.heap.size w w2 := H1.out.2.1.trans (hB.mono H1.out.2.1.size)
  have r2 := (hB.block X hXl).trans H1.out.2.2
  have hR2 : CloR w.heap.size w2 (.slice xa xn xc) bs := hR.mono (by have := H1.out.1; omega)
  have hXw := H1.out.1
  clear k5 d0 d1 d2 d3 d4 d5 y0 y1 y2 y3 y4 y5 hB hR H1 hX hV1
  obtain ⟨d0, d1, d2, d3, d4, d5⟩ := blk6 r2
  have y5 := froz6 r2 5
  have lt := HS.out.lt
  have neSX : ¬ S = X := by omega
  have neXS : ¬ X = S := by omega
  obtain ⟨V3, hV3⟩ : ∃ V, w2.setCell ⟨X, 5, none⟩ (.slice xa xn xc) = V := ⟨_, rfl⟩
  have b3 : Below w.heap.size w V3 := hV3 ▸ below_set hb2 hXw
  have r3 : V3.heap[X]? = some (.cells #[.int .i64 k, .int .i64 p, .int .i64 n, .int .u64 v, .int .u64 u, .slice xa xn xc] 40) := hV3 ▸ set7 r2 5 (.slice xa xn xc)
  have R3 : CloR w.heap.size V3 (.slice xa xn xc) bs := hV3 ▸ hR2.set r2 (by decide)
  have s3 := HS.out.sAt (.of b3)
  obtain ⟨d30, d31, d32, d33, d34, d35⟩ := blk6 r3
  obtain ⟨V5, hV5⟩ : ∃ V, V3.alloc (.cells #[.int .u64 0, .bool false, .slice none 0 0] 42) = V := ⟨_, rfl⟩
  obtain ⟨b5, r5, z5⟩ := at_new hV5
  obtain ⟨Y, hY⟩ : ∃ Y, V3.heap.size = Y := ⟨_, rfl⟩
  rw [hY] at b5 r5 z5
  have hXY : X < Y := hY ▸ (Array.getElem?_eq_some_iff.1 r3).1
  have B5 : Below w.heap.size w V5 := b3.trans (b5.mono (by have := b3.size; omega))
  have r5x := (b5.block X hXY).trans r3
  obtain ⟨d50, d51, d52, d53, d54, d55⟩ := blk6 r5x
  have s5 := HS.out.sAt (.of B5)
  have H3 := Lib.hid (And.intro b3 (And.intro r3 R3))
  have H5 := Lib.hid (And.intro B5 (And.intro r5 (And.intro z5 (And.intro r5x (show CloR w.heap.size V5 (.slice xa xn xc) bs from R3.keep fun k _ hk => b5.block k (by omega))))))
  clear b3 r3 R3 b5 r5 z5 B5 r5x hb2 r2 hR2
  go_wp2_with fail
  rename_i Q' K hK
  have key : ∀ (W7 : World) (Y : Nat) (ra : Option Addr) (rn rc : Nat), Hid (w.heap.size ≤ Y ∧ X ≠ Y ∧ Tr3 P Wb P w W7 ∧ Bufw W7 P Wb nw ws' c' ∧ W7.heap[X]? = some (.cells #[.int .i64 k, .int .i64 p, .int .i64 n, .int .u64 v, .int .u64 u, .slice xa xn xc] 40) ∧ W7.heap[Y]? = some (.cells #[.int .u64 av, .bool ad, .slice ra rn rc] 42) ∧ CloR w.heap.size W7 (.slice xa xn xc) bs ∧ CloR w.heap.size W7 (.slice ra rn rc) rs) → K { tmps := #[.pointer (some ⟨S, 0, none⟩), .pointer (some ⟨a, 0, none⟩), .pointer (some ⟨E, 0, none⟩), undef, undef, undef, .int .i64 0, .pointer (some ⟨X, 0, none⟩), .bool true, .pointer (some ⟨Y, 0, none⟩), .int .i64 0, .tuple #[.agg #[.int .i64 k, .int .i64 p, .int .i64 n, .int .u64 v, .int .u64 u, .slice ba bn bc], .bool true], .pointer (some ⟨a, 0, none⟩), .tuple #[.agg #[.int .i64 k, .int .i64 p, .int .i64 n, .int .u64 v, .int .u64 u, .slice ba bn bc], .bool true], .agg #[.int .i64 k, .int .i64 p, .int .i64 n, .int .u64 v, .int .u64 u, .slice ba bn bc], .bool true, .bool true, .bool false, .pointer (some ⟨X, 5, none⟩), .slice ba bn bc, .slice xa xn xc, .pointer (some ⟨X, 5, none⟩), .tuple #[.agg #[.int .u64 av, .bool ad, .slice ra rn rc], .int .i64 0], .pointer (some ⟨S, 0, none⟩), .pointer (some ⟨S, 0, none⟩), .pointer (some ⟨S, 0, none⟩), .pointer (some ⟨P, 0, none⟩), .agg #[.int .i64 k, .int .i64 p, .int .i64 n, .int .u64 v, .int .u64 u, .slice xa xn xc], .tuple #[.agg #[.int .u64 av, .bool ad, .slice ra rn rc], .int .i64 0], .agg #[.int .u64 av, .bool ad, .slice ra rn rc], .int .i64 0, undef, undef, undef, undef, undef, undef, undef, undef, undef, undef, undef, undef, undef, undef, undef, undef, undef, undef, undef, undef, undef, undef, undef, undef], defers := [] } W7 := by
    clear d0 d1 d2 d3 d4 d5 y5 neSX neXS hV3 s3 hV5 hXY d30 d31 d32 d33 d34 d35 d50 d51 d52 d53 d54 d55 s5 H3 H5 hXl hY
    intro W7 Y ra rn rc HQ
    obtain ⟨d0, d1, d2, d3, d4, d5⟩ := blk6 HQ.out.2.2.2.2.1
    obtain ⟨g0, g1, g2, z0, z1, z2⟩ := blk3 HQ.out.2.2.2.2.2.1
    have eW := (HQ.out.2.2.1.block E lt.2.2.1 HS.out.eP HS.out.eW HS.out.eP).trans HS.out.fe
    have hXE : X ≠ E := by omega
    have hYE : Y ≠ E := by have := HQ.out.1; omega
    obtain ⟨f0, f1, f2, f3, f4, f5, f6, f7, f8, f9, f10, f11, fz⟩ := blk12 eW
    have fz3 := fz 3 (by decide)
    have fz4 := fz 4 (by decide)
    have fz5 := fz 5 (by decide)
    have fz6 := fz 6 (by decide)
    have fz7 := fz 7 (by decide)
    have fz8 := fz 8 (by decide)
    have fz9 := fz 9 (by decide)
    have fz10 := fz 10 (by decide)
    have fz11 := fz 11 (by decide)
    clear fz
    have hq := putE_at (k := k) (p := p) (n := n) (v := v) (u := u) (av := av) (ad := ad) HQ.out.2.2.1 HQ.out.2.2.2.1 HS.out.eP HS.out.eW hXE hYE eW HQ.out.2.2.2.2.1 HQ.out.2.2.2.2.2.1 HQ.out.2.2.2.2.2.2.1 HQ.out.2.2.2.2.2.2.2
    have HE := Lib.hid hq
    clear hq eW
    have hEX : ¬ E = X := fun e => hXE e.symm
    have hEY : ¬ E = Y := fun e => hYE e.symm
    refine hK _ _ ?_
    go_wp2_with fail
    obtain ⟨W8, hW8⟩ : ∃ V, (putE W7 E k p n v u (.slice xa xn xc) av ad (.slice ra rn rc)).drew = V := ⟨_, rfl⟩
    have h8 : Tr3 P Wb E w W8 ∧ Bufw W8 P Wb nw ws' c' ∧ W8.heap[E]? = some (.cells (evC e0 e1 e2 k p n v u (.slice xa xn xc) av ad (.slice ra rn rc)) 44) ∧ W8.heap[Y]? = some (.cells #[.int .u64 av, .bool ad, .slice ra rn rc] 42) ∧ CloR w.heap.size W8 (.slice xa xn xc) bs ∧ CloR w.heap.size W8 (.slice ra rn rc) rs := by
      rw [← hW8]
      exact ev_drew ⟨HE.out.1, HE.out.2.1, HE.out.2.2.1, HE.out.2.2.2.2.1, HE.out.2.2.2.2.2.1, HE.out.2.2.2.2.2.2⟩
    have H8 := Lib.hid h8
    clear h8
    unfold putE at hW8
    go_region
    clear d0 d1 d2 d3 d4 d5 g0 g1 g2 z0 z1 z2 f0 f1 f2 f3 f4 f5 f6 f7 f8 f9 f10 f11 fz3 fz4 fz5 fz6 fz7 fz8 fz9 fz10 fz11 HE hW8
    obtain ⟨g0, g1, g2, z0, z1, z2⟩ := blk3 H8.out.2.2.2.1
    go_wp2_with fail
    refine (HC.out.2.2.1 _ ra rn rc H8.out.1 H8.out.2.2.2.2.2).mono ?_
    rintro e w9 ⟨ya, yn, yc, rfl, hB, hR⟩
    clear g0 g1 g2 z0 z1 z2
    have hY8 := (Array.getElem?_eq_some_iff.1 H8.out.2.2.2.1).1
    have r9 := (hB.block Y hY8).trans H8.out.2.2.2.1
    obtain ⟨g0, g1, g2, z0, z1, z2⟩ := blk3 r9
    obtain ⟨W10, hW10⟩ : ∃ V, w9.setCell ⟨Y, 2, none⟩ (.slice ya yn yc) = V := ⟨_, rfl⟩
    have dY : (42 : TypeId) ≠ 5 := by decide
    have hwY := HQ.out.1
    have h10 : Tr3 P Wb E w W10 ∧ Bufw W10 P Wb nw ws' c' ∧ W10.heap[E]? = some (.cells (evC e0 e1 e2 k p n v u (.slice xa xn xc) av ad (.slice ra rn rc)) 44) ∧ W10.heap[Y]? = some (.cells #[.int .u64 av, .bool ad, .slice ya yn yc] 42) ∧ CloR w.heap.size W10 (.slice xa xn xc) bs ∧ CloR w.heap.size W10 (.slice ra rn rc) rs ∧ CloR w.heap.size W10 (.slice ya yn yc) rs := by
      rw [← hW10]
      have hE8 := (Array.getElem?_eq_some_iff.1 H8.out.2.2.1).1
      exact ⟨(H8.out.1.below hB H8.out.1.size).set (.inr hwY), (H8.out.2.1.below hB).other (by omega) (by omega), (set_other hEY).trans ((hB.block E hE8).trans H8.out.2.2.1), by simpa using set7 r9 2 (.slice ya yn yc), (H8.out.2.2.2.2.1.below hB).set r9 dY, (H8.out.2.2.2.2.2.below hB).set r9 dY, (hR.mono H8.out.1.size).set r9 dY⟩
    have H10 := Lib.hid h10
    have a10 : ActR W10 a (.iface mt mp) false := HS.out.aAt h10.1
    have k10 : W10.cell? ⟨a, 0, none⟩ = some (.iface mt mp) := by unfold ActR at a10; simp [World.cell?, a10]
    obtain ⟨g100, g101, g102, -, -, -⟩ := blk3 h10.2.2.2.1
    clear hB hR r9 h10 a10 H8 hY8
    go_wp2_with fail
    go_region_with (go_wp2_with fail
                    rw [HC.out.2.2.2.1 _ (by kernel_rfl)]
                    simp only [Result.andThen, HC.out.2.2.2.2.1]
                    refine (HC.out.2.2.2.2.2 _ ya yn yc (H10.out.1.below (Below.drew (Below.refl _ _)) H10.out.1.size) (H10.out.2.1.below (Below.drew (Below.refl _ _))) H10.out.2.2.2.2.2.2.drew).mono ?_
                    rintro e w12 ⟨rfl, hP⟩)
    all_goals go_wp2
    all_goals go_ret
    all_goals exact ⟨rfl, W10.drew, xa, xn, xc, ra, rn, rc, H10.out.1.below (Below.drew (Below.refl _ _)) H10.out.1.size, H10.out.2.1.below (Below.drew (Below.refl _ _)), H10.out.2.2.1, H10.out.2.2.2.2.1.drew, H10.out.2.2.2.2.2.1.drew, hP⟩
  go_region_with (go_at_call 128
                  first
                  | (refine (HC.out.2.1 _ xa xn xc H5.out.1.drew H5.out.2.2.2.2.drew).mono ?_
                     rintro e w4 ⟨ra, rn, rc, rfl, hT, hB4, hr4⟩
                     have hY5 := (Array.getElem?_eq_some_iff.1 H5.out.2.1).1
                     have hX5 := (Array.getElem?_eq_some_iff.1 H5.out.2.2.2.1).1
                     have t4 : Tr3 P Wb P w w4 := (Tr3.of H5.out.1.drew).turn hT
                     have hwY : w.heap.size ≤ Y := by have := H3.out.1.size; omega
                     have r4 := (hT.block Y hY5 (by omega) (by omega)).trans H5.out.2.1
                     have x4 := (hT.block X hX5 (by omega) (by omega)).trans H5.out.2.2.2.1
                     have R4 : CloR w.heap.size w4 (.slice xa xn xc) bs := H5.out.2.2.2.2.drew.keep fun k hk hk2 => hT.block k hk2 (by omega) (by omega)
                     have hq := putB3_at (av := av) (ad := ad) t4 hB4 hwY lt.2.2.2.1 lt.2.2.2.2 (show X ≠ Y by omega) x4 r4 R4 (hr4.mono (show w.heap.size ≤ V5.drew.heap.size from H5.out.1.drew.size))
                     have HQ := Lib.hid (And.intro (show w.heap.size ≤ Y from hwY) (And.intro (show X ≠ Y by omega) hq))
                     obtain ⟨g0, g1, g2, z0, z1, z2⟩ := blk3 r4
                     obtain ⟨d40, d41, d42, d43, d44, d45⟩ := blk6 x4
                     clear hT hB4 hr4 hY5 hX5 t4 hwY r4 x4 R4 hq)
                  | (refine (HC.out.2.1 _ xa xn xc H3.out.1.drew H3.out.2.2.drew).mono ?_
                     rintro e w4 ⟨ra, rn, rc, rfl, hT, hB4, hr4⟩
                     have hX5 := (Array.getElem?_eq_some_iff.1 H3.out.2.1).1
                     have t4 : Tr3 P Wb P w w4 := (Tr3.of H3.out.1.drew).turn hT
                     have x4 := (hT.block X hX5 (by omega) (by omega)).trans H3.out.2.1
                     have R4 : CloR w.heap.size w4 (.slice xa xn xc) bs := H3.out.2.2.drew.keep fun k hk hk2 => hT.block k hk2 (by omega) (by omega)
                     clear hY
                     obtain ⟨V6, hV6⟩ : ∃ V, w4.alloc (.cells #[.int .u64 0, .bool false, .slice none 0 0] 42) = V := ⟨_, rfl⟩
                     obtain ⟨b6, r6, s6⟩ := at_new hV6
                     obtain ⟨Y, hY⟩ : ∃ Y, w4.heap.size = Y := ⟨_, rfl⟩
                     rw [hY] at b6 r6 s6
                     have hXY4 : X < Y := hY ▸ (Array.getElem?_eq_some_iff.1 x4).1
                     have hwY : w.heap.size ≤ Y := hY ▸ t4.size
                     have t6 : Tr3 P Wb P w V6 := t4.below b6 hwY
                     have x6 := (b6.block X hXY4).trans x4
                     have k6 : ∀ k, k < w4.heap.size → V6.heap[k]? = w4.heap[k]? := fun k hk => b6.block k (by omega)
                     have hq := putB3_at (av := av) (ad := ad) t6 (hB4.below (hY.symm ▸ b6)) hwY lt.2.2.2.1 lt.2.2.2.2 (show X ≠ Y by omega) x6 r6 (R4.keep fun k _ hk => k6 k hk) ((hr4.mono (show w.heap.size ≤ V3.drew.heap.size from H3.out.1.drew.size)).keep fun k _ hk => k6 k hk)
                     have HQ := Lib.hid (And.intro (show w.heap.size ≤ Y from hwY) (And.intro (show X ≠ Y by omega) hq))
                     obtain ⟨g0, g1, g2, z0, z1, z2⟩ := blk3 r6
                     obtain ⟨d40, d41, d42, d43, d44, d45⟩ := blk6 x4
                     clear hT hB4 hr4 hX5 t4 hwY r6 x4 R4 hq x6 k6 t6 b6 s6))
  all_goals exact key _ _ _ _ _ HQ
end Go.Proofs.YtpbhfckefmboaaaGreatDoor.Ba
