/- YtndgbfpcnkmihaaGreatDoorASCode2; YtndgbfpcnkmihaaGreatDoorASEnv; YtndgbfpcnkmihaaGreatDoorASTop; YtndgbfpcnkmihaaGreatDoorASUse; YtndgbfpcnkmihaaGreatDoorASHeap; YtndgbfpcnkmihaaGreatDoorASStand; YtndgbfpcnkmihaaGreatDoorASRules; YtndgbfpcnkmihaaGreatDoorASFastA; YtndgbfpcnkmihaaGreatDoorASFast; YtndgbfpcnkmihaaGreatDoorASFast2; YtndgbfpcnkmihaaGreatDoorASFast3; YtndgbfpcnkmihaaGreatDoorASFast4: in one text. -/
import Derived.Test.YtndgbfpcnkmihaaGreatDoorEvB
import Derived.Test.YtndgbfpcnkmihaaGreatDoorEvA
import Derived.Deep.MidRow
set_option linter.unusedSectionVars false
/- Code, loops and calls. -/
namespace Go.AS
open Go.RowKit
variable [Rho]
variable {E : Env} {P : Program} {w0 : World}
def Ex.out : Ex → Exit
  | .normal => .normal
  | .exit i => .exit i
  | .ret => .ret
/-- what stands among a frame's deferred calls: marks of loops that were gone through -/
def Marks (B : Nat) (σ : Sg) (m : Mem) (w : World) (ds : List Deferred) : Prop :=
  B ≤ w.heap.size ∧ ds.Pairwise (fun a b => a.target ≠ b.target) ∧ ∀ d ∈ ds, ∃ r, d = { target := .collected r, args := #[] } ∧ B ≤ r ∧ w.heap[r]? = some (.deferred (some [])) ∧ ¬ LiveB σ m r
theorem Marks.nil {B : Nat} {σ : Sg} {m : Mem} {w : World} (h : B ≤ w.heap.size) : Marks B σ m w [] := ⟨h, .nil, fun d hd => by cases hd⟩
theorem Marks.mono {B : Nat} {σ σ' : Sg} {m m' : Mem} {w w' : World} {ds : List Deferred} (h : Marks B σ m w ds) (hf : FG σ m w σ' m' w') : Marks B σ' m' w' ds := by
  refine ⟨Nat.le_trans h.1 hf.size, h.2.1, fun d hd => ?_⟩
  obtain ⟨r, h1, h2, h3, h4⟩ := h.2.2 d hd
  have hlt : r < w.heap.size := (Array.getElem?_eq_some_iff.1 h3).1
  refine ⟨r, h1, h2, (hf.frame r hlt h4).trans h3, fun hl => ?_⟩
  rcases hf.grow r hl with h5 | h5
  · exact h4 h5
  · omega
/-- what a piece of code must answer to -/
def Meets (E : Env) (w0 : World) (N B : Nat) (l : List (Ex × T Value × Mem)) (m : Mem) (σ : Sg) (w : World) (Q : Exit → Act → World → Prop) : Prop :=
  ∀ r ∈ l, ∀ σ' a' w', FG σ m w σ' r.2.2 w' → TR σ' N r.2.1 a' → MR E w0 σ' r.2.2 w' → Marks B σ' r.2.2 w' a'.defers → Q r.1.out a' w'
theorem bindL_nil {α β : Type} (f : α → List β) : bindL [] f = [] := by simp [bindL]
theorem bindL_src {α β : Type} {f : α → List β} {l : List α} (h : bindL l f ≠ []) : l ≠ [] := fun e => by rw [e, bindL_nil] at h; exact h rfl
def CodeOK (E : Env) (P : Program) (w0 : World) (N B : Nat) (rr : Option Nat) (ev : T Value → Mem → List (Ex × T Value × Mem)) (c : Code) : Prop :=
  ∀ n t m σ a w Q, ev t m ≠ [] → TR σ N t a → MR E w0 σ m w → Marks B σ m w a.defers → Meets E w0 N B (ev t m) m σ w Q → c.wpIn (WF rr) n P Q a w
def LoopFrom (rr : Option Nat) (_ : Nat) (P : Program) (c : Code) (Q : Exit → Act → World → Prop) (a : Act) (w : World) : Prop :=
  ∀ (b : Frame) (k : List Item) (cs : List Frame), b.roundOf = rr → ∃ e a' w', Q e a' w' ∧ ArrivesIn (Machine.fenced P (WF rr)) P (lone (b.atR a (.code c :: .inLoop c :: k)) cs w) b k cs e a' w'
theorem room_WF {rr : Option Nat} (n : Nat) : (WF rr).room n := fun _ h => by simp [WF, Fence.wide] at h
theorem LoopFrom.wp {rr : Option Nat} {n : Nat} {c : Code} {Q : Exit → Act → World → Prop} {a : Act} {w : World} (h : LoopFrom rr n P c Q a w) : (Code.loop c).wpIn (WF rr) n P Q a w := fun b k cs hro hb hr => by
  obtain ⟨e, a', w', hq, harr⟩ := h b k cs hro
  exact ⟨e, a', w', hq, .of_steps (.one (fenced_calm hb hr rfl) stepR_loop) harr⟩
theorem LoopFrom.round {rr : Option Nat} {n : Nat} {c : Code} {Q : Exit → Act → World → Prop} {a : Act} {w : World} (h : c.wpIn (WF rr) n P (Exit.then (LoopFrom rr n P c Q) Q) a w) : LoopFrom rr n P c Q a w := fun b k cs hro => by
  obtain ⟨e, a₁, w₁, hq, harr⟩ := h b (.inLoop c :: k) cs hro trivial (room_WF _)
  cases e with
  | normal =>
    obtain ⟨e₂, a₂, w₂, hq₂, harr₂⟩ := hq b k cs hro
    exact ⟨e₂, a₂, w₂, hq₂, .of_steps (StepsIn.trans harr (.one (fenced_calm (n := 0) trivial (room_WF _) rfl) stepR_inLoop)) harr₂⟩
  | exit id => exact ⟨_, a₁, w₁, hq, .pass (x := .inLoop c) rfl (fun _ _ => .inl (by simp)) harr⟩
  | goto l => exact ⟨_, a₁, w₁, hq, .pass (x := .inLoop c) rfl (fun _ _ => .inl (by simp)) harr⟩
  | ret => exact ⟨_, a₁, w₁, hq, .pass (x := .inLoop c) rfl (fun _ _ => .inl (by simp)) harr⟩
  | panic ch => exact ⟨_, a₁, w₁, hq, .pass (x := .inLoop c) rfl (fun _ _ => .inl (by simp)) harr⟩
  | outgrown => exact ⟨_, a₁, w₁, hq, .pass (x := .inLoop c) rfl (fun _ _ => .inl (by simp)) harr⟩
theorem evLoop_from {N B : Nat} {rr : Option Nat} {ev : T Value → Mem → List (Ex × T Value × Mem)} {c : Code} (hc : CodeOK E P w0 N B rr ev c) (fl : Nat) : ∀ n t m σ a w Q, evLoop ev n t m ≠ [] → TR σ N t a → MR E w0 σ m w → Marks B σ m w a.defers → Meets E w0 N B (evLoop ev n t m) m σ w Q → LoopFrom rr fl P c Q a w := by
  intro n
  induction n with
  | zero => intro t m σ a w Q hne; exact absurd rfl hne
  | succ n ih =>
    intro t m σ a w Q hne hT hM hK hQ
    refine LoopFrom.round ?_
    simp only [evLoop] at hne hQ
    have h0 := bindL_ne hne
    refine hc fl t m σ a w _ (bindL_src hne) hT hM hK ?_
    rintro ⟨e, t1, m1⟩ hr σ' a' w' hf hT' hM' hd
    obtain ⟨h1, h2⟩ := h0 _ hr
    cases e with
    | normal =>
      exact ih t1 m1 σ' a' w' Q h1 hT' hM' hd (fun r hr' σ2 a2 w2 g1 g2 g3 g4 => hQ r (h2 r hr') σ2 a2 w2 (hf.trans g1) g2 g3 g4)
    | exit i => exact hQ (.exit i, t1, m1) (h2 _ (List.mem_singleton.2 rfl)) σ' a' w' hf hT' hM' hd
    | ret => exact hQ (.ret, t1, m1) (h2 _ (List.mem_singleton.2 rfl)) σ' a' w' hf hT' hM' hd
theorem both_ne {α : Type} {l r : List α} (h : both l r ≠ []) : l ≠ [] ∧ r ≠ [] ∧ (∀ x ∈ l, x ∈ both l r) ∧ ∀ x ∈ r, x ∈ both l r := by
  unfold both at h ⊢
  split at h
  · exact ⟨by simp, by simp, fun x hx => List.mem_append_left _ hx, fun x hx => List.mem_append_right _ hx⟩
  · exact absurd rfl h
theorem topB_inv {σ : Sg} {v : Value} (h : VR σ (.complex .f32 1 0) v) : ∃ b, v = .bool b := by
  cases h with
  | topB b => exact ⟨b, rfl⟩
  | refl h => cases h
/-! ### a range over a function -/
theorem run_getLoop {w : World} {l : Nat} {L : Loop} (h : w.heap[l]? = some (.loop L)) : (Instr.getLoop l).run P w = .ok L w := by
  simp only [Instr.getLoop, Sem.run_bind, run_getObj (P := P) h, Result.andThen_ok]
  rfl
theorem MR.aside {σ : Sg} {m : Mem} {w : World} (h : MR E w0 σ m w) (o : Obj) : MR E w0 σ m (w.alloc o) := by
  refine ⟨h.below.alloc h.below.size o, h.t0, fun i p hi hp => ?_, h.inj, h.fresh⟩
  obtain ⟨x, ob, hx, hB, hob, hor⟩ := h.obj i p hi hp
  exact ⟨x, ob, hx, hB, (Below.heap_alloc w o x.b (Array.getElem?_eq_some_iff.1 hob).1).trans hob, hor⟩
theorem FG.aside (σ : Sg) (m : Mem) (w : World) (o : Obj) : FG σ m w σ m (w.alloc o) :=
  ⟨Ext.refl σ, by simp, fun b hb _ => Below.heap_alloc w o b hb, fun _ h => .inl h, Nat.le_refl _, fun _ _ => rfl⟩
/-- what lives is laid aside, whatever its block holds now -/
theorem MR.kill {σ : Sg} {m : Mem} {w : World} (h : MR E w0 σ m w) {i : Nat} {o : AObj} (hr : m.t.get i = some o) (ho : o.live = true) {x : Inf} (hx : σ i = some x) (ob : Obj) :
    MR E w0 σ ⟨m.n, m.t.set i .dead⟩ { w with heap := w.heap.setIfInBounds x.b ob } ∧ FG σ m w σ ⟨m.n, m.t.set i .dead⟩ { w with heap := w.heap.setIfInBounds x.b ob } ∧ ¬ LiveB σ ⟨m.n, m.t.set i .dead⟩ x.b ∧ w0.heap.size ≤ x.b ∧ x.b < w.heap.size := by
  obtain ⟨y, ob0, hy, hB, hob0, _⟩ := h.obj i o hr ho
  obtain rfl : y = x := by rw [hx] at hy; exact (Option.some.inj hy).symm
  have hlt : y.b < w.heap.size := (Array.getElem?_eq_some_iff.1 hob0).1
  have hnl : ¬ LiveB σ ⟨m.n, m.t.set i .dead⟩ y.b := by
    rintro ⟨j, p, z, hj, hp, hz, hb⟩
    by_cases e : i = j
    · subst e; rw [T.get_set_same] at hj; cases hj; cases hp
    · rw [T.get_set_ne _ _ e] at hj
      exact e (h.inj i j o p y z hr ho hj hp hx hz hb.symm)
  have hoth : ∀ k, k ≠ y.b → (w.heap.setIfInBounds y.b ob)[k]? = w.heap[k]? := fun k hk => by simp [Ne.symm hk]
  refine ⟨(h.drop i).offstage hB hnl (by simp) hoth rfl rfl rfl, ⟨Ext.refl σ, by simp, fun b _ hl => hoth b (fun e => hl ⟨i, o, y, hr, ho, hx, e.symm⟩), fun b hb => .inl hb.dead, Nat.le_refl _, fun _ _ => rfl⟩, hnl, hB, hlt⟩
theorem seqCall_spec {g : Value} {i : Nat} {f : FuncId} {args : List Value} (h : seqCall E g i = some (f, args)) : ∃ first cap fn, g = .func (.func f) first cap ∧ E.funcs.get f = some fn ∧ args = first.toList ++ [yld i] ++ cap.toList := by
  unfold seqCall at h
  split at h
  · split at h
    · rename_i fn hfn; cases h; exact ⟨_, _, fn, rfl, hfn, rfl⟩
    · cases h
  · cases h
set_option maxHeartbeats 1000000 in
theorem evRange_wp (hE : EOK E P) {call : CallF} (hcall : CallOK E P w0 call) {N B n : Nat} {g : Operand} {ps : Array Tmp} {assign body : Code} {t : T Value} {m : Mem} {σ : Sg} {a : Act} {w : World} {Q : Exit → Act → World → Prop}
    (hne : evRange E call N g ps assign body t m ≠ []) (hT : TR σ N t a) (hM : MR E w0 σ m w) (hK : Marks B σ m w a.defers) (hQ : Meets E w0 N B (evRange E call N g ps assign body t m) m σ w Q) : (Code.rangeFunc g ps assign body).wpIn (WF none) n P Q a w := by
  unfold evRange at hne hQ
  split at hne
  · rename_i f args hsc
    simp only [hsc] at hQ
    obtain ⟨first, cap, fn, hg, hfn, rfl⟩ := seqCall_spec hsc
    obtain ⟨hP, hname, bd, hbd⟩ := hE.funcs f fn hfn
    have hv := evalT_sound hT g
    rw [hg] at hv
    obtain ⟨first', cap', hv', hfst, hcap⟩ := hv.func_inv
    have hM1 := hM.aside (.deferred (some []))
    have hF1 := FG.aside σ m w (.deferred (some []))
    obtain ⟨w1, hw1⟩ : ∃ w1, w.alloc (.deferred (some [])) = w1 := ⟨_, rfl⟩
    rw [hw1] at hM1 hF1
    have hs1 : w1.heap.size = w.heap.size + 1 := by rw [← hw1]; simp
    refine wpIn_rangeFunc (fun fn0 _ => ?_)
    let L : Loop := { state := .ready, pending := none, fn := fn0, tmps := a.tmps, params := ps, assign, body, defers := w.heap.size }
    have hor : OR E σ ⟨w1.heap.size, 0, 0, 0⟩ (.loop t N ps assign body) (.loop L) := ⟨rfl, rfl, rfl, rfl, rfl, hT.size, hT.val⟩
    obtain ⟨hM2, hF2⟩ := hM1.new (id := m.n) (hM.fresh m.n (Nat.le_refl _)) (n' := m.n + 1) (by omega) (by omega) (x := ⟨w1.heap.size, 0, 0, 0⟩) rfl hor
    have hF2 := hF2 (Nat.le_refl _)
    obtain ⟨σ2, hσ2⟩ : ∃ σ2 : Sg, (fun j => if j = m.n then some (⟨w1.heap.size, 0, 0, 0⟩ : Inf) else σ j) = σ2 := ⟨_, rfl⟩
    rw [hσ2] at hM2 hF2
    have hx2 : σ2 m.n = some ⟨w1.heap.size, 0, 0, 0⟩ := by rw [← hσ2]; simp
    obtain ⟨w2, hw2⟩ : ∃ w2, w1.alloc (.loop L) = w2 := ⟨_, rfl⟩
    rw [hw2] at hM2 hF2
    have hb : ¬ fn.body = none := by rw [hbd]; simp
    have hnm : ¬ fn.name = "runtime.NumGoroutine" := by simpa using hname
    refine ⟨w1.heap.size, [{ target := .collected w.heap.size, args := #[] }], w2, { target := .fn (.func f) cap', args := first' ++ #[.func (.yield w1.heap.size) #[] #[]] }, w2, f, (first' ++ #[.func (.yield w1.heap.size) #[] #[]]) ++ cap', w2, ?_, ?_, fun _ _ => trivial, ?_, WF_depth _, callsIn_W ?_⟩
    · show (Instr.enterLoop fn0 a.tmps ps assign body none).run P w = _
      rw [← hw2, ← hw1]
      simp [Instr.enterLoop, L]
    · simp [resolve, hv', Deferred.ofValue]
      rfl
    · simp [invoke, callFunc, hP, hnm, hb]
    · have hargs : VRL σ2 (first.toList ++ [yld m.n] ++ cap.toList) ((first' ++ #[Value.func (.yield w1.heap.size) #[] #[]]) ++ cap').toList := by
        simp only [Array.toList_append]
        have he := hF1.ext.trans hF2.ext
        exact ((hfst.mono he).append (VRL.cons (.yld hx2) (VRL.nil σ2))).append (hcap.mono he)
      refine (hcall.fn f _ _ (bindL_src hne) σ2 w2 _ hargs hM2).mono ?_
      rintro e w3 ⟨q, hq, σ3, v3, rfl, hF3, _, hM3⟩
      obtain ⟨h1, h2⟩ := bindL_ne hne q hq
      unfold endA at h1 h2
      split at h1
      · rename_i t3 N3 ps3 as3 bd3 hi3
        simp only [hi3] at h2
        have hx3 : σ3 m.n = some ⟨w1.heap.size, 0, 0, 0⟩ := hF3.ext _ _ hx2
        obtain ⟨ob, hob, hor3, hlt⟩ := hM3.iter hi3 rfl hx3
        cases ob with
        | loop L3 =>
          obtain ⟨s1, s2, _⟩ := hor3
          have hg3 := run_getObj (P := P) hob
          obtain ⟨hM4, hF4, _, _, _⟩ := hM3.kill hi3 rfl hx3 (.loop { L3 with state := .exhausted })
          show ∃ jump w4, (Instr.endLoop w1.heap.size).run P w3 = .ok jump w4 ∧ _
          refine ⟨none, { w3 with heap := w3.heap.setIfInBounds w1.heap.size (.loop { L3 with state := .exhausted }) }, ?_, ?_⟩
          · have hst : (LoopState.ready == LoopState.busy) = false := rfl
            simp only [Instr.endLoop, Sem.run_bind, run_getLoop (P := P) hob, Result.andThen_ok, s1, hst, Bool.false_eq_true, if_false, run_setObj (P := P) hob (by intro a b c e; cases e), s2]
            rfl
          · refine hQ (.normal, t, _) (h2 _ (List.mem_singleton.2 rfl)) σ3 _ _ (((hF1.trans hF2).trans hF3).trans hF4) ?_ hM4 ?_
            · exact ⟨hT.size, fun i => (hT.val i).mono (((hF1.trans hF2).trans hF3).ext)⟩
            · refine Marks.mono ?_ (hF3.trans hF4)
              have hK2 := hK.mono (hF1.trans hF2)
              refine ⟨hK2.1, ?_, ?_⟩
              · show List.Pairwise _ (_ :: a.defers)
                refine List.pairwise_cons.2 ⟨fun d hd => ?_, hK2.2.1⟩
                obtain ⟨r, rfl, _, hr, _⟩ := hK.2.2 d hd
                have := (Array.getElem?_eq_some_iff.1 hr).1
                intro e
                have e2 : w.heap.size = r := by simpa using e
                omega
              · intro d hd
                rcases List.mem_cons.1 hd with rfl | hd
                · refine ⟨w.heap.size, rfl, hK.1, ?_, fun hl => ?_⟩
                  · rw [← hw2, Below.heap_alloc w1 _ _ (by omega), ← hw1]; exact heap_alloc_last w _
                  · rcases hF2.grow _ hl with h5 | h5
                    · obtain ⟨j, o, z, hj, ho, hz, hb⟩ := h5
                      obtain ⟨z', oz, hz', _, hoz, _⟩ := hM.obj j o hj ho
                      obtain rfl : z' = z := by rw [hz] at hz'; exact (Option.some.inj hz').symm
                      have := (Array.getElem?_eq_some_iff.1 hoz).1
                      omega
                    · omega
                · exact hK2.2.2 d hd
        | _ => exact hor3.elim
      · exact absurd rfl h1
  · exact absurd rfl hne
theorem evCode_wp (hE : EOK E P) (hP : P.follows .mixedOrders = true) {call : CallF} (hcall : CallOK E P w0 call) (rd : Bool) {rr : Option Nat} (hrd : rd = false → rr = none) (N B fuel : Nat) : ∀ c, CodeOK E P w0 N B rr (evCode E call rd N fuel c) c := by
  intro c
  induction c with
  | skip => intro n t m σ a w Q _ hT hM hK hQ; exact wpIn_skip (hQ (.normal, t, m) (List.mem_singleton.2 rfl) σ a w (FG.refl σ m w) hT hM hK)
  | region id ops d =>
    intro n t m σ a w Q hne hT hM hK hQ
    simp only [evCode] at hne hQ
    have h0 := bindL_ne hne
    have h1 := bindL_src hne
    cases d with
    | true => exact evDraw_wp hE hP hcall h1 hT hM (fun r hr σ' a' w' g1 g2 g3 g4 => hQ (.normal, r.1, r.2) ((h0 r hr).2 _ (List.mem_singleton.2 rfl)) σ' a' w' g1 g2 g3 (g4 ▸ hK.mono g1))
    | false =>
      refine wpIn_region ?_
      rw [List.range_eq_range', ← Array.length_toList]
      exact evOps_wp hE hcall ops.toList 0 rfl t m σ a w h1 hT hM (fun r hr σ' a' w' g1 g2 g3 g4 => hQ (.normal, r.1, r.2) ((h0 r hr).2 _ (List.mem_singleton.2 rfl)) σ' a' w' g1 g2 g3 (g4 ▸ hK.mono g1))
  | seq x y ihx ihy =>
    intro n t m σ a w Q hne hT hM hK hQ
    simp only [evCode] at hne hQ
    have h0 := bindL_ne hne
    refine wpIn_seq (ihx n t m σ a w _ (bindL_src hne) hT hM hK ?_)
    rintro ⟨e, t1, m1⟩ hr σ' a' w' hf hT' hM' hd
    obtain ⟨h1, h2⟩ := h0 _ hr
    cases e with
    | normal => exact ihy n t1 m1 σ' a' w' Q h1 hT' hM' hd (fun r hr' σ2 a2 w2 g1 g2 g3 g4 => hQ r (h2 r hr') σ2 a2 w2 (hf.trans g1) g2 g3 g4)
    | exit i => exact hQ (.exit i, t1, m1) (h2 _ (List.mem_singleton.2 rfl)) σ' a' w' hf hT' hM' hd
    | ret => exact hQ (.ret, t1, m1) (h2 _ (List.mem_singleton.2 rfl)) σ' a' w' hf hT' hM' hd
  | cond x y z ihy ihz =>
    intro n t m σ a w Q hne hT hM hK hQ
    have hv := evalT_sound hT x
    simp only [evCode] at hne hQ
    split at hne
    · rename_i hx; rw [hx] at hv hQ
      exact wpIn_cond_true (hv.simple_inv rfl) (ihy n t m σ a w Q hne hT hM hK hQ)
    · rename_i hx; rw [hx] at hv hQ
      exact wpIn_cond_false (hv.simple_inv rfl) (ihz n t m σ a w Q hne hT hM hK hQ)
    · rename_i hx; rw [hx] at hv hQ
      obtain ⟨b, hb⟩ := topB_inv hv
      obtain ⟨h1, h2, h3, h4⟩ := both_ne hne
      cases b with
      | true => exact wpIn_cond_true hb (ihy n t m σ a w Q h1 hT hM hK (fun r hr => hQ r (h3 r hr)))
      | false => exact wpIn_cond_false hb (ihz n t m σ a w Q h2 hT hM hK (fun r hr => hQ r (h4 r hr)))
    · exact absurd rfl hne
  | block id y ih =>
    intro n t m σ a w Q hne hT hM hK hQ
    simp only [evCode] at hne hQ
    have h0 := bindL_ne hne
    refine wpIn_block (ih n t m σ a w _ (bindL_src hne) hT hM hK ?_)
    rintro ⟨e, t1, m1⟩ hr σ' a' w' hf hT' hM' hd
    obtain ⟨h1, h2⟩ := h0 _ hr
    cases e with
    | normal => exact hQ (.normal, t1, m1) (h2 _ (List.mem_singleton.2 rfl)) σ' a' w' hf hT' hM' hd
    | exit i =>
      have := hQ _ (h2 _ (List.mem_singleton.2 rfl)) σ' a' w' hf hT' hM' hd
      simp only [Ex.out, Exit.inBlock]
      by_cases e : i = id
      · rw [if_pos e]
        have hb : Nat.beq id i = true := by subst e; exact Nat.beq_refl _
        simp only [hb, cond] at this
        exact this
      · rw [if_neg e]
        have hb : Nat.beq id i = false := by
          cases h : Nat.beq id i with
          | false => rfl
          | true => exact absurd (Nat.eq_of_beq_eq_true h).symm e
        simp only [hb, cond] at this
        exact this
    | ret => exact hQ (.ret, t1, m1) (h2 _ (List.mem_singleton.2 rfl)) σ' a' w' hf hT' hM' hd
  | loop y ih =>
    intro n t m σ a w Q hne hT hM hK hQ
    simp only [evCode] at hne hQ
    exact (evLoop_from ih n fuel t m σ a w Q hne hT hM hK hQ).wp
  | exit id => intro n t m σ a w Q _ hT hM hK hQ; exact wpIn_exit (hQ (.exit id, t, m) (List.mem_singleton.2 rfl) σ a w (FG.refl σ m w) hT hM hK)
  | ret => intro n t m σ a w Q _ hT hM hK hQ; exact wpIn_ret (hQ (.ret, t, m) (List.mem_singleton.2 rfl) σ a w (FG.refl σ m w) hT hM hK)
  | rangeFunc g ps as bd _ _ =>
    intro n t m σ a w Q hne hT hM hK hQ
    simp only [evCode] at hne hQ
    split at hne
    · obtain rfl := hrd rfl
      exact evRange_wp hE hcall hne hT hM hK hQ
    · exact absurd rfl hne
  | _ => intro n t m σ a w Q hne; exact absurd rfl hne
/-! ### results -/
theorem resultsA_sound (hE : EOK E P) {N : Nat} {t : T Value} {m : Mem} {σ : Sg} {a : Act} {w : World} (hT : TR σ N t a) (hM : MR E w0 σ m w) : ∀ l vs, resultsA E t m l = some vs →
    ∃ vs', (l.mapM (fun | .tmp t => pure (a.tmps.getD t undef) | .cell x t => do loadVar t (← asAddr (a.tmps.getD x undef)) : ResultVar → Sem Value)).run P w = .ok vs' w ∧ VRL σ vs vs' := by
  intro l
  induction l with
  | nil => intro vs h; simp only [resultsA] at h; cases h; exact ⟨[], rfl, VRL.nil σ⟩
  | cons r l ih =>
    intro vs h
    cases r with
    | tmp i =>
      simp only [resultsA] at h
      split at h
      · rename_i v rs hv hrs
        cases h
        obtain ⟨vs', h1, h2⟩ := ih _ hrs
        have := hT.val i
        simp only [tv, hv] at this
        refine ⟨a.tmps.getD i undef :: vs', ?_, VRL.cons this h2⟩
        simp only [List.mapM_cons, Sem.run_bind, Sem.run_pure, Result.andThen_ok, h1]
      · cases h
    | cell x ty =>
      simp only [resultsA] at h
      split at h
      · rename_i p hp
        split at h
        · rename_i v rs hv hrs
          cases h
          obtain ⟨vs', h1, h2⟩ := ih _ hrs
          have hx := hT.val x
          simp only [tv, hp] at hx
          obtain ⟨v', g1, g2⟩ := loadAt_sound hE hM hv hx
          refine ⟨v' :: vs', ?_, VRL.cons g2 h2⟩
          simp only [List.mapM_cons]
          generalize a.tmps.getD x undef = p' at hx g1 ⊢
          cases hx with
          | ptr hσ =>
            simp only [Instr.loadAt, Instr.sureAddr, Sem.run_bind, Sem.run_pure, Result.andThen_ok] at g1
            have hA : ∀ q, asAddr (.pointer (some q)) = pure q := fun _ => rfl
            simp only [hA, Sem.run_bind, Sem.run_pure, Result.andThen_ok, g1, h1]
          | refl h => simp [simple] at h
        · cases h
      · cases h
theorem tupled_sound {σ : Sg} {l l' : List Value} (h : VRL σ l l') : VR σ (tupled l) (tupled l') := by
  have key : ∀ {l l' : List Value}, VRL σ l l' → VR σ (.tuple l.toArray) (.tuple l'.toArray) := fun h => .tuple_of (by simpa using h)
  match l, l', h with
  | [], [], h => exact key h
  | [x], [y], h => exact h.head
  | x :: x2 :: l, y :: y2 :: l', h => exact key h
  | [], _ :: _, h => exact absurd h.1 (by simp)
  | _ :: _, [], h => exact absurd h.1 (by simp)
  | [_], _ :: _ :: _, h => exact absurd h.1 (by simp)
  | _ :: _ :: _, [_], h => exact absurd h.1 (by simp)
theorem results_sound (hE : EOK E P) {N : Nat} {t : T Value} {m : Mem} {σ : Sg} {a : Act} {w : World} (hT : TR σ N t a) (hM : MR E w0 σ m w) {fn : Func} {vs : List Value} (h : resultsA E t m fn.results.toList = some vs) :
    ∃ v', (results fn a.tmps).run P w = .ok v' w ∧ VR σ (tupled vs) v' := by
  obtain ⟨vs', h1, h2⟩ := resultsA_sound hE hT hM _ _ h
  refine ⟨tupled vs', ?_, tupled_sound h2⟩
  unfold results
  rw [Array.mapM_eq_mapM_toList]
  simp only [Sem.run_bind, Sem.run_map]
  erw [h1]
  simp only [Result.andThen_ok, Sem.run_pure]
  match vs' with
  | [] => rfl
  | [_] => rfl
  | _ :: _ :: _ => rfl
/-- what is asked of what is known of functions -/
def SOK (E : Env) (P : Program) (w0 : World) (S : Sums) : Prop :=
  ∀ f args m l, S f args m = some l → l ≠ [] → ∀ (σ : Sg) (w : World) (args' : Array Value), VRL σ args args'.toList → MR E w0 σ m w → Calls P f args' w (After E w0 σ m w l)
/-- the temporaries at a function's entry -/
theorem TR.enter {σ : Sg} {N : Nat} {args : List Value} {args' : Array Value} (hargs : VRL σ args args'.toList) (hle : args.length ≤ N) : TR σ N (T.ofList args) { tmps := args' ++ Array.replicate (N - args'.size) undef, defers := [] } := by
  refine ⟨?_, ?_⟩
  · have := hargs.1
    simp at this ⊢
    omega
  · intro i
    simp only [tv, T.get_ofList]
    have hl := hargs.1
    have hl' : args.length = args'.size := by simpa using hl
    rcases Nat.lt_or_ge i args.length with h | h
    · have hv := hargs.2 i h
      simp only [List.getElem?_eq_getElem h]
      have e1 : args.getD i und = args[i] := by simp [List.getD, List.getElem?_eq_getElem h]
      have h' : i < args'.size := by omega
      have e2 : (args' ++ Array.replicate (N - args'.size) undef).getD i undef = args'.toList.getD i und := by
        have h3 : (args' ++ Array.replicate (N - args'.size) undef)[i]? = args'[i]? := Array.getElem?_append_left h'
        simp only [Array.getD_eq_getD_getElem?, h3]
        simp [h']
      rw [e2, ← e1]; exact hv
    · rw [List.getElem?_eq_none h]
      have e2 : (args' ++ Array.replicate (N - args'.size) undef).getD i undef = undef := by
        simp only [Array.getD_eq_getD_getElem?]
        rw [Array.getElem?_append_right (by omega), Array.getElem?_replicate]
        split <;> rfl
      rw [e2]; exact VR.undef σ
/-- a frame leaves: its marks are taken in -/
theorem leaves_marks {F : Fence} {n : Nat} {fn : Func} {tmps : Array Value} {R : Ending → World → Prop} {B : Nat} {σ : Sg} {m : Mem} : ∀ (ds : List Deferred) (w : World), MR E w0 σ m w → Marks B σ m w ds → w0.heap.size ≤ B →
    (∀ w', MR E w0 σ m w' → w.heap.size = w'.heap.size → (∀ b, b < w.heap.size → (B ≤ b → LiveB σ m b) → w'.heap[b]? = w.heap[b]?) → LeavesInM F n P fn tmps R [] .returning w') → LeavesInM F n P fn tmps R ds .returning w := by
  intro ds
  induction ds with
  | nil => intro w hM _ _ h; exact h w hM rfl (fun _ _ _ => rfl)
  | cons d ds ih =>
    intro w hM hK hB h
    obtain ⟨r, rfl, h1, h2, h3⟩ := hK.2.2 d (List.mem_cons_self ..)
    obtain ⟨hp1, hp2⟩ := List.pairwise_cons.1 hK.2.1
    have hlt : r < w.heap.size := (Array.getElem?_eq_some_iff.1 h2).1
    have hoth : ∀ k, k ≠ r → (w.heap.setIfInBounds r (.deferred none))[k]? = w.heap[k]? := fun k hk => by simp [Ne.symm hk]
    have hM' : MR E w0 σ m { w with heap := w.heap.setIfInBounds r (.deferred none) } := hM.offstage (Nat.le_trans hB h1) h3 (by simp) hoth rfl rfl rfl
    refine ⟨by simp, .inl ⟨r, { w with heap := w.heap.setIfInBounds r (.deferred none) }, rfl, ?_, ?_⟩⟩
    · simp only [Instr.takeDeferred, Sem.run_bind, run_getObj (P := P) h2, Result.andThen_ok, run_setObj (P := P) h2 (by intro a b c e; cases e)]
      rfl
    · refine ih _ hM' ⟨by simpa using hK.1, hp2, fun d hd => ?_⟩ hB ?_
      · obtain ⟨r', rfl, g1, g2, g3⟩ := hK.2.2 d (List.mem_cons_of_mem _ hd)
        have hne : r' ≠ r := fun e => hp1 _ hd (by rw [e])
        exact ⟨r', rfl, g1, (hoth r' hne).trans g2, g3⟩
      · intro w' g1 g2 g3
        refine h w' g1 (by simpa using g2) (fun b hb hl => ?_)
        have hbr : b ≠ r := fun e => h3 (by have := hl (by omega); rwa [e] at this)
        rw [g3 b (by simpa using hb) hl]
        exact hoth b hbr
theorem evFn_ok (hE : EOK E P) (hP : P.follows .mixedOrders = true) {call : CallF} (hcall : CallOK E P w0 call) {fuel : Nat} {f : FuncId} {args : List Value} {m : Mem} (hne : evFn E call fuel f args m ≠ []) {σ : Sg} {w : World} {args' : Array Value} (hargs : VRL σ args args'.toList) (hM : MR E w0 σ m w) :
    Calls P f args' w (After E w0 σ m w (evFn E call fuel f args m)) := by
  generalize hL : evFn E call fuel f args m = L at hne ⊢
  unfold evFn at hL
  split at hL
  · exact absurd hL.symm hne
  · rename_i fn hfn
    obtain ⟨hf, _, _⟩ := hE.funcs f fn hfn
    split at hL
    · exact absurd hL.symm hne
    · rename_i c hb
      split at hL
      · exact absurd hL.symm hne
      · rename_i hle
        have hle' : args.length ≤ fn.ntmps := Nat.le_of_ble_eq_true hle
        subst hL
        have h0 := bindL_ne hne
        refine calls_of_W (r := none) (n := 0) (callsIn_of_wp_marks hf hb trivial (evCode_wp hE hP hcall false (fun _ => rfl) fn.ntmps w.heap.size fuel c 0 _ m σ _ w _ (bindL_src hne) (TR.enter hargs hle') hM (Marks.nil (Nat.le_refl _)) ?_))
        rintro ⟨e, t1, m1⟩ hr σ' a' w' hf' hT' hM' hd
        obtain ⟨h1, h2⟩ := h0 _ hr
        have out : ∀ vs, resultsA E t1 m1 fn.results.toList = some vs → (tupled vs, m1) ∈ bindL (evCode E call false fn.ntmps fuel c (T.ofList args) m) (fun
            | (.exit _, _, _) => []
            | (_, t, m) => match resultsA E t m fn.results.toList with
              | some l => [(tupled l, m)]
              | none => []) → LeavesInM (WF none) 0 P fn a'.tmps (After E w0 σ m w (bindL (evCode E call false fn.ntmps fuel c (T.ofList args) m) (fun
            | (.exit _, _, _) => []
            | (_, t, m) => match resultsA E t m fn.results.toList with
              | some l => [(tupled l, m)]
              | none => []))) a'.defers .returning w' := by
          intro vs hvs hmem
          refine leaves_marks a'.defers w' hM' hd hM.below.size (fun w'' g1 g2 g3 => ?_)
          obtain ⟨v', k1, k2⟩ := results_sound hE hT' g1 hvs
          refine ⟨v', k1, (tupled vs, m1), hmem, σ', v', rfl, ⟨hf'.ext, by have := hf'.size; omega, fun b hb hl => ?_, hf'.grow, hf'.n, hf'.old⟩, k2, g1⟩
          rw [g3 b (by have := hf'.size; omega) (fun hB => by omega)]
          exact hf'.frame b hb hl
        cases e with
        | exit i => exact absurd rfl h1
        | normal =>
          simp only at h1 h2
          split at h1
          · rename_i vs hvs
            simp only [hvs] at h2
            exact out vs hvs (h2 _ (List.mem_singleton.2 rfl))
          · exact absurd rfl h1
        | ret =>
          simp only at h1 h2
          split at h1
          · rename_i vs hvs
            simp only [hvs] at h2
            exact out vs hvs (h2 _ (List.mem_singleton.2 rfl))
          · exact absurd rfl h1
theorem setTs_TR {σ : Sg} {N : Nat} : ∀ {ps : List Tmp} {args args' : List Value} {t : T Value} {tmps : Array Value}, VRL σ args args' → TR σ N t { tmps := tmps, defers := [] } →
    TR σ N (setTs N t ps args) { tmps := (ps.zip args').foldl (fun tmps (t, a) => tmps.setIfInBounds t a) tmps, defers := [] } := by
  intro ps
  induction ps with
  | nil => intro args args' t tmps _ h; exact h
  | cons p ps ih =>
    intro args args' t tmps hv h
    cases args with
    | nil =>
      obtain rfl : args' = [] := List.eq_nil_of_length_eq_zero hv.1.symm
      exact h
    | cons v args =>
      cases args' with
      | nil => exact absurd hv.1 (by simp)
      | cons v' args' =>
        simp only [setTs, List.zip_cons_cons, List.foldl_cons]
        exact ih hv.tail (h.put (some p) hv.head)
set_option maxHeartbeats 1000000 in
theorem evYield_ok (hE : EOK E P) (hP : P.follows .mixedOrders = true) {call : CallF} (hcall : CallOK E P w0 call) {fuel i : Nat} {args : List Value} {m : Mem} (hne : evYield E call fuel i args m ≠ []) {σ : Sg} {w : World} {args' : Array Value} {x : Inf} (hx : σ i = some x) (hargs : VRL σ args args'.toList) (hM : MR E w0 σ m w) :
    ∃ f tmps as body, (Instr.yield x.b args').run P w = .ok (.round x.b f tmps as body) w ∧ ∀ r n, RoundIn (WF r) n P x.b f tmps as body w (After E w0 σ m w (evYield E call fuel i args m)) := by
  generalize hL : evYield E call fuel i args m = R at hne ⊢
  unfold evYield at hL
  split at hL
  · rename_i t N ps assign body hi
    split at hL
    · rename_i hlen
      have hlen' : args.length = ps.size := Nat.eq_of_beq_eq_true hlen
      subst hL
      obtain ⟨ob, hob, hor, hlt⟩ := hM.iter hi rfl hx
      cases ob with
      | loop L =>
        obtain ⟨s1, s2, rfl, rfl, rfl, s6, s7⟩ := hor
        have hg := run_getObj (P := P) hob
        have hsz : args'.size = L.params.size := by have := hargs.1; simp at this; omega
        refine ⟨L.fn, (L.params.zip args').foldl (fun tmps (t, a) => tmps.setIfInBounds t a) L.tmps, L.assign, L.body, ?_, fun r n => roundIn_of_wpIn trivial ?_⟩
        · simp only [Instr.yield, Sem.run_bind, run_getLoop (P := P) hob, Result.andThen_ok, hsz, ne_eq, not_true_eq_false, if_false]
          rfl
        · rw [WF_round]
          have h0 := bindL_ne hne
          have hT0 : TR σ N (setTs N t L.params.toList args) { tmps := (L.params.zip args').foldl (fun tmps (t, a) => tmps.setIfInBounds t a) L.tmps, defers := [] } := by
            have := setTs_TR (ps := L.params.toList) (N := N) hargs (t := t) (tmps := L.tmps) ⟨s6, s7⟩
            rw [← Array.foldl_toList, Array.toList_zip]
            exact this
          refine evCode_wp hE hP hcall true (rr := some x.b) (fun e => by cases e) N 0 fuel L.assign n _ m σ _ w _ (bindL_src hne) hT0 hM (Marks.nil (Nat.zero_le _)) ?_
          rintro ⟨e1, t1, m1⟩ hr1 σ1 a1 w1 hf1 hT1 hM1 hK1
          obtain ⟨h1, h2⟩ := h0 _ hr1
          unfold roundMid at h1 h2
          cases e1 with
          | exit _ => exact absurd rfl h1
          | ret => exact absurd rfl h1
          | normal =>
            simp only at h1 h2
            split at h1
            · rename_i t2 N2 ps2 as2 body2 hi1
              simp only [hi1] at h2
              have hx1 : σ1 i = some x := hf1.ext _ _ hx
              obtain ⟨ob1, hob1, hor1, hlt1⟩ := hM1.iter hi1 rfl hx1
              cases ob1 with
              | loop L1 =>
                have hor1' := hor1
                obtain ⟨q1, q2, q3, q4, q5, q6, q7⟩ := hor1
                have hg1 := run_getObj (P := P) hob1
                obtain ⟨hM2, hF2, hnl, hB, _⟩ := hM1.kill hi1 rfl hx1 (.loop { L1 with state := .busy })
                obtain ⟨w2, hw2⟩ : ∃ w2 : World, { w1 with heap := w1.heap.setIfInBounds x.b (.loop { L1 with state := .busy }) } = w2 := ⟨_, rfl⟩
                have hw2s : w2.heap.size = w1.heap.size := by rw [← hw2]; simp
                have hob2 : w2.heap[x.b]? = some (.loop { L1 with state := .busy }) := by rw [← hw2]; simp [hlt1]
                refine ⟨w2, ?_, ?_⟩
                · simp only [Instr.beginRound, Sem.run_bind, run_getLoop (P := P) hob1, Result.andThen_ok, run_setObj (P := P) hob1 (by intro a b c e; cases e), q1, hw2]
                  rfl
                · rw [hw2] at hM2 hF2
                  have h3 := bindL_ne h1
                  refine evCode_wp hE hP hcall true (rr := some x.b) (fun e => by cases e) N 0 fuel L.body n _ _ σ1 _ w2 _ (bindL_src h1) hT1 hM2 (hK1.mono hF2) ?_
                  rintro ⟨e2, t3, m2⟩ hr2 σ2 a2 w3 hf2 hT2 hM3 _
                  obtain ⟨h4, h5⟩ := h3 _ hr2
                  unfold roundEnd at h4 h5
                  cases e2 with
                  | exit _ => exact absurd rfl h4
                  | ret => exact absurd rfl h4
                  | normal =>
                    simp only at h5
                    have hx2 : σ2 i = some x := hf2.ext _ _ hx1
                    have hob3 : w3.heap[x.b]? = some (.loop { L1 with state := .busy }) := (hf2.frame x.b (by omega) hnl).trans hob2
                    have hlt3 : x.b < w3.heap.size := (Array.getElem?_eq_some_iff.1 hob3).1
                    have hnl3 : ¬ LiveB σ2 m2 x.b := fun hl => by
                      rcases hf2.grow _ hl with h6 | h6
                      · exact hnl h6
                      · omega
                    obtain ⟨w4, hw4⟩ : ∃ w4 : World, { w3 with heap := w3.heap.setIfInBounds x.b (.loop { L1 with state := .ready, pending := none }) } = w4 := ⟨_, rfl⟩
                    have hoth : ∀ k, k ≠ x.b → w4.heap[k]? = w3.heap[k]? := fun k hk => by rw [← hw4]; simp [Ne.symm hk]
                    have hw4s : w4.heap.size = w3.heap.size := by rw [← hw4]; simp
                    refine ⟨.bool true, w4, ?_, ?_⟩
                    · simp only [Instr.endRound, Sem.run_bind, run_getLoop (P := P) hob3, Result.andThen_ok, run_setObj (P := P) hob3 (by intro a b c e; cases e)]
                      rw [← hw4]
                      rfl
                    · have hM4 : MR E w0 σ2 m2 w4 := hM3.offstage hB hnl3 hw4s hoth (by rw [← hw4]) (by rw [← hw4]) (by rw [← hw4])
                      have hor4 : OR E σ2 x (.loop t2 N2 ps2 as2 body2) (.loop { L1 with state := .ready, pending := none }) := ⟨rfl, rfl, q3, q4, q5, q6, fun j => (q7 j).mono hf2.ext⟩
                      have hM5 := hM4.putBack hx2 hB hnl3 (ob := .loop { L1 with state := .ready, pending := none }) (by rw [← hw4]; simp [hlt3]) hor4
                      refine ⟨(.bool true, _), h2 _ (h5 _ (List.mem_singleton.2 rfl)), σ2, .bool true, rfl, ?_, .refl rfl, hM5⟩
                      have hlive : LiveB σ1 m1 x.b := ⟨i, _, x, hi1, rfl, hx1, rfl⟩
                      refine hf1.trans ⟨(hF2.trans hf2).ext, by have := hf2.size; omega, fun b hb hl => ?_, fun b hl => ?_, (hF2.trans hf2).n, (hF2.trans hf2).old⟩
                      · have hbx : b ≠ x.b := fun e => hl (by rw [e]; exact hlive)
                        rw [hoth b hbx]
                        exact (hF2.trans hf2).frame b hb hl
                      · obtain ⟨j, o, z, hj, ho, hz, hb⟩ := hl
                        by_cases e : i = j
                        · subst e
                          obtain rfl : z = x := by rw [hx2] at hz; exact (Option.some.inj hz).symm
                          exact .inl (by rw [← hb]; exact hlive)
                        · rw [T.get_set_ne _ _ e] at hj
                          exact (hF2.trans hf2).grow b ⟨j, o, z, hj, ho, hz, hb⟩
              | _ => exact hor1.elim
            · exact absurd rfl h1
      | _ => exact hor.elim
    · exact absurd hL.symm hne
  · exact absurd hL.symm hne
theorem evCall_ok (hE : EOK E P) (hP : P.follows .mixedOrders = true) {S : Sums} (hS : SOK E P w0 S) (fuel : Nat) : ∀ d, CallOK E P w0 (evCall E S fuel d) := by
  intro d
  induction d with
  | zero => exact ⟨fun f args m hne => absurd rfl hne, fun i args m hne => absurd rfl hne⟩
  | succ d ih =>
    refine ⟨fun f args m hne σ w args' hargs hM => ?_, fun i args m hne σ w args' x hx hargs hM => evYield_ok hE hP ih hne hx hargs hM⟩
    cases hs : S f args m with
    | some l =>
      have he : evCall E S fuel (d + 1) (.fn f) args m = l := by simp only [evCall, hs]
      rw [he] at hne ⊢
      exact hS f args m l hs hne σ w args' hargs hM
    | none =>
      have he : evCall E S fuel (d + 1) (.fn f) args m = evFn E (evCall E S fuel d) fuel f args m := by simp only [evCall, hs]
      rw [he] at hne ⊢
      exact evFn_ok hE hP ih hne hargs hM
end Go.AS

/- The evaluator's environment, made of a program. -/
namespace Go.AS
noncomputable section
def mkTI (P : Program) (t : TypeId) : Option TI :=
  match P.info? t, P.underlying t with
  | some i, some d => match i.zero with
    | some z => match Nat.beq z.cells.toList.length i.size, allSimple z.cells.toList, (match z with | .agg _ => agg? d | _ => !agg? d) with
      | true, true, true => some ⟨d, i.size, i.bytes, z.cells.toList⟩
      | _, _, _ => none
    | none => none
  | _, _ => none
def fillT {α : Type} (f : Nat → Option α) : Nat → Nat → T α → T α
  | 0, _, t => t
  | n + 1, i, t => match f i with
    | some x => fillT f n (i + 1) (t.set i x)
    | none => fillT f n (i + 1) t
def mkFn (P : Program) (f : FuncId) : Option Func :=
  match P.funcs[f]? with
  | some fn => match fn.body, fn.name == "runtime.NumGoroutine" with
    | some _, false => some fn
    | _, _ => none
  | none => none
def atomicName (n : String) : String := "sync" ++ String.singleton (Char.ofNat 47) ++ "atomic." ++ n
def raceName (n : String) : String := "internal" ++ String.singleton (Char.ofNat 47) ++ "race." ++ n
def cmpName : String := "internal" ++ String.singleton (Char.ofNat 47) ++ "bytealg.abigen_runtime_cmpstring"
def extNamed (n : String) : Option Xtn :=
  if n = atomicName "AddInt64" then some (.add .i64)
  else if n = atomicName "AddUint64" then some (.add .u64)
  else if n = atomicName "AddInt32" then some (.add .i32)
  else if n = atomicName "LoadUint64" then some (.load .u64)
  else if n = atomicName "LoadInt64" then some (.load .i64)
  else if n = atomicName "LoadUint32" then some (.load .u32)
  else if n = atomicName "StoreUint32" then some .store
  else if n = atomicName "CompareAndSwapUint64" then some (.cas .u64)
  else if n = atomicName "CompareAndSwapInt64" then some (.cas .i64)
  else if n = atomicName "CompareAndSwapInt32" then some (.cas .i32)
  else if n = cmpName then some .cmps
  else if n = raceName "Disable" then some (.nop .disable)
  else if n = raceName "Enable" then some (.nop .enable)
  else if n = raceName "Acquire" then some (.markd .acquire)
  else if n = raceName "ReleaseMerge" then some (.markd .releaseMerge)
  else none
def mkExt (P : Program) (f : FuncId) : Option Xtn :=
  match P.funcs[f]? with
  | some fn => match fn.body, (Extern.findNext fn).isNone, fn.name == "runtime.NumGoroutine" with
    | none, true, false => extNamed fn.name
    | _, _, _ => none
  | none => none
def mkEnv (P : Program) : Env := ⟨P, fillT (mkTI P) P.types.size 0 .nil, fillT (mkFn P) P.funcs.size 0 .nil, fillT (mkExt P) P.funcs.size 0 .nil, [], fun _ => True⟩
end
end Go.AS

/- The environment made of a program is a true one; what an evaluation says of every world. -/
namespace Go.AS
open Go.RowKit
variable [Rho]
theorem fillT_inv {α : Type} (f : Nat → Option α) : ∀ n i t, (∀ j x, t.get j = some x → f j = some x) → ∀ j x, (fillT f n i t).get j = some x → f j = some x := by
  intro n
  induction n with
  | zero => intro i t h j x hj; exact h j x hj
  | succ n ih =>
    intro i t h j x hj
    simp only [fillT] at hj
    split at hj
    · rename_i y hy
      refine ih (i + 1) (t.set i y) (fun k z hk => ?_) j x hj
      rw [T.get_set] at hk
      split at hk
      · rename_i e; subst e; cases hk; exact hy
      · exact h k z hk
    · exact ih (i + 1) t h j x hj
theorem find_of {fn : Func} {n : String} {e : Array Value → Sem Value} (hn : fn.name = n) (h1 : Extern.allGenericRows.lookup n = none) (h2 : Extern.allTypedRows.lookup n = none) (h3 : Extern.allRows.lookup n = some e) : Extern.find fn = some e := by
  unfold Extern.find
  simp only [hn, h1, h2, h3]
  rfl
theorem extNamed_find {fn : Func} {x : Xtn} (h : extNamed fn.name = some x) : Extern.find fn = some x.impl := by
  unfold extNamed at h
  by_cases e : fn.name = atomicName "AddInt64"
  · rw [if_pos e] at h; cases h; exact find_of e (by kernel_rfl) (by kernel_rfl) (by kernel_rfl)
  rw [if_neg e] at h; clear e
  by_cases e : fn.name = atomicName "AddUint64"
  · rw [if_pos e] at h; cases h; exact find_of e (by kernel_rfl) (by kernel_rfl) (by kernel_rfl)
  rw [if_neg e] at h; clear e
  by_cases e : fn.name = atomicName "AddInt32"
  · rw [if_pos e] at h; cases h; exact find_of e (by kernel_rfl) (by kernel_rfl) (by kernel_rfl)
  rw [if_neg e] at h; clear e
  by_cases e : fn.name = atomicName "LoadUint64"
  · rw [if_pos e] at h; cases h; exact find_of e (by kernel_rfl) (by kernel_rfl) (by kernel_rfl)
  rw [if_neg e] at h; clear e
  by_cases e : fn.name = atomicName "LoadInt64"
  · rw [if_pos e] at h; cases h; exact find_of e (by kernel_rfl) (by kernel_rfl) (by kernel_rfl)
  rw [if_neg e] at h; clear e
  by_cases e : fn.name = atomicName "LoadUint32"
  · rw [if_pos e] at h; cases h; exact find_of e (by kernel_rfl) (by kernel_rfl) (by kernel_rfl)
  rw [if_neg e] at h; clear e
  by_cases e : fn.name = atomicName "StoreUint32"
  · rw [if_pos e] at h; cases h; exact find_of e (by kernel_rfl) (by kernel_rfl) (by kernel_rfl)
  rw [if_neg e] at h; clear e
  by_cases e : fn.name = atomicName "CompareAndSwapUint64"
  · rw [if_pos e] at h; cases h; exact find_of e (by kernel_rfl) (by kernel_rfl) (by kernel_rfl)
  rw [if_neg e] at h; clear e
  by_cases e : fn.name = atomicName "CompareAndSwapInt64"
  · rw [if_pos e] at h; cases h; exact find_of e (by kernel_rfl) (by kernel_rfl) (by kernel_rfl)
  rw [if_neg e] at h; clear e
  by_cases e : fn.name = atomicName "CompareAndSwapInt32"
  · rw [if_pos e] at h; cases h; exact find_of e (by kernel_rfl) (by kernel_rfl) (by kernel_rfl)
  rw [if_neg e] at h; clear e
  by_cases e : fn.name = cmpName
  · rw [if_pos e] at h; cases h; exact find_of e (by kernel_rfl) (by kernel_rfl) (by kernel_rfl)
  rw [if_neg e] at h; clear e
  by_cases e : fn.name = raceName "Disable"
  · rw [if_pos e] at h; cases h; exact find_of e (by kernel_rfl) (by kernel_rfl) (by kernel_rfl)
  rw [if_neg e] at h; clear e
  by_cases e : fn.name = raceName "Enable"
  · rw [if_pos e] at h; cases h; exact find_of e (by kernel_rfl) (by kernel_rfl) (by kernel_rfl)
  rw [if_neg e] at h; clear e
  by_cases e : fn.name = raceName "Acquire"
  · rw [if_pos e] at h; cases h; exact find_of e (by kernel_rfl) (by kernel_rfl) (by kernel_rfl)
  rw [if_neg e] at h; clear e
  by_cases e : fn.name = raceName "ReleaseMerge"
  · rw [if_pos e] at h; cases h; exact find_of e (by kernel_rfl) (by kernel_rfl) (by kernel_rfl)
  rw [if_neg e] at h; clear e
  cases h
theorem mkEnv_ok (P : Program) : EOK (mkEnv P) P where
  prog := rfl
  rules := fun r hr => by cases hr
  types := fun t ti h => by
    have h1 : mkTI P t = some ti := fillT_inv (mkTI P) _ _ _ (fun j x hj => by rw [T.get_nil] at hj; cases hj) t ti h
    unfold mkTI at h1
    split at h1
    · rename_i i d hi hd
      split at h1
      · rename_i z hz
        split at h1
        · rename_i a1 a2 a3
          cases h1
          have e1 := Nat.eq_of_beq_eq_true a1
          refine ⟨hd, i, z, hi, rfl, rfl, hz, rfl, e1, allSimple_spec a2, fun hg => ?_, fun hg => ?_⟩
          · simp only at hg
            cases z with
            | agg vs => simp only at a3; rw [a3] at hg; cases hg
            | _ => simp only [Value.cells]
          · simp only at hg
            cases z with
            | agg vs => simp [Value.cells]
            | _ => simp only at a3; rw [hg] at a3; cases a3
        · cases h1
      · cases h1
    · cases h1
  funcs := fun f fn h => by
    have h1 : mkFn P f = some fn := fillT_inv (mkFn P) _ _ _ (fun j x hj => by rw [T.get_nil] at hj; cases hj) f fn h
    unfold mkFn at h1
    split at h1
    · rename_i fn' hf
      split at h1
      · rename_i c hc hn
        cases h1
        exact ⟨hf, hn, c, hc⟩
      · cases h1
    · cases h1
  exts := fun f x h => by
    have h1 : mkExt P f = some x := fillT_inv (mkExt P) _ _ _ (fun j y hj => by rw [T.get_nil] at hj; cases hj) f x h
    unfold mkExt at h1
    split at h1
    · rename_i fn hf
      split at h1
      · rename_i hb hx hn
        exact ⟨fn, hf, hn, hb, by simpa using hx, extNamed_find h1⟩
      · cases h1
    · cases h1
def allTrue : List (Value × Mem) → Bool
  | [] => true
  | (.bool true, _) :: l => allTrue l
  | _ :: _ => false
theorem allTrue_spec : ∀ {l}, allTrue l = true → ∀ r ∈ l, r.1 = .bool true := by
  intro l
  induction l with
  | nil => intro _ r hr; cases hr
  | cons x l ih =>
    intro h r hr
    unfold allTrue at h
    split at h
    · rename_i e
      cases e
    · rename_i e
      cases e
      cases hr with
      | head => rfl
      | tail _ hm => exact ih h r hm
    · cases h
def isTrue (l : List (Value × Mem)) : Bool :=
  match l with
  | [] => false
  | x :: l => allTrue (x :: l)
def noSums : Sums := fun _ _ _ => none
theorem noSums_ok (E : Env) (P : Program) (w0 : World) : SOK E P w0 noSums := fun _ _ _ _ h => by cases h
theorem MR.start (E : Env) (w : World) (hT : E.Tw w) : MR E w (fun _ => none) ⟨0, .nil⟩ w :=
  { below := Below.refl _ w
    t0 := hT
    obj := fun i o hg => by simp only [T.get_nil] at hg; cases hg
    inj := fun i j o p x y hi => by simp only [T.get_nil] at hi; cases hi
    fresh := fun i _ => rfl }
/-- what an evaluation from nothing says of every world -/
theorem ae_true_with {P : Program} (hP : P.follows .mixedOrders = true) {S : Sums} {fuel d : Nat} {f : FuncId} {args : List Value} {args' : Array Value} (hargs : VRL (fun _ => none) args args'.toList) (h : isTrue (evCall (mkEnv P) S fuel d (.fn f) args ⟨0, .nil⟩) = true) (w : World) (hS : SOK (mkEnv P) P w S) :
    Calls P f args' w fun e w' => e = .returned (.bool true) ∧ Below w.heap.size w w' := by
  have hne : evCall (mkEnv P) S fuel d (.fn f) args ⟨0, .nil⟩ ≠ [] := fun e => by rw [e] at h; cases h
  refine ((evCall_ok (w0 := w) (mkEnv_ok P) hP hS fuel d).fn f args ⟨0, .nil⟩ hne _ w args' hargs (MR.start _ w trivial)).mono ?_
  rintro e w' ⟨r, hr, σ', v', rfl, hf, hv, hm⟩
  have ht : r.1 = .bool true := by
    cases hl : evCall (mkEnv P) S fuel d (.fn f) args ⟨0, .nil⟩ with
    | nil => exact absurd hl hne
    | cons x l => rw [hl] at h hr; exact allTrue_spec h r hr
  rw [ht] at hv
  exact ⟨congrArg _ (hv.simple_inv rfl), hm.below⟩
theorem ae_true {P : Program} (hP : P.follows .mixedOrders = true) {fuel d : Nat} {f : FuncId} {args : List Value} {args' : Array Value} (hargs : VRL (fun _ => none) args args'.toList) (h : isTrue (evCall (mkEnv P) noSums fuel d (.fn f) args ⟨0, .nil⟩) = true) (w : World) :
    Calls P f args' w fun e w' => e = .returned (.bool true) ∧ Below w.heap.size w w' := ae_true_with hP hargs h w (noSums_ok _ _ _)
end Go.AS

/- How the evaluator is used with values known by number: rules, pure calls, what lies in the heap before and behind. -/
namespace Go.AS
open Go.RowKit
variable [Rho]
/-! ### what a value stands for -/
def conc : Value → Value
  | .complex .f32 30 i => Rho.D i
  | v => v
def okC : Value → Prop
  | .complex .f32 30 i => (Rho.D i).oneCell' = true
  | v => simple v = true
theorem VR.conc {σ : Sg} {a v : Value} (h : VR σ a v) (ha : okC a) : v = AS.conc a := by
  cases h with
  | sym h => rfl
  | refl hs => cases a <;> first | rfl | (simp [simple] at hs; done)
  | topB b => simp [okC, simple, AS.topB] at ha
  | topI k n => simp [okC, simple, AS.topI] at ha
  | topS a n c => simp [okC, simple, AS.topS] at ha
  | topStr s => simp [okC, simple, AS.topStr] at ha
  | topE a c => simp [okC, simple, AS.topE] at ha
  | yld h => simp [okC, simple, AS.yld] at ha
  | any v' => simp [okC, simple, bad] at ha
  | _ => simp [okC, simple] at ha
theorem VR.of_conc {σ : Sg} {a : Value} (ha : okC a) : VR σ a (AS.conc a) := by
  unfold okC at ha
  split at ha
  · exact .sym ha
  · rename_i h
    have : AS.conc a = a := by unfold AS.conc; split <;> first | rfl | (rename_i i; exact absurd rfl (h i))
    rw [this]
    exact .refl ha
theorem VRL.conc {σ : Sg} : ∀ {l l' : List Value}, VRL σ l l' → (∀ a ∈ l, okC a) → l' = l.map AS.conc
  | [], l', h, _ => List.eq_nil_of_length_eq_zero h.1.symm
  | a :: l, [], h, _ => absurd h.1 (by simp)
  | a :: l, b :: l', h, ha => by
    rw [h.head.conc (ha a (List.mem_cons_self ..)), VRL.conc h.tail (fun x hx => ha x (List.mem_cons_of_mem _ hx))]
    rfl
theorem VRL.of_conc {σ : Sg} : ∀ {l : List Value}, (∀ a ∈ l, okC a) → VRL σ l (l.map AS.conc)
  | [], _ => VRL.nil σ
  | a :: _l, ha => VRL.cons (VR.of_conc (ha a (List.mem_cons_self ..))) (VRL.of_conc fun x hx => ha x (List.mem_cons_of_mem _ hx))
/-! ### rules -/
variable {E : Env} {P : Program}
def RuleOK (P : Program) (Tw : World → Prop) (r : Rule) : Prop := ∀ o : Oper, opKey o = some r.key → ∀ (σ : Sg) (ρ' : Operand → Value), VRL σ r.args (o.op.operands.toList.map ρ') → ∀ w, Tw w → ∃ v', (execOp ρ' o).run P w = .ok (.value v') w ∧ VR σ r.res v'
theorem bcode_inj {a b : BinOp} (h : bcode a = bcode b) : a = b := by cases a <;> cases b <;> first | rfl | (simp [bcode] at h)
theorem ucode_inj {a b : UnOp} (h : ucode a = ucode b) : a = b := by cases a <;> cases b <;> first | rfl | (simp [ucode] at h)
theorem bcode_ge (a : BinOp) : 10 ≤ bcode a ∧ bcode a ≤ 26 := by cases a <;> simp [bcode]
theorem ucode_ge (a : UnOp) : 30 ≤ ucode a ∧ ucode a ≤ 33 := by cases a <;> simp [ucode]
theorem key_bin {o : Oper} {op : BinOp} {t u : Nat} (h : opKey o = some (bcode op, t, u)) : ∃ x y, o.op = .binOp op t x y u := by
  have hb := bcode_ge op
  unfold opKey at h
  split at h
  · rename_i op' t' x y u' ho
    simp only [Option.some.injEq, Prod.mk.injEq] at h
    obtain ⟨h1, rfl, rfl⟩ := h
    obtain rfl := bcode_inj h1
    exact ⟨x, y, ho⟩
  · rename_i op' t' x ho
    simp only [Option.some.injEq, Prod.mk.injEq] at h
    have := ucode_ge op'; omega
  · simp only [Option.some.injEq, Prod.mk.injEq] at h; omega
  · simp only [Option.some.injEq, Prod.mk.injEq] at h; omega
  · simp only [Option.some.injEq, Prod.mk.injEq] at h; omega
  · simp only [Option.some.injEq, Prod.mk.injEq] at h; omega
  · simp only [Option.some.injEq, Prod.mk.injEq] at h; omega
  · simp only [Option.some.injEq, Prod.mk.injEq] at h; omega
  · simp only [Option.some.injEq, Prod.mk.injEq] at h; omega
  · simp only [Option.some.injEq, Prod.mk.injEq] at h; omega
  · simp only [Option.some.injEq, Prod.mk.injEq] at h; omega
  · split at h <;> first | (simp only [Option.some.injEq, Prod.mk.injEq] at h; omega) | cases h
  · cases h
theorem key_un {o : Oper} {op : UnOp} {t u : Nat} (h : opKey o = some (ucode op, t, u)) : ∃ x, o.op = .unOp op t x := by
  have hb := ucode_ge op
  unfold opKey at h
  split at h
  · rename_i op' t' x y u' ho
    simp only [Option.some.injEq, Prod.mk.injEq] at h
    have := bcode_ge op'; omega
  · rename_i op' t' x ho
    simp only [Option.some.injEq, Prod.mk.injEq] at h
    obtain ⟨h1, rfl, _⟩ := h
    obtain rfl := ucode_inj h1
    exact ⟨x, ho⟩
  · simp only [Option.some.injEq, Prod.mk.injEq] at h; omega
  · simp only [Option.some.injEq, Prod.mk.injEq] at h; omega
  · simp only [Option.some.injEq, Prod.mk.injEq] at h; omega
  · simp only [Option.some.injEq, Prod.mk.injEq] at h; omega
  · simp only [Option.some.injEq, Prod.mk.injEq] at h; omega
  · simp only [Option.some.injEq, Prod.mk.injEq] at h; omega
  · simp only [Option.some.injEq, Prod.mk.injEq] at h; omega
  · simp only [Option.some.injEq, Prod.mk.injEq] at h; omega
  · simp only [Option.some.injEq, Prod.mk.injEq] at h; omega
  · split at h <;> first | (simp only [Option.some.injEq, Prod.mk.injEq] at h; omega) | cases h
  · cases h
theorem key_conv {o : Oper} {a b : Nat} (h : opKey o = some (1, a, b)) : ∃ x, o.op = .convert a b x := by
  unfold opKey at h
  split at h
  · rename_i op' t' x y u' ho
    simp only [Option.some.injEq, Prod.mk.injEq] at h
    have := bcode_ge op'; omega
  · rename_i op' t' x ho
    simp only [Option.some.injEq, Prod.mk.injEq] at h
    have := ucode_ge op'; omega
  · rename_i a' b' x ho
    simp only [Option.some.injEq, Prod.mk.injEq] at h
    obtain ⟨_, rfl, rfl⟩ := h
    exact ⟨x, ho⟩
  · simp only [Option.some.injEq, Prod.mk.injEq] at h; omega
  · simp only [Option.some.injEq, Prod.mk.injEq] at h; omega
  · simp only [Option.some.injEq, Prod.mk.injEq] at h; omega
  · simp only [Option.some.injEq, Prod.mk.injEq] at h; omega
  · simp only [Option.some.injEq, Prod.mk.injEq] at h; omega
  · simp only [Option.some.injEq, Prod.mk.injEq] at h; omega
  · simp only [Option.some.injEq, Prod.mk.injEq] at h; omega
  · simp only [Option.some.injEq, Prod.mk.injEq] at h; omega
  · split at h <;> first | (simp only [Option.some.injEq, Prod.mk.injEq] at h; omega) | cases h
  · cases h
theorem key_len {o : Oper} {a b : Nat} (h : opKey o = some (4, a, b)) : ∃ c, o.op = .call c ∧ headT c.argTypes.toList = a ∧ o.type = b ∧ c.callee = .builtin .len := by
  unfold opKey at h
  split at h
  · rename_i op' t' x y u' ho
    simp only [Option.some.injEq, Prod.mk.injEq] at h
    have := bcode_ge op'; omega
  · rename_i op' t' x ho
    simp only [Option.some.injEq, Prod.mk.injEq] at h
    have := ucode_ge op'; omega
  · simp only [Option.some.injEq, Prod.mk.injEq] at h; omega
  · simp only [Option.some.injEq, Prod.mk.injEq] at h; omega
  · simp only [Option.some.injEq, Prod.mk.injEq] at h; omega
  · simp only [Option.some.injEq, Prod.mk.injEq] at h; omega
  · simp only [Option.some.injEq, Prod.mk.injEq] at h; omega
  · simp only [Option.some.injEq, Prod.mk.injEq] at h; omega
  · simp only [Option.some.injEq, Prod.mk.injEq] at h; omega
  · simp only [Option.some.injEq, Prod.mk.injEq] at h; omega
  · simp only [Option.some.injEq, Prod.mk.injEq] at h; omega
  · rename_i c ho
    split at h
    · rename_i hc
      simp only [Option.some.injEq, Prod.mk.injEq, true_and] at h
      exact ⟨c, ho, h.1, h.2, hc⟩
    all_goals first | (simp only [Option.some.injEq, Prod.mk.injEq] at h; omega) | cases h
  · cases h
theorem rule_bin {Tw : World → Prop} (hE : EOK E P) {op : BinOp} {t u : TypeId} {a b r : Value} (ha : okC a) (hb : okC b) (hr : okC r) (hsa : simple (conc a) = true) (hsb : simple (conc b) = true) (hn : conc a ≠ .nilIface) (h : binop E op t (conc a) (conc b) = some (conc r)) (hs : simple (conc r) = true) :
    RuleOK P Tw ⟨(bcode op, t, u), [a, b], r⟩ := by
  intro o hk σ ρ' hv w _
  obtain ⟨x, y, ho⟩ := key_bin hk
  have hc := hv.conc (by intro z hz; simp at hz; rcases hz with rfl | rfl <;> assumption)
  rw [ho] at hc
  simp only [Op.operands, List.map_cons, List.map_nil, List.cons.injEq, and_true] at hc
  obtain ⟨hx, hy⟩ := hc
  have hb : binopC E op t (isConst x || isConst y) (conc a) (conc b) = some (conc r) := by
    unfold binopC
    split
    · rename_i e _ ; exact absurd e hn
    · exact h
  obtain ⟨v', hrun, hvr⟩ := binopC_sound (P := P) (σ := fun _ => none) (ox := x) (oy := y) hE hb (.refl hsa) (.refl hsb) w
  obtain rfl := hvr.simple_inv hs
  refine ⟨conc r, ?_, VR.of_conc hr⟩
  have : execOp ρ' o = (do pure (.value (← (do eqGuard op t x y (ρ' x) (ρ' y); Go.binOp op t (ρ' x) (ρ' y))))) := by simp [execOp, ho]
  rw [this, show ρ' x = conc a from hx, show ρ' y = conc b from hy]
  simp only [Sem.run_bind] at hrun ⊢
  rw [hrun]
  rfl
theorem rule_conv {Tw : World → Prop} (hE : EOK E P) (hET : ∀ w, E.Tw w) {s d : TypeId} {a r : Value} {j k : IntKind} {n n' : Int} (ha : okC a) (hr : okC r) (hca : conc a = .int j n) (hcr : conc r = .int k n') (ht : ∃ ts td, E.types.get s = some ts ∧ E.types.get d = some td ∧ td.desc = .int k) (h : k.wrap n = n') :
    RuleOK P Tw ⟨(1, s, d), [a], r⟩ := by
  intro o hk σ ρ' hv w _
  obtain ⟨x, ho⟩ := key_conv hk
  have hc := hv.conc (by intro z hz; simp at hz; subst hz; assumption)
  rw [ho] at hc
  simp only [Op.operands, List.map_cons, List.map_nil, List.cons.injEq, and_true] at hc
  obtain ⟨ts, td, h1, h2, h3⟩ := ht
  have hcv : convertA E s d (.int j n) ⟨0, .nil⟩ = some (.val (.int k n')) := by
    unfold convertA
    rw [h1, h2]
    simp only [h3, h]
  obtain ⟨nx, v', hrun, hnx, hvr⟩ := convert_sound (P := P) (σ := fun _ => none) hE (MR.start E w (hET w)) (w := w) hcv (.refl rfl)
  obtain rfl := hvr.simple_inv rfl
  refine ⟨conc r, ?_, VR.of_conc hr⟩
  rw [hcr, show execOp ρ' o = (do pure (.value (← convert s d (ρ' x)))) by simp [execOp, ho], show ρ' x = .int j n from hc.trans hca, hrun]
  cases nx <;> first | (simp only [nextVal, Option.some.injEq] at hnx; subst hnx; rfl) | (simp only [nextVal, Option.some.injEq] at hnx; cases hnx) | (simp [nextVal] at hnx)
/-! the operators on numbers -/
theorem bin_add {E : Env} {t : TypeId} {k : IntKind} {a b r : Int} (h : k.wrap (a + b) = r) : binop E .add t (.int k a) (.int k b) = some (.int k r) := by subst h; cases k <;> rfl
theorem bin_sub {E : Env} {t : TypeId} {k : IntKind} {a b r : Int} (h : k.wrap (a - b) = r) : binop E .sub t (.int k a) (.int k b) = some (.int k r) := by subst h; cases k <;> rfl
theorem bin_mul {E : Env} {t : TypeId} {k : IntKind} {a b r : Int} (h : k.wrap (a * b) = r) : binop E .mul t (.int k a) (.int k b) = some (.int k r) := by subst h; cases k <;> rfl
theorem bin_lss {E : Env} {t : TypeId} {k : IntKind} {a b : Int} {r : Bool} (h : decide (a < b) = r) : binop E .lss t (.int k a) (.int k b) = some (.bool r) := by subst h; cases k <;> rfl
theorem bin_leq {E : Env} {t : TypeId} {k : IntKind} {a b : Int} {r : Bool} (h : decide (a ≤ b) = r) : binop E .leq t (.int k a) (.int k b) = some (.bool r) := by subst h; cases k <;> rfl
theorem bin_gtr {E : Env} {t : TypeId} {k : IntKind} {a b : Int} {r : Bool} (h : decide (a > b) = r) : binop E .gtr t (.int k a) (.int k b) = some (.bool r) := by subst h; cases k <;> rfl
theorem bin_geq {E : Env} {t : TypeId} {k : IntKind} {a b : Int} {r : Bool} (h : decide (a ≥ b) = r) : binop E .geq t (.int k a) (.int k b) = some (.bool r) := by subst h; cases k <;> rfl
theorem bin_eql {E : Env} {t : TypeId} {k : IntKind} {a b : Int} {r : Bool} (h : (a == b) = r) : binop E .eql t (.int k a) (.int k b) = some (.bool r) := by subst h; cases k <;> rfl
theorem bin_neq {E : Env} {t : TypeId} {k : IntKind} {a b : Int} {r : Bool} (h : (a != b) = r) : binop E .neq t (.int k a) (.int k b) = some (.bool r) := by subst h; cases k <;> rfl
theorem bin_quo {E : Env} {t : TypeId} {k : IntKind} {a b r : Int} (hb : b ≠ 0) (h : k.wrap (a.tdiv b) = r) : binop E .quo t (.int k a) (.int k b) = some (.int k r) := by
  subst h
  cases k <;> (show (if b = 0 then none else _) = _; rw [if_neg hb])
theorem bin_rem {E : Env} {t : TypeId} {k : IntKind} {a b r : Int} (hb : b ≠ 0) (h : a.tmod b = r) : binop E .rem t (.int k a) (.int k b) = some (.int k r) := by
  subst h
  cases k <;> (show (if b = 0 then none else _) = _; rw [if_neg hb])
theorem bin_shr {E : Env} {t : TypeId} {k j : IntKind} {a b r : Int} (hb : 0 ≤ b) (h : a.fdiv (2 ^ (min b.toNat k.bits)) = r) : binop E .shr t (.int k a) (.int j b) = some (.int k r) := by
  subst h
  show (if b < 0 then none else _) = _
  rw [if_neg (by omega)]
theorem bin_shl {E : Env} {t : TypeId} {k j : IntKind} {a b r : Int} (hb : 0 ≤ b) (h : k.wrap (a * 2 ^ (min b.toNat k.bits)) = r) : binop E .shl t (.int k a) (.int j b) = some (.int k r) := by
  subst h
  show (if b < 0 then none else _) = _
  rw [if_neg (by omega)]
/-! ### calls that turn nothing -/
abbrev PureL := List (FuncId × List Value × Value)
def pureS : PureL → Sums
  | [], _, _, _ => none
  | (g, as, v) :: l, f, args, m => match Nat.beq g f with
    | true => match veqL 30 args as with
      | true => some [(v, m)]
      | false => pureS l f args m
    | false => pureS l f args m
/-- Tw: what the call may count on in its world -/
def PureOK (P : Program) (Tw : World → Prop) (p : FuncId × List Value × Value) : Prop := ∀ (σ : Sg) (args' : Array Value), VRL σ p.2.1 args'.toList → ∀ w, Tw w → Calls P p.1 args' w fun e w' => ∃ v', e = .returned v' ∧ VR σ p.2.2 v' ∧ Below w.heap.size w w'
theorem MR.grown {E : Env} {w0 w w' : World} {σ : Sg} {m : Mem} (h : MR E w0 σ m w) (hb : Below w.heap.size w w') : MR E w0 σ m w' ∧ FG σ m w σ m w' := by
  have hk : ∀ {b : Nat} {o : Obj}, w.heap[b]? = some o → w'.heap[b]? = some o := fun {b o} ho => (hb.block b (Array.getElem?_eq_some_iff.1 ho).1).trans ho
  refine ⟨⟨h.below.trans (hb.mono h.below.size), h.t0, fun i o hi hl => ?_, h.inj, h.fresh⟩, ⟨Ext.refl σ, hb.size, fun b hb' _ => hb.block b hb', fun b hl => .inl hl, Nat.le_refl _, fun _ _ => rfl⟩⟩
  obtain ⟨x, ob, hx, hB, hob, hor⟩ := h.obj i o hi hl
  exact ⟨x, ob, hx, hB, hk hob, hor⟩
theorem pureS_ok {E : Env} {P : Program} {Tw : World → Prop} {w0 : World} {l : PureL} (hT : ∀ σ m w, MR E w0 σ m w → Tw w) (h : ∀ p ∈ l, PureOK P Tw p) : SOK E P w0 (pureS l) := by
  induction l with
  | nil => intro f args m r hs; cases hs
  | cons p l ih =>
    intro f args m r hs hne σ w args' hv hM
    have ih' := ih (fun q hq => h q (List.mem_cons_of_mem _ hq)) f args m r
    obtain ⟨g, as, v⟩ := p
    unfold pureS at hs
    split at hs
    · rename_i hg
      split at hs
      · rename_i ha
        cases hs
        have hg' := Nat.eq_of_beq_eq_true hg
        have ha' := (veq_sound 30).2 _ _ ha
        subst hg' ha'
        refine (h _ (List.mem_cons_self ..) σ args' hv w (hT σ m w hM)).mono ?_
        rintro e w' ⟨v', rfl, hvr, hb⟩
        obtain ⟨hM', hF⟩ := hM.grown hb
        exact ⟨_, List.mem_cons_self .., σ, v', rfl, hF, hvr, hM'⟩
      · exact ih' hs hne σ w args' hv hM
    · exact ih' hs hne σ w args' hv hM
/-- of a contract at the values that the numbers stand for -/
theorem pure_of {P : Program} {Tw : World → Prop} {f : FuncId} {as : List Value} {v : Value} (ha : ∀ a ∈ as, okC a) (hv : okC v) (h : ∀ w, Tw w → Calls P f (as.map conc).toArray w fun e w' => e = .returned (conc v) ∧ Below w.heap.size w w') : PureOK P Tw (f, as, v) := by
  intro σ args' hl w hT
  have := hl.conc ha
  have e : args' = (as.map conc).toArray := Array.ext' (by simpa using this)
  subst e
  refine (h w hT).mono ?_
  rintro e w' ⟨rfl, hb⟩
  exact ⟨_, rfl, VR.of_conc hv, hb⟩
end Go.AS

/- What lies in the heap before a run with values known by number, and behind it. -/
namespace Go.AS
open Go.RowKit
noncomputable section
variable [Rho]
/-- the cells l lie in block b from sh on, and nothing there is frozen -/
def At (w : World) (b sh : Nat) (e : TypeId) (l : List Value) : Prop :=
  ∃ C fz, w.heap[b]? = some (.cells C e fz) ∧ NF fz C.size ∧ sh + l.length ≤ C.size ∧ ∀ j, j < l.length → C[sh + j]? = l[j]?
omit [Rho] in
theorem At.lt {w : World} {b sh : Nat} {e : TypeId} {l : List Value} (h : At w b sh e l) : b < w.heap.size := by
  obtain ⟨C, fz, hC, _⟩ := h
  exact (Array.getElem?_eq_some_iff.1 hC).1
omit [Rho] in
theorem At.keep {w w' : World} {b sh : Nat} {e : TypeId} {l : List Value} (h : At w b sh e l) (hk : w'.heap[b]? = w.heap[b]?) : At w' b sh e l := by
  obtain ⟨C, fz, hC, hr⟩ := h
  exact ⟨C, fz, hk.trans hC, hr⟩
omit [Rho] in
theorem At.below {w w' : World} {b sh s : Nat} {e : TypeId} {l : List Value} (h : At w b sh e l) (hs : b < s) (hk : Below s w w') : At w' b sh e l := h.keep (hk.block b hs)
omit [Rho] in
theorem At.cell {w : World} {b sh : Nat} {e : TypeId} {l : List Value} (h : At w b sh e l) (j : Nat) (v : Value) (hv : l[j]? = some v) : w.cell? ⟨b, sh + j, none⟩ = some v := by
  obtain ⟨C, fz, hC, _, _, hj⟩ := h
  have hlt : j < l.length := (List.getElem?_eq_some_iff.1 hv).1
  simp only [World.cell?, hC]
  simp [hj j hlt, hv]
omit [Rho] in
theorem At.frozen {w : World} {b sh : Nat} {e : TypeId} {l : List Value} (h : At w b sh e l) (j : Nat) (hlt : j < l.length) : w.frozen? ⟨b, sh + j, none⟩ = false := by
  obtain ⟨C, fz, hC, hf, hs, hj⟩ := h
  simp only [World.frozen?, hC]
  rcases hf with h | h
  · simp [h]
    try omega
  · simp
    try omega
omit [Rho] in
theorem At.of_block {w : World} {b : Nat} {C : Array Value} {e : TypeId} (h : w.heap[b]? = some (.cells C e (0, 0))) : At w b 0 e C.toList :=
  ⟨C, (0, 0), h, .inl rfl, by simp, fun j _ => by simp⟩
/-- blocks by their numbers: where the abstract ones lie -/
abbrev Pls := List (Nat × Nat × List Value)
def SgB (σ : Sg) (B : Pls) : Prop := ∀ (i : Nat) q, B[i]? = some q → ∃ x, σ i = some x ∧ x.b = q.1 ∧ x.sh = q.2.1
def memA (A : List (TypeId × List Value)) : Mem := ⟨A.length, T.ofList (A.map fun p => newRow p.1 p.2)⟩
theorem memA_get (A : List (TypeId × List Value)) (i : Nat) : (memA A).t.get i = (A[i]?).map fun p => newRow p.1 p.2 := by
  show (T.ofList _).get i = _
  rw [T.get_ofList, List.getElem?_map]
structure InitOK (E : Env) (w : World) (A : List (TypeId × List Value)) (B : Pls) : Prop where
  len : A.length = B.length
  types : (A.all fun p => (E.types.get p.1).isSome) = true
  at_ : ∀ (i : Nat) p q, A[i]? = some p → B[i]? = some q → At w q.1 q.2.1 p.1 q.2.2 ∧ p.2.length = q.2.2.length
  dist : ∀ (i j : Nat) q r, B[i]? = some q → B[j]? = some r → q.1 = r.1 → i = j
  rel : ∀ σ, SgB σ B → ∀ (i : Nat) p q, A[i]? = some p → B[i]? = some q → VRL σ p.2 q.2.2
/-- the first n blocks alone -/
def bare (n : Nat) (w : World) : World := { w with heap := w.heap.extract 0 n }
omit [Rho] in
theorem bare_below (n : Nat) (w : World) : Below (bare n w).heap.size (bare n w) w := by
  refine ⟨rfl, rfl, rfl, ?_, fun k hk => ?_⟩
  · show (w.heap.extract 0 n).size ≤ _
    simp only [Array.size_extract]; omega
  · have hk' : k < min n w.heap.size := by have : k < (w.heap.extract 0 n).size := hk; simpa [Array.size_extract] using this
    show w.heap[k]? = (w.heap.extract 0 n)[k]?
    rw [Array.getElem?_extract]
    simp; omega
theorem init {E : Env} {w : World} {n0 : Nat} {A : List (TypeId × List Value)} {B : Pls} (hT : E.Tw (bare n0 w)) (hlow : ∀ q ∈ B, n0 ≤ q.1) (h : InitOK E w A B) : ∃ σ, SgB σ B ∧ MR E (bare n0 w) σ (memA A) w := by
  classical
  let bsz : Nat → Nat := fun b => match w.heap[b]? with | some (.cells C _ _) => C.size | _ => 0
  let ts : TypeId → Nat := fun e => match E.types.get e with | some ti => ti.size | none => 0
  let σ : Sg := fun i => match A[i]?, B[i]? with | some p, some q => some ⟨q.1, q.2.1, bsz q.1 - q.2.1, ts p.1⟩ | _, _ => none
  have hσ : ∀ (i : Nat) p q, A[i]? = some p → B[i]? = some q → σ i = some ⟨q.1, q.2.1, bsz q.1 - q.2.1, ts p.1⟩ := fun i p q hp hq => by simp only [σ, hp, hq]
  have hpair : ∀ (i : Nat) q, B[i]? = some q → ∃ p, A[i]? = some p := fun i q hq => by
    have := (List.getElem?_eq_some_iff.1 hq).1
    exact ⟨A[i]'(by rw [h.len]; exact this), List.getElem?_eq_getElem _⟩
  have hpair2 : ∀ (i : Nat) p, A[i]? = some p → ∃ q, B[i]? = some q := fun i p hp => by
    have := (List.getElem?_eq_some_iff.1 hp).1
    exact ⟨B[i]'(by rw [← h.len]; exact this), List.getElem?_eq_getElem _⟩
  have hB : SgB σ B := fun i q hq => by
    obtain ⟨p, hp⟩ := hpair i q hq
    exact ⟨_, hσ i p q hp hq, rfl, rfl⟩
  refine ⟨σ, hB, ?_⟩
  have hget : ∀ (i : Nat) o, (memA A).t.get i = some o → ∃ p q, A[i]? = some p ∧ B[i]? = some q ∧ o = newRow p.1 p.2 := fun i o ho => by
    rw [memA_get] at ho
    cases hp : A[i]? with
    | none => rw [hp] at ho; cases ho
    | some p =>
      rw [hp] at ho
      obtain ⟨q, hq⟩ := hpair2 i p hp
      exact ⟨p, q, rfl, hq, (Option.some.inj ho).symm⟩
  refine ⟨bare_below n0 w, hT, fun i o ho _ => ?_, fun i j o o' x y hi _ hj _ hx hy hxy => ?_, fun i hi => ?_⟩
  · obtain ⟨p, q, hp, hq, rfl⟩ := hget i o ho
    obtain ⟨⟨C, fz, hC, hf, hs, hj⟩, hl⟩ := h.at_ i p q hp hq
    have hr := h.rel σ hB i p q hp hq
    have hbs : bsz q.1 = C.size := by simp only [bsz, hC]
    have hty : ∃ ti, E.types.get p.1 = some ti ∧ ts p.1 = ti.size := by
      have := List.all_eq_true.1 h.types p (List.mem_of_getElem? hp)
      obtain ⟨ti, hti⟩ := Option.isSome_iff_exists.1 this
      exact ⟨ti, hti, by simp only [ts, hti]⟩
    refine ⟨_, _, hσ i p q hp hq, Nat.le_trans (by show (w.heap.extract 0 n0).size ≤ n0; simp only [Array.size_extract]; omega) (hlow q (List.mem_of_getElem? hq)), hC, ?_⟩
    refine ⟨rfl, hf, ?_, ?_, hty, fun j hjl => ?_⟩
    · show q.2.1 + (bsz q.1 - q.2.1) = C.size
      rw [hbs]; omega
    · show p.2.length ≤ bsz q.1 - q.2.1
      rw [hbs]; omega
    · have h1 : p.2[j]? = some (p.2[j]'hjl) := List.getElem?_eq_getElem hjl
      obtain ⟨v', hv', hvr⟩ := hr.getElem? h1
      refine ⟨_, v', ?_, ?_, hvr⟩
      · rw [T.get_ofList, h1]
      · show C[q.2.1 + j]? = _
        rw [hj j (by omega), hv']
  · obtain ⟨p, q, hp, hq, rfl⟩ := hget i o hi
    obtain ⟨p', q', hp', hq', rfl⟩ := hget j o' hj
    rw [hσ i p q hp hq] at hx
    rw [hσ j p' q' hp' hq'] at hy
    cases hx; cases hy
    exact h.dist i j q q' hq hq' hxy
  · show (match A[i]?, B[i]? with | some p, some q => some (⟨q.1, q.2.1, bsz q.1 - q.2.1, ts p.1⟩ : Inf) | _, _ => none) = none
    rw [List.getElem?_eq_none (show A.length ≤ i from hi)]
/-! ### behind the run -/
def pick1 (m : Mem) (i : Nat) : Option (TypeId × List Value) :=
  match m.t.get i with
  | some (.row cells n e) => match cells.getL n 0 with
    | some l => some (e, l)
    | none => none
  | _ => none
/-- do the first n stand? -/
def stay (m : Mem) : Nat → Bool
  | 0 => true
  | n + 1 => match m.t.get n with
    | some o => cond o.live (stay m n) false
    | none => false
theorem stay_spec {m : Mem} : ∀ {n}, stay m n = true → ∀ j, j < n → ∃ o, m.t.get j = some o ∧ o.live = true
  | 0, _, j, hj => absurd hj (Nat.not_lt_zero _)
  | n + 1, h, j, hj => by
    unfold stay at h
    split at h
    · rename_i o ho
      cases hl : o.live with
      | false => rw [hl] at h; cases h
      | true =>
        rw [hl] at h
        rcases Nat.lt_or_ge j n with h1 | h1
        · exact stay_spec h j h1
        · obtain rfl : j = n := by omega
          exact ⟨o, ho, hl⟩
    · cases h
def outS (n : Nat) (l : List (Value × Mem)) (ids : List Nat) : List (Value × Bool × List (Option (TypeId × List Value))) := l.map fun r => (r.1, stay r.2 n, ids.map (pick1 r.2))
/-- what is left as it was -/
structure Left (B : Pls) (w w' : World) : Prop where
  os : w'.os = w.os
  tape : w'.tape = w.tape
  output : w'.output = w.output
  size : w.heap.size ≤ w'.heap.size
  block : ∀ b, b < w.heap.size → (∀ q ∈ B, q.1 ≠ b) → w'.heap[b]? = w.heap[b]?
/-- the row of number i lies where σ says -/
def Lies (σ : Sg) (w : World) (i : Nat) (e : TypeId) (l : List Value) : Prop := ∃ x l', σ i = some x ∧ At w x.b x.sh e l' ∧ VRL σ l l'
structure Ran (B : Pls) (ids : List Nat) (picks : List (Option (TypeId × List Value))) (v : Value) (w : World) (v' : Value) (σ : Sg) (w' : World) : Prop where
  sg : SgB σ B
  val : VR σ v v'
  left : Left B w w'
  lies : ∀ (k i : Nat) e l, ids[k]? = some i → picks[k]? = some (some (e, l)) → Lies σ w' i e l
  fresh : ∀ (k i : Nat) e l x, ids[k]? = some i → picks[k]? = some (some (e, l)) → B.length ≤ i → σ i = some x → w.heap.size ≤ x.b
  inj : ∀ (k i k' i' : Nat) e l e' l' x y, ids[k]? = some i → picks[k]? = some (some (e, l)) → ids[k']? = some i' → picks[k']? = some (some (e', l')) → σ i = some x → σ i' = some y → x.b = y.b → i = i'
theorem pick1_spec {m : Mem} {i : Nat} {e : TypeId} {l : List Value} (h : pick1 m i = some (e, l)) : ∃ cells n, m.t.get i = some (.row cells n e) ∧ cells.getL n 0 = some l := by
  unfold pick1 at h
  split at h
  · rename_i cells n e' hg
    split at h
    · rename_i l' hl
      cases h
      exact ⟨cells, n, hg, hl⟩
    · cases h
  · cases h
theorem run_sym {P : Program} (hP : P.follows .mixedOrders = true) {E : Env} (hE : EOK E P) {Tw : World → Prop} (hET : ∀ w0, E.Tw w0 ↔ ∀ w', Below w0.heap.size w0 w' → Tw w') {n0 : Nat} {S : Sums} (hS : ∀ w0, (∀ w', Below w0.heap.size w0 w' → Tw w') → SOK E P w0 S) {fuel d : Nat} {f : FuncId} {args : List Value} {A : List (TypeId × List Value)} {ids : List Nat} {v : Value} {picks : List (Option (TypeId × List Value))}
    (hrun : outS A.length (evCall E S fuel d (.fn f) args (memA A)) ids = [(v, true, picks)]) {B : Pls} {w : World} (hT : ∀ w', Below (bare n0 w).heap.size (bare n0 w) w' → Tw w') (hlow : ∀ q ∈ B, n0 ≤ q.1) (hI : InitOK E w A B) {args' : Array Value} (hargs : ∀ σ, SgB σ B → VRL σ args args'.toList) :
    Calls P f args' w fun e w' => ∃ v' σ, e = .returned v' ∧ Ran B ids picks v w v' σ w' := by
  obtain ⟨σ, hB, hM⟩ := init ((hET _).2 hT) hlow hI
  obtain ⟨r, hev⟩ : ∃ r, evCall E S fuel d (.fn f) args (memA A) = [r] := by
    generalize evCall E S fuel d (.fn f) args (memA A) = L at hrun
    match L, hrun with
    | [r], _ => exact ⟨r, rfl⟩
    | [], h => simp [outS] at h
    | a :: b :: c, h => simp [outS] at h
  rw [hev] at hrun
  simp only [outS, List.map_cons, List.map_nil, List.cons.injEq, and_true, Prod.mk.injEq] at hrun
  obtain ⟨rfl, hst, rfl⟩ := hrun
  have hne : evCall E S fuel d (.fn f) args (memA A) ≠ [] := by rw [hev]; simp
  refine ((evCall_ok hE hP (hS _ hT) fuel d).fn f args (memA A) hne σ w args' (hargs σ hB) hM).mono ?_
  rintro e w' ⟨r', hr', σ', v', rfl, hf, hv, hm⟩
  rw [hev] at hr'
  obtain rfl : r' = r := by simpa using hr'
  have hpk : ∀ (k i : Nat) e l, ids[k]? = some i → (ids.map (pick1 r'.2))[k]? = some (some (e, l)) → pick1 r'.2 i = some (e, l) := fun k i e l hk hp => by
    rw [List.getElem?_map, hk] at hp
    exact Option.some.inj hp
  have hsg : SgB σ' B := fun i q hq => by
    obtain ⟨x, hx, h1, h2⟩ := hB i q hq
    exact ⟨x, hf.ext i x hx, h1, h2⟩
  have hlive : ∀ b, LiveB σ (memA A) b → ∃ q ∈ B, q.1 = b := fun b hl => by
    obtain ⟨i, o, x, hg, _, hx, rfl⟩ := hl
    have hi : i < A.length := by
      rw [memA_get] at hg
      cases hA : A[i]? with
      | none => rw [hA] at hg; cases hg
      | some p => exact (List.getElem?_eq_some_iff.1 hA).1
    obtain ⟨q, hq⟩ : ∃ q, B[i]? = some q := ⟨B[i]'(by rw [← hI.len]; exact hi), List.getElem?_eq_getElem _⟩
    obtain ⟨y, hy, h1, _⟩ := hB i q hq
    rw [hx] at hy
    cases hy
    exact ⟨q, List.mem_of_getElem? hq, h1.symm⟩
  refine ⟨v', σ', rfl, hsg, hv, ⟨hm.below.os.trans hM.below.os.symm, hm.below.tape.trans hM.below.tape.symm, hm.below.output.trans hM.below.output.symm, hf.size, fun b hb hn => hf.frame b hb (fun hl => ?_)⟩, fun k i e l hk hp => ?_, fun k i e l x hk hp hi hx => ?_, fun k i k' i' e l e' l' x y hk hp hk' hp' hx hy hxy => ?_⟩
  · obtain ⟨q, hq, rfl⟩ := hlive b hl
    exact hn q hq rfl
  · obtain ⟨cells, n, hg, hl⟩ := pick1_spec (hpk k i e l hk hp)
    obtain ⟨x, ob, hx, _, hob, hor⟩ := hm.obj i _ hg rfl
    obtain ⟨C, fz, _, hC, hnf, hsz, hn, _, hc⟩ := hm.row hg hx
    obtain ⟨h1, h2⟩ := T.getL_spec hl
    refine ⟨x, (C.toList.drop x.sh).take n, hx, ⟨C, fz, hC, hnf, ?_, fun j hj => ?_⟩, ?_⟩
    · simp; omega
    · simp at hj
      rw [List.getElem?_take, if_pos (by omega), List.getElem?_drop]
      simp
    · refine VRL.of_getElem? (by rw [h1]; simp; omega) (fun j u u' hu hu' => ?_)
      have hj : j < n := by have := (List.getElem?_eq_some_iff.1 hu).1; omega
      obtain ⟨a, a', ha, ha', hr⟩ := hc j hj
      have := h2 j hj
      rw [Nat.zero_add] at this
      rw [this, hu] at ha
      rw [List.getElem?_take, if_pos hj, List.getElem?_drop] at hu'
      rw [← Array.getElem?_toList] at ha'
      rw [ha'] at hu'
      cases ha; cases hu'
      exact hr
  · obtain ⟨cells, n, hg, hl⟩ := pick1_spec (hpk k i e l hk hp)
    rcases hf.grow x.b ⟨i, _, x, hg, rfl, hx, rfl⟩ with h | h
    · obtain ⟨j, o, y, hgj, hlv, hy, hyb⟩ := h
      have hj : j < A.length := by
        rw [memA_get] at hgj
        cases hA : A[j]? with
        | none => rw [hA] at hgj; cases hgj
        | some p => exact (List.getElem?_eq_some_iff.1 hA).1
      exfalso
      obtain ⟨o', hg', hl'⟩ := stay_spec hst j hj
      have := hm.inj i j _ _ x y hg rfl hg' hl' hx (hf.ext j y hy) hyb.symm
      subst this
      rw [hI.len] at hj; omega
    · exact h
  · obtain ⟨cells, n, hg, hl⟩ := pick1_spec (hpk k i e l hk hp)
    obtain ⟨cells', n', hg', hl'⟩ := pick1_spec (hpk k' i' e' l' hk' hp')
    exact hm.inj i i' _ _ x y hg rfl hg' rfl hx hy hxy
end
end Go.AS

/- A shape that stands in the heap, and how a call turns it into another one. -/
namespace Go.AS
open Go.RowKit
noncomputable section
def mapA (f : Value → Value) (c : Array Value) : Array Value := (c.toList.map f).toArray
theorem mapA_eq (f : Value → Value) (c : Array Value) : mapA f c = c.map f := by unfold mapA; apply Array.ext'; simp
/-- what an abstract value stands for: numbers by D, blocks by τ -/
def img (D : Nat → Value) (τ : Nat → Nat × Nat) : Nat → Value → Value
  | 0, v => v
  | n + 1, v => match v with
    | .complex .f32 30 i => D i
    | .pointer (some ⟨i, o, none⟩) => .pointer (some ⟨(τ i).1, (τ i).2 + o, none⟩)
    | .func fn f c => .func fn (mapA (img D τ n) f) (mapA (img D τ n) c)
    | .agg c => .agg (mapA (img D τ n) c)
    | .tuple c => .tuple (mapA (img D τ n) c)
    | .iface t v => .iface t (img D τ n v)
    | v => v
/-- abstract values of which this is all -/
def okI : Nat → Value → Bool
  | 0, _ => false
  | n + 1, v => match v with
    | .complex .f32 30 _ => true
    | .pointer (some ⟨_, _, none⟩) => true
    | .func _ f c => f.toList.all (okI n) && c.toList.all (okI n)
    | .agg c => c.toList.all (okI n)
    | .tuple c => c.toList.all (okI n)
    | .iface _ v => okI n v
    | v => simple v
def posOfSg (σ : Sg) (i : Nat) : Nat × Nat := match σ i with | some x => (x.b, x.sh) | none => (0, 0)
section
variable [Rho]
theorem arr_img {σ : Sg} {n : Nat} (ih : ∀ v v', VR σ v v' → okI n v = true → v' = img Rho.D (posOfSg σ) n v) {c c' : Array Value} (hc : c.size = c'.size) (hc' : ∀ i, i < c.size → VR σ (c.getD i und) (c'.getD i und)) (ho : c.toList.all (okI n) = true) : c' = mapA (img Rho.D (posOfSg σ) n) c := by
  rw [mapA_eq]
  apply Array.ext
  · simp [hc]
  · intro i h1 h2
    have hi : i < c.size := by rw [hc]; exact h1
    have := hc' i hi
    simp only [Array.getD, hi, h1, dif_pos] at this
    have hm := List.all_eq_true.1 ho c[i] (by simp)
    rw [Array.getElem_map]
    exact ih _ _ this hm
theorem img_of : ∀ (n : Nat) {σ : Sg} (v v' : Value), VR σ v v' → okI n v = true → v' = img Rho.D (posOfSg σ) n v := by
  intro n
  induction n with
  | zero => intro σ v v' _ h; cases h
  | succ n ih =>
    intro σ v v' h ho
    cases h with
    | sym h => rfl
    | any v' => simp [okI, simple, bad] at ho
    | topB b => simp [okI, simple, AS.topB] at ho
    | topI k m => simp [okI, simple, AS.topI] at ho
    | topS a m c => simp [okI, simple, AS.topS] at ho
    | topStr s => simp [okI, simple, AS.topStr] at ho
    | topE a c => simp [okI, simple, AS.topE] at ho
    | yld h => simp [okI, simple, AS.yld] at ho
    | refl hs => cases v <;> first
        | rfl
        | (simp [simple] at hs; done)
        | (rename_i a; cases a with
           | none => rfl
           | some a => simp [simple] at hs)
        | (rename_i a _ _; cases a with
           | none => rfl
           | some a => simp [simple] at hs)
    | ptr h => simp only [img, posOfSg, h]
    | slice h _ _ => simp [okI, simple] at ho
    | map h => simp [okI, simple] at ho
    | func hf hf' hc hc' =>
      simp only [okI, Bool.and_eq_true] at ho
      simp only [img]
      rw [arr_img (fun v v' => ih v v') hf hf' ho.1, arr_img (fun v v' => ih v v') hc hc' ho.2]
    | agg hc hc' =>
      simp only [okI] at ho
      simp only [img]
      rw [arr_img (fun v v' => ih v v') hc hc' ho]
    | tuple hc hc' =>
      simp only [okI] at ho
      simp only [img]
      rw [arr_img (fun v v' => ih v v') hc hc' ho]
    | iface h =>
      simp only [okI] at ho
      simp only [img]
      rw [ih _ _ h ho]
end
/-- the numbers in a value are below n, its blocks below k -/
def within (n k : Nat) : Nat → Value → Bool
  | 0, _ => false
  | d + 1, v => match v with
    | .complex .f32 30 i => Nat.blt i n
    | .pointer (some ⟨i, _, none⟩) => Nat.blt i k
    | .func _ f c => f.toList.all (within n k d) && c.toList.all (within n k d)
    | .agg c => c.toList.all (within n k d)
    | .tuple c => c.toList.all (within n k d)
    | .iface _ v => within n k d v
    | v => simple v
section
variable [Rho]
theorem arr_vr {σ : Sg} {n k d : Nat} {τ : Nat → Nat × Nat} (ih : ∀ v, within n k d v = true → VR σ v (img Rho.D τ d v)) {c : Array Value} (h : c.toList.all (within n k d) = true) : c.size = (mapA (img Rho.D τ d) c).size ∧ ∀ i, i < c.size → VR σ (c.getD i und) ((mapA (img Rho.D τ d) c).getD i und) := by
  rw [mapA_eq]
  refine ⟨by simp, fun i hi => ?_⟩
  have hm := List.all_eq_true.1 h c[i] (by simp)
  have := ih _ hm
  simpa [Array.getD, hi] using this
theorem img_vr {σ : Sg} {n k : Nat} {τ : Nat → Nat × Nat} (hD : ∀ i, i < n → (Rho.D i).oneCell' = true) (hτ : ∀ i, i < k → ∃ x, σ i = some x ∧ x.b = (τ i).1 ∧ x.sh = (τ i).2) : ∀ (d : Nat) (v : Value), within n k d v = true → VR σ v (img Rho.D τ d v) := by
  intro d
  induction d with
  | zero => intro v h; cases h
  | succ d ih =>
    intro v h
    unfold within at h
    split at h
    · rename_i i
      exact .sym (hD i (by simpa [Nat.blt_eq] using h))
    · rename_i i o
      obtain ⟨x, hx, h1, h2⟩ := hτ i (by simpa [Nat.blt_eq] using h)
      have := VR.ptr (o := o) hx
      rw [h1, h2] at this
      exact this
    · rename_i fn f c
      simp only [Bool.and_eq_true] at h
      obtain ⟨a1, a2⟩ := arr_vr ih h.1
      obtain ⟨b1, b2⟩ := arr_vr ih h.2
      exact .func a1 a2 b1 b2
    · rename_i c
      obtain ⟨a1, a2⟩ := arr_vr ih h
      exact .agg a1 a2
    · rename_i c
      obtain ⟨a1, a2⟩ := arr_vr ih h
      exact .tuple a1 a2
    · rename_i t u
      exact .iface (ih u h)
    · rename_i h1 h2 h3 h4 h5 h6
      have : img Rho.D τ (d + 1) v = v := by
        unfold img
        split <;> first | rfl | (rename_i e; first | exact absurd rfl (h1 _) | exact absurd rfl (h2 _ _) | exact absurd rfl (h3 _ _ _) | exact absurd rfl (h4 _) | exact absurd rfl (h5 _) | exact absurd rfl (h6 _ _)) | exact absurd rfl (h1 _) | exact absurd rfl (h2 _ _) | exact absurd rfl (h3 _ _ _) | exact absurd rfl (h4 _) | exact absurd rfl (h5 _) | exact absurd rfl (h6 _ _)
      rw [this]
      exact .refl h
end
/-! ### an environment of some functions and types alone -/
def fillL {α : Type} (f : Nat → Option α) : List Nat → T α → T α
  | [], t => t
  | i :: l, t => match f i with
    | some x => fillL f l (t.set i x)
    | none => fillL f l t
theorem fillL_inv {α : Type} (f : Nat → Option α) : ∀ (l : List Nat) (t : T α), (∀ j x, t.get j = some x → f j = some x) → ∀ j x, (fillL f l t).get j = some x → f j = some x := by
  intro l
  induction l with
  | nil => intro t h j x hj; exact h j x hj
  | cons i l ih =>
    intro t h j x hj
    simp only [fillL] at hj
    split at hj
    · rename_i y hy
      refine ih (t.set i y) (fun k z hk => ?_) j x hj
      rw [T.get_set] at hk
      split at hk
      · rename_i e; subst e; cases hk; exact hy
      · exact h k z hk
    · exact ih t h j x hj
def mkEnvS (P : Program) (fs ts : List Nat) (rs : List Rule) (Tw : World → Prop := fun _ => True) : Env := ⟨P, fillL (mkTI P) ts .nil, fillL (mkFn P) fs .nil, fillL (mkExt P) fs .nil, rs, fun w0 => ∀ w', Below w0.heap.size w0 w' → Tw w'⟩
theorem types_of [Rho] (P : Program) {t : Nat} {ti : TI} (h1 : mkTI P t = some ti) : P.underlying t = some ti.desc ∧ ∃ i z, P.info? t = some i ∧ i.size = ti.size ∧ i.bytes = ti.bytes ∧ i.zero = some z ∧ z.cells.toList = ti.zero ∧ ti.zero.length = ti.size ∧ (∀ v ∈ ti.zero, simple v = true) ∧ (agg? ti.desc = false → ti.zero = [z]) ∧ (agg? ti.desc = true → z = .agg ti.zero.toArray) := by
  unfold mkTI at h1
  split at h1
  · rename_i i d hi hd
    split at h1
    · rename_i z hz
      split at h1
      · rename_i a1 a2 a3
        cases h1
        have e1 := Nat.eq_of_beq_eq_true a1
        refine ⟨hd, i, z, hi, rfl, rfl, hz, rfl, e1, allSimple_spec a2, fun hg => ?_, fun hg => ?_⟩
        · simp only at hg
          cases z with
          | agg vs => simp only at a3; rw [a3] at hg; cases hg
          | _ => simp only [Value.cells]
        · simp only at hg
          cases z with
          | agg vs => simp [Value.cells]
          | _ => simp only at a3; rw [hg] at a3; cases a3
      · cases h1
    · cases h1
  · cases h1
theorem mkEnvS_ok [Rho] {P : Program} {fs ts : List Nat} {rs : List Rule} {Tw : World → Prop} (hr : ∀ r ∈ rs, RuleOK P Tw r) : EOK (mkEnvS P fs ts rs Tw) P where
  prog := rfl
  types := fun t ti h => types_of P (fillL_inv (mkTI P) _ _ (fun j x hj => by rw [T.get_nil] at hj; cases hj) t ti h)
  funcs := fun f fn h => by
    have h1 : mkFn P f = some fn := fillL_inv (mkFn P) _ _ (fun j x hj => by rw [T.get_nil] at hj; cases hj) f fn h
    unfold mkFn at h1
    split at h1
    · rename_i fn' hf
      split at h1
      · rename_i c hc hn
        cases h1
        exact ⟨hf, hn, c, hc⟩
      · cases h1
    · cases h1
  exts := fun f x h => by
    have h1 : mkExt P f = some x := fillL_inv (mkExt P) _ _ (fun j y hj => by rw [T.get_nil] at hj; cases hj) f x h
    unfold mkExt at h1
    split at h1
    · rename_i fn hf
      split at h1
      · rename_i hb hx hn
        exact ⟨fn, hf, hn, hb, by simpa using hx, extNamed_find h1⟩
      · cases h1
    · cases h1
  rules := fun r hm o hk σ ρ' hv w0 w hT hb => hr r hm o hk σ ρ' hv w (hT w hb)
/-! ### shapes -/
/-- depth that serves -/
abbrev DP : Nat := 5
abbrev im (D : Nat → Value) (τ : Nat → Nat × Nat) (v : Value) : Value := img D τ DP v
abbrev Shp := List (TypeId × List Value)
/-- the shape A stands in w: its blocks by τ, its numbers by D -/
structure Stands (w : World) (D : Nat → Value) (A : Shp) (τ : Nat → Nat × Nat) : Prop where
  at_ : ∀ (i : Nat) p, A[i]? = some p → At w (τ i).1 (τ i).2 p.1 (p.2.map (im D τ))
  dist : ∀ i j, i < A.length → j < A.length → (τ i).1 = (τ j).1 → i = j
  low : ∀ i, i < A.length → 1 ≤ (τ i).1
theorem Stands.lt {w : World} {D : Nat → Value} {A : Shp} {τ : Nat → Nat × Nat} (h : Stands w D A τ) {i : Nat} (hi : i < A.length) : (τ i).1 < w.heap.size :=
  (h.at_ i _ (List.getElem?_eq_getElem hi)).lt
theorem Stands.keep {w w' : World} {D : Nat → Value} {A : Shp} {τ : Nat → Nat × Nat} (h : Stands w D A τ) (hk : ∀ i, i < A.length → w'.heap[(τ i).1]? = w.heap[(τ i).1]?) : Stands w' D A τ :=
  ⟨fun i p hp => (h.at_ i p hp).keep (hk i (List.getElem?_eq_some_iff.1 hp).1), h.dist, h.low⟩
theorem Stands.below {w w' : World} {D : Nat → Value} {A : Shp} {τ : Nat → Nat × Nat} (h : Stands w D A τ) (hb : Below w.heap.size w w') : Stands w' D A τ :=
  h.keep fun _ hi => hb.block _ (h.lt hi)
/-- closed facts on a shape -/
def shpOK (n : Nat) (A : Shp) : Bool := A.all fun p => p.2.all (within n A.length DP)
/-- what a run leaves -/
structure After' (A : Shp) (τ : Nat → Nat × Nat) (D : Nat → Value) (ids : List Nat) (picks : List (Option (TypeId × List Value))) (w : World) (τ' : Nat → Nat × Nat) (w' : World) : Prop where
  old : ∀ i, i < A.length → τ' i = τ i
  left : w'.os = w.os ∧ w'.tape = w.tape ∧ w'.output = w.output ∧ w.heap.size ≤ w'.heap.size
  block : ∀ b, b < w.heap.size → (∀ i, i < A.length → (τ i).1 ≠ b) → w'.heap[b]? = w.heap[b]?
  at_ : ∀ (k i : Nat) e l, ids[k]? = some i → picks[k]? = some (some (e, l)) → (l.all (okI DP)) = true → At w' (τ' i).1 (τ' i).2 e (l.map (im D τ'))
  fresh : ∀ (k i : Nat) e l, ids[k]? = some i → picks[k]? = some (some (e, l)) → A.length ≤ i → w.heap.size ≤ (τ' i).1
  inj : ∀ (k i k' i' : Nat) e l e' l', ids[k]? = some i → picks[k]? = some (some (e, l)) → ids[k']? = some i' → picks[k']? = some (some (e', l')) → (τ' i).1 = (τ' i').1 → i = i'
theorem runShapeS {P : Program} (hP : P.follows .mixedOrders = true) {fs ts : List Nat} {Tw : World → Prop} (D : Nat → Value) {n : Nat} (hD : ((List.range n).all fun i => (D i).oneCell') = true) {rules : List Rule} (hr : letI : Rho := ⟨D⟩; ∀ r ∈ rules, RuleOK P Tw r) {n0 : Nat} {S : Sums} (hSO : letI : Rho := ⟨D⟩; ∀ w0, (∀ w', Below w0.heap.size w0 w' → Tw w') → SOK (mkEnvS P fs ts rules Tw) P w0 S) {fuel d : Nat} {f : FuncId} {args : List Value} {A : Shp} {ids : List Nat} {v : Value} {picks : List (Option (TypeId × List Value))}
    (hA : shpOK n A = true) (hargsOK : (args.all (within n A.length DP)) = true) (htys : (A.all fun p => ((mkEnvS P fs ts rules Tw).types.get p.1).isSome) = true) (hv : okI DP v = true)
    (hrun : outS A.length (evCall (mkEnvS P fs ts rules Tw) S fuel d (.fn f) args (memA A)) ids = [(v, true, picks)]) {w : World} {τ : Nat → Nat × Nat} (hT : ∀ w', Below (bare n0 w).heap.size (bare n0 w) w' → Tw w') (hlow : ∀ i, i < A.length → n0 ≤ (τ i).1) (hS : Stands w D A τ) :
    Calls P f (args.map (im D τ)).toArray w fun e w' => ∃ τ', e = .returned (im D τ' v) ∧ After' A τ D ids picks w τ' w' := by
  letI : Rho := ⟨D⟩
  have hDi : ∀ i, i < n → (Rho.D i).oneCell' = true := fun i hi => List.all_eq_true.1 hD i (List.mem_range.2 hi)
  let B : Pls := (List.range A.length).map fun i => ((τ i).1, (τ i).2, ((A[i]?.map (·.2)).getD []).map (im D τ))
  have hB : ∀ (i : Nat) q, B[i]? = some q → ∃ p, A[i]? = some p ∧ q = ((τ i).1, (τ i).2, p.2.map (im D τ)) := fun i q hq => by
    have hi : i < A.length := by
      have := (List.getElem?_eq_some_iff.1 hq).1
      simpa [B] using this
    refine ⟨A[i], List.getElem?_eq_getElem hi, ?_⟩
    simp only [B, List.getElem?_map, List.getElem?_range hi, Option.map_some, Option.some.injEq, List.getElem?_eq_getElem hi, Option.getD_some] at hq
    exact hq.symm
  have hBlen : B.length = A.length := by simp [B]
  have hsg : ∀ {σ : Sg}, SgB σ B → ∀ i, i < A.length → ∃ x, σ i = some x ∧ x.b = (τ i).1 ∧ x.sh = (τ i).2 := fun {σ} h i hi => by
    obtain ⟨q, hq⟩ : ∃ q, B[i]? = some q := ⟨B[i]'(by rw [hBlen]; exact hi), List.getElem?_eq_getElem _⟩
    obtain ⟨x, hx, h1, h2⟩ := h i q hq
    obtain ⟨p, _, rfl⟩ := hB i q hq
    exact ⟨x, hx, h1, h2⟩
  have hrel : ∀ {σ : Sg}, SgB σ B → ∀ l : List Value, l.all (within n A.length DP) = true → VRL σ l (l.map (im D τ)) := fun {σ} h l => by
    induction l with
    | nil => intro _; exact VRL.nil σ
    | cons a l ih =>
      intro hl
      simp only [List.all_cons, Bool.and_eq_true] at hl
      exact VRL.cons (img_vr hDi (hsg h) DP a hl.1) (ih hl.2)
  have hI : InitOK (mkEnvS P fs ts rules Tw) w A B :=
    { len := hBlen.symm
      types := htys
      at_ := fun i p q hp hq => by
        obtain ⟨p', hp', rfl⟩ := hB i q hq
        rw [hp] at hp'; cases hp'
        exact ⟨hS.at_ i p hp, by simp⟩
      dist := fun i j q r hq hr h => by
        have hi : i < A.length := by rw [← hBlen]; exact (List.getElem?_eq_some_iff.1 hq).1
        have hj : j < A.length := by rw [← hBlen]; exact (List.getElem?_eq_some_iff.1 hr).1
        obtain ⟨_, _, rfl⟩ := hB i q hq
        obtain ⟨_, _, rfl⟩ := hB j r hr
        exact hS.dist i j hi hj h
      rel := fun σ hσ i p q hp hq => by
        obtain ⟨p', hp', rfl⟩ := hB i q hq
        rw [hp] at hp'; cases hp'
        exact hrel hσ p.2 (List.all_eq_true.1 hA p (List.mem_of_getElem? hp)) }
  refine (run_sym hP (mkEnvS_ok hr) (fun _ => Iff.rfl) hSO hrun hT (fun q hq => by
    obtain ⟨i, hi⟩ := List.getElem?_of_mem hq
    have hlt : i < A.length := by rw [← hBlen]; exact (List.getElem?_eq_some_iff.1 hi).1
    obtain ⟨_, _, rfl⟩ := hB i q hi
    exact hlow i hlt) hI (args' := (args.map (im D τ)).toArray) (fun σ hσ => by simpa using hrel hσ args hargsOK)).mono ?_
  rintro e w' ⟨v', σ', rfl, hR⟩
  have hpos : ∀ i x, σ' i = some x → posOfSg σ' i = (x.b, x.sh) := fun i x hx => by unfold posOfSg; rw [hx]
  have himg : ∀ {l l' : List Value}, VRL σ' l l' → l.all (okI DP) = true → l' = l.map (im D (posOfSg σ')) := fun {l} => by
    induction l with
    | nil => intro l' h _; exact List.eq_nil_of_length_eq_zero h.1.symm
    | cons a l ih =>
      intro l' h ho
      simp only [List.all_cons, Bool.and_eq_true] at ho
      cases l' with
      | nil => exact absurd h.1 (by simp)
      | cons b l' =>
        rw [img_of DP a b h.head ho.1, ih h.tail ho.2]
        rfl
  refine ⟨posOfSg σ', by rw [img_of DP v v' hR.val hv]; rfl, ?_⟩
  refine ⟨fun i hi => ?_, ⟨hR.left.os, hR.left.tape, hR.left.output, hR.left.size⟩, fun b hb hn => hR.left.block b hb (fun q hq e => ?_), fun k i e l hk hpk ho => ?_, fun k i e l hk hpk hi => ?_, fun k i k' i' e l e' l' hk hpk hk' hpk' hxy => ?_⟩
  · obtain ⟨x, hx, h1, h2⟩ := hsg hR.sg i hi
    rw [hpos i x hx, h1, h2]
  · obtain ⟨i, hi⟩ := List.getElem?_of_mem hq
    have hlt : i < A.length := by rw [← hBlen]; exact (List.getElem?_eq_some_iff.1 hi).1
    obtain ⟨_, _, rfl⟩ := hB i q hi
    exact hn i hlt e
  · obtain ⟨x, l', hx, hat, hvr⟩ := hR.lies k i e l hk hpk
    rw [hpos i x hx, ← himg hvr ho]
    exact hat
  · obtain ⟨x, l', hx, hat, hvr⟩ := hR.lies k i e l hk hpk
    rw [hpos i x hx]
    exact hR.fresh k i e l x hk hpk (by rw [hBlen]; exact hi) hx
  · obtain ⟨x, _, hx, _, _⟩ := hR.lies k i e l hk hpk
    obtain ⟨y, _, hy, _, _⟩ := hR.lies k' i' e' l' hk' hpk'
    rw [hpos i x hx, hpos i' y hy] at hxy
    exact hR.inj k i k' i' e l e' l' x y hk hpk hk' hpk' hx hy hxy
/-- the shape that stands behind a run -/
theorem runShape {P : Program} (hP : P.follows .mixedOrders = true) {fs ts : List Nat} {Tw : World → Prop} (D : Nat → Value) {n : Nat} (hD : ((List.range n).all fun i => (D i).oneCell') = true) {rules : List Rule} (hr : letI : Rho := ⟨D⟩; ∀ r ∈ rules, RuleOK P Tw r) {n0 : Nat} {pl : PureL} (hp : letI : Rho := ⟨D⟩; ∀ p ∈ pl, PureOK P Tw p) {fuel d : Nat} {f : FuncId} {args : List Value} {A : Shp} {ids : List Nat} {v : Value} {picks : List (Option (TypeId × List Value))}
    (hA : shpOK n A = true) (hargsOK : (args.all (within n A.length DP)) = true) (htys : (A.all fun p => ((mkEnvS P fs ts rules Tw).types.get p.1).isSome) = true) (hv : okI DP v = true)
    (hrun : outS A.length (evCall (mkEnvS P fs ts rules Tw) (pureS pl) fuel d (.fn f) args (memA A)) ids = [(v, true, picks)]) {w : World} {τ : Nat → Nat × Nat} (hT : ∀ w', Below (bare n0 w).heap.size (bare n0 w) w' → Tw w') (hlow : ∀ i, i < A.length → n0 ≤ (τ i).1) (hS : Stands w D A τ) :
    Calls P f (args.map (im D τ)).toArray w fun e w' => ∃ τ', e = .returned (im D τ' v) ∧ After' A τ D ids picks w τ' w' :=
  letI : Rho := ⟨D⟩
  runShapeS hP D hD hr (fun _ hT0 => pureS_ok (fun _ _ _ h => hT0 _ h.below) hp) hA hargsOK htys hv hrun hT hlow hS
theorem After'.stands {A : Shp} {τ : Nat → Nat × Nat} {D D' : Nat → Value} {ids : List Nat} {pk A' : Shp} {w w' : World} {τ' : Nat → Nat × Nat} (h : After' A τ D ids (pk.map some) w τ' w')
    (hlow : ∀ i, i < A.length → 1 ≤ (τ i).1) (hsz : 1 ≤ w.heap.size) (hok : (pk.all fun p => p.2.all (okI DP)) = true) (hnd : ids.Nodup) (hlen : ids.length = pk.length) (hmap : pk.map (fun p => (p.1, p.2.map (im D τ'))) = A'.map (fun p => (p.1, p.2.map (im D' fun k => τ' (ids.getD k 0))))) :
    Stands w' D' A' (fun k => τ' (ids.getD k 0)) := by
  have hl : pk.length = A'.length := by have := congrArg List.length hmap; simpa using this
  have hid : ∀ k, k < A'.length → ∃ i e l, ids[k]? = some i ∧ ids.getD k 0 = i ∧ pk[k]? = some (e, l) ∧ (pk.map some)[k]? = some (some (e, l)) := fun k hk => by
    have h1 : k < ids.length := by omega
    have h2 : k < pk.length := by omega
    refine ⟨ids[k], pk[k].1, pk[k].2, List.getElem?_eq_getElem h1, by simp [List.getD, h1], List.getElem?_eq_getElem h2, ?_⟩
    rw [List.getElem?_map, List.getElem?_eq_getElem h2]
    rfl
  refine ⟨fun k p hp => ?_, fun k j hk hj hkj => ?_, fun k hk => ?_⟩
  · have hk := (List.getElem?_eq_some_iff.1 hp).1
    obtain ⟨i, e, l, h1, h2, h3, h4⟩ := hid k hk
    have hat := h.at_ k i e l h1 h4 (List.all_eq_true.1 hok _ (List.mem_of_getElem? h3))
    have hm : (pk.map (fun p => (p.1, p.2.map (im D τ'))))[k]? = (A'.map (fun p => (p.1, p.2.map (im D' fun k => τ' (ids.getD k 0)))))[k]? := by rw [hmap]
    rw [List.getElem?_map, List.getElem?_map, h3, hp] at hm
    simp only [Option.map_some, Option.some.injEq, Prod.mk.injEq] at hm
    show At w' (τ' (ids.getD k 0)).1 (τ' (ids.getD k 0)).2 p.1 _
    rw [h2, ← hm.1, ← hm.2]
    exact hat
  · obtain ⟨i, e, l, h1, h2, h3, h4⟩ := hid k hk
    obtain ⟨i', e', l', h1', h2', h3', h4'⟩ := hid j hj
    have hkj' : (τ' (ids.getD k 0)).1 = (τ' (ids.getD j 0)).1 := hkj
    rw [h2, h2'] at hkj'
    have := h.inj k i j i' e l e' l' h1 h4 h1' h4' hkj'
    subst this
    exact (List.getElem?_inj (by omega) hnd).1 (h1.trans h1'.symm)
  · obtain ⟨i, e, l, h1, h2, h3, h4⟩ := hid k hk
    show 1 ≤ (τ' (ids.getD k 0)).1
    rw [h2]
    rcases Nat.lt_or_ge i A.length with h5 | h5
    · rw [h.old i h5]; exact hlow i h5
    · exact Nat.le_trans hsz (h.fresh k i e l h1 h4 h5)
theorem allR_nil {P : Program} {Tw : World → Prop} [Rho] : ∀ r ∈ ([] : List Rule), RuleOK P Tw r := fun _ h => by cases h
theorem allR_cons {P : Program} {Tw : World → Prop} [Rho] {r : Rule} {l : List Rule} (h : RuleOK P Tw r) (hl : ∀ s ∈ l, RuleOK P Tw s) : ∀ s ∈ r :: l, RuleOK P Tw s := fun s hs => by
  rcases List.mem_cons.1 hs with rfl | hs
  · exact h
  · exact hl s hs
theorem allP_nil {P : Program} {Tw : World → Prop} [Rho] : ∀ r ∈ ([] : PureL), PureOK P Tw r := fun _ h => by cases h
theorem allP_cons {P : Program} {Tw : World → Prop} [Rho] {r : FuncId × List Value × Value} {l : PureL} (h : PureOK P Tw r) (hl : ∀ s ∈ l, PureOK P Tw s) : ∀ s ∈ r :: l, PureOK P Tw s := fun s hs => by
  rcases List.mem_cons.1 hs with rfl | hs
  · exact h
  · exact hl s hs
theorem wrap_i64s {n : Int} (h0 : -9223372036854775808 ≤ n) (h1 : n ≤ 9223372036854775807) : IntKind.i64.wrap n = n := by
  rw [IntKind.wrap_i64]; omega
/-! ### rules, by closed facts -/
def okB [Rho] : Value → Bool
  | .complex .f32 30 i => (Rho.D i).oneCell'
  | v => simple v
theorem okB_ok [Rho] {v : Value} (h : okB v = true) : okC v := by
  unfold okB at h
  unfold okC
  split
  · exact h
  · rename_i h2
    split at h
    · exact absurd rfl (h2 _)
    · exact h
theorem rint {P : Program} {Tw : World → Prop} [Rho] (op : BinOp) {t u : TypeId} {a b r v : Value} {j k : IntKind} {x y : Int} (h0 : (okB a && okB b && okB r) = true) (hca : conc a = .int j x) (hcb : conc b = .int k y) (hcr : conc r = v) (h : binop (mkEnvS P [] [] []) op t (.int j x) (.int k y) = some v) (hs : simple v = true) :
    RuleOK P Tw ⟨(bcode op, t, u), [a, b], r⟩ := by
  simp only [Bool.and_eq_true] at h0
  exact rule_bin (mkEnvS_ok (Tw := fun _ => True) allR_nil) (okB_ok h0.1.1) (okB_ok h0.1.2) (okB_ok h0.2) (by rw [hca]; rfl) (by rw [hcb]; rfl) (by rw [hca]; exact fun h => by cases h) (by rw [hca, hcb, hcr]; exact h) (by rw [hcr]; exact hs)
theorem rconv {P : Program} {Tw : World → Prop} [Rho] {s d : TypeId} {a r : Value} {j k : IntKind} {n n' : Int} (h0 : (okB a && okB r) = true) (hca : conc a = .int j n) (hcr : conc r = .int k n') (ht : (match mkTI P s, mkTI P d with | some _, some td => (match td.desc with | .int k' => sameKind k' k | _ => false) | _, _ => false) = true) (h : k.wrap n = n') :
    RuleOK P Tw ⟨(1, s, d), [a], r⟩ := by
  simp only [Bool.and_eq_true] at h0
  refine rule_conv (E := mkEnvS P [] [s, d] []) (mkEnvS_ok (Tw := fun _ => True) allR_nil) (fun _ _ _ => trivial) (okB_ok h0.1) (okB_ok h0.2) hca hcr ?_ h
  split at ht
  · rename_i ts td h1 h2
    split at ht
    · rename_i k' hd
      have := kcode_inj ht
      subst this
      have g : ∀ q, (mkEnvS P [] [s, d] []).types.get q = (fillL (mkTI P) [s, d] .nil).get q := fun _ => rfl
      refine ⟨ts, td, ?_, ?_, hd⟩
      · rw [g]; simp only [fillL, h1, h2, T.get_set]
        by_cases e : d = s
        · subst e; rw [if_pos rfl, ← h2, h1]
        · simp [e]
      · rw [g]; simp [fillL, h1, h2, T.get_set]
    · cases ht
  · cases ht
/-! ### calls that turn nothing, at any values -/
theorem img_any {D : Nat → Value} {n : Nat} {τ τ2 : Nat → Nat × Nat} : ∀ (d : Nat) (v : Value), within n 0 d v = true → img D τ d v = img D τ2 d v := by
  intro d
  induction d with
  | zero => intro v h; cases h
  | succ d ih =>
    have arr : ∀ c : Array Value, c.toList.all (within n 0 d) = true → mapA (img D τ d) c = mapA (img D τ2 d) c := fun c h => by
      unfold mapA
      rw [List.map_congr_left fun x hx => ih x (List.all_eq_true.1 h x hx)]
    intro v h
    unfold within at h
    split at h
    · rfl
    · simp at h
    · simp only [Bool.and_eq_true] at h
      simp only [img, arr _ h.1, arr _ h.2]
    · simp only [img, arr _ h]
    · simp only [img, arr _ h]
    · simp only [img, ih _ h]
    · rename_i h1 h2 h3 h4 h5 h6
      unfold img
      split <;> first | rfl | exact absurd rfl (h1 _) | exact absurd rfl (h2 _ _) | exact absurd rfl (h3 _ _ _) | exact absurd rfl (h4 _) | exact absurd rfl (h5 _) | exact absurd rfl (h6 _ _)
theorem okI_of : ∀ (d : Nat) {n k : Nat} (v : Value), within n k d v = true → okI d v = true := by
  intro d
  induction d with
  | zero => intro n k v h; cases h
  | succ d ih =>
    have arr : ∀ {n k : Nat} (c : Array Value), c.toList.all (within n k d) = true → c.toList.all (okI d) = true := fun {n k} c h => List.all_eq_true.2 fun x hx => ih x (List.all_eq_true.1 h x hx)
    intro n k v h
    unfold within at h
    split at h
    · rfl
    · rfl
    · simp only [Bool.and_eq_true] at h
      simp only [okI, arr _ h.1, arr _ h.2, Bool.and_self]
    · simp only [okI, arr _ h]
    · simp only [okI, arr _ h]
    · simp only [okI, ih _ h]
    · rename_i h1 h2 h3 h4 h5 h6
      unfold okI
      split <;> first | rfl | exact h | exact absurd rfl (h1 _) | exact absurd rfl (h2 _ _) | exact absurd rfl (h3 _ _ _) | exact absurd rfl (h4 _) | exact absurd rfl (h5 _) | exact absurd rfl (h6 _ _)
theorem img_list [Rho] {σ : Sg} {d : Nat} : ∀ {l l' : List Value}, VRL σ l l' → l.all (okI d) = true → l' = l.map (img Rho.D (posOfSg σ) d)
  | [], l', h, _ => List.eq_nil_of_length_eq_zero h.1.symm
  | a :: l, [], h, _ => absurd h.1 (by simp)
  | a :: l, b :: l', h, ho => by
    simp only [List.all_cons, Bool.and_eq_true] at ho
    rw [img_of d a b h.head ho.1, img_list h.tail ho.2]
    rfl
/-- blocks nowhere -/
abbrev noTau : Nat → Nat × Nat := fun _ => (0, 0)
theorem pimg {P : Program} {Tw : World → Prop} {D : Nat → Value} {n : Nat} (hD : ((List.range n).all fun i => (D i).oneCell') = true) {f : FuncId} {as : List Value} {v : Value} (h0 : (as.all (within n 0 DP) && within n 0 DP v) = true) {args : Array Value} {r : Value} (ha : (as.map (im D noTau)).toArray = args) (hr : im D noTau v = r)
    (h : ∀ w, Tw w → Calls P f args w fun e w' => e = .returned r ∧ Below w.heap.size w w') : letI : Rho := ⟨D⟩; PureOK P Tw (f, as, v) := by
  letI : Rho := ⟨D⟩
  simp only [Bool.and_eq_true] at h0
  intro σ args' hl w hT
  have e1 := img_list (d := DP) hl (List.all_eq_true.2 fun x hx => okI_of DP x (List.all_eq_true.1 h0.1 x hx))
  have e2 : as.map (img Rho.D (posOfSg σ) DP) = as.map (im D noTau) := List.map_congr_left fun x hx => img_any (n := n) DP x (List.all_eq_true.1 h0.1 x hx)
  have e3 : args' = args := by rw [← ha]; exact Array.ext' (by rw [e1]; simpa using e2)
  rw [e3]
  refine (h w hT).mono ?_
  rintro e w' ⟨rfl, hb⟩
  refine ⟨r, rfl, ?_, hb⟩
  rw [← hr]
  exact img_vr (n := n) (k := 0) (fun i hi => List.all_eq_true.1 hD i (List.mem_range.2 hi)) (fun i hi => absurd hi (Nat.not_lt_zero _)) DP v h0.2
/-! ### numbers in a list; a step -/
def dl (L : List Value) : Nat → Value := fun i => L.getD i .nilIface
theorem img_ext {D D2 : Nat → Value} {n k : Nat} {τ : Nat → Nat × Nat} (h : ∀ i, i < n → D i = D2 i) : ∀ (d : Nat) (v : Value), within n k d v = true → img D τ d v = img D2 τ d v := by
  intro d
  induction d with
  | zero => intro v h; cases h
  | succ d ih =>
    have arr : ∀ c : Array Value, c.toList.all (within n k d) = true → mapA (img D τ d) c = mapA (img D2 τ d) c := fun c h => by
      unfold mapA
      rw [List.map_congr_left fun x hx => ih x (List.all_eq_true.1 h x hx)]
    intro v hv
    unfold within at hv
    split at hv
    · rename_i i
      exact h i (by simpa [Nat.blt_eq] using hv)
    · rfl
    · simp only [Bool.and_eq_true] at hv
      simp only [img, arr _ hv.1, arr _ hv.2]
    · simp only [img, arr _ hv]
    · simp only [img, arr _ hv]
    · simp only [img, ih _ hv]
    · rename_i h1 h2 h3 h4 h5 h6
      unfold img
      split <;> first | rfl | exact absurd rfl (h1 _) | exact absurd rfl (h2 _ _) | exact absurd rfl (h3 _ _ _) | exact absurd rfl (h4 _) | exact absurd rfl (h5 _) | exact absurd rfl (h6 _ _)
theorem Stands.more {w : World} {L : List Value} {A : Shp} {τ : Nat → Nat × Nat} (h : Stands w (dl L) A τ) (hA : shpOK L.length A = true) (X : List Value) : Stands w (dl (L ++ X)) A τ := by
  refine ⟨fun i p hp => ?_, h.dist, h.low⟩
  have he : p.2.map (im (dl (L ++ X)) τ) = p.2.map (im (dl L) τ) := List.map_congr_left fun x hx =>
    (img_ext (n := L.length) (k := A.length) (fun i hi => by simp only [dl, List.getD]; rw [List.getElem?_append_left hi]) DP x (List.all_eq_true.1 (List.all_eq_true.1 hA p (List.mem_of_getElem? hp)) x hx)).symm
  rw [he]
  exact h.at_ i p hp
/-- what a step keeps, and where the new shape lies -/
structure Moved (A : Shp) (τ : Nat → Nat × Nat) (w : World) (A' : Shp) (τ' : Nat → Nat × Nat) (w' : World) : Prop where
  os : w'.os = w.os
  tape : w'.tape = w.tape
  output : w'.output = w.output
  size : w.heap.size ≤ w'.heap.size
  block : ∀ b, b < w.heap.size → (∀ i, i < A.length → (τ i).1 ≠ b) → w'.heap[b]? = w.heap[b]?
  new : ∀ i, i < A'.length → (∃ j, j < A.length ∧ (τ' i).1 = (τ j).1) ∨ w.heap.size ≤ (τ' i).1
theorem After'.moved {A : Shp} {τ : Nat → Nat × Nat} {D : Nat → Value} {ids : List Nat} {pk A' : Shp} {w w' : World} {τ' : Nat → Nat × Nat} (h : After' A τ D ids (pk.map some) w τ' w') (hl1 : ids.length = pk.length) (hl2 : A'.length = pk.length) :
    Moved A τ w A' (fun k => τ' (ids.getD k 0)) w' := by
  refine ⟨h.left.1, h.left.2.1, h.left.2.2.1, h.left.2.2.2, h.block, fun k hk => ?_⟩
  have h1 : k < ids.length := by omega
  have h2 : k < pk.length := by omega
  have e : ids.getD k 0 = ids[k] := by simp [List.getD, h1]
  rw [e]
  rcases Nat.lt_or_ge ids[k] A.length with h3 | h3
  · exact .inl ⟨ids[k], h3, by rw [h.old _ h3]⟩
  · refine .inr (h.fresh k ids[k] pk[k].1 pk[k].2 (List.getElem?_eq_getElem h1) ?_ h3)
    rw [List.getElem?_map, List.getElem?_eq_getElem h2]; rfl
theorem bin_or [Rho] {E : Env} {t : TypeId} {k : IntKind} {a b r : Int} (h : bits .or k a b = r) : binop E .or t (.int k a) (.int k b) = some (.int k r) := by subst h; cases k <;> rfl
theorem bin_and [Rho] {E : Env} {t : TypeId} {k : IntKind} {a b r : Int} (h : bits .and k a b = r) : binop E .and t (.int k a) (.int k b) = some (.int k r) := by subst h; cases k <;> rfl
theorem bin_xor [Rho] {E : Env} {t : TypeId} {k : IntKind} {a b r : Int} (h : bits .xor k a b = r) : binop E .xor t (.int k a) (.int k b) = some (.int k r) := by subst h; cases k <;> rfl
theorem bin_andNot [Rho] {E : Env} {t : TypeId} {k : IntKind} {a b r : Int} (h : bits .andNot k a b = r) : binop E .andNot t (.int k a) (.int k b) = some (.int k r) := by subst h; cases k <;> rfl
theorem rneg {P : Program} {Tw : World → Prop} [Rho] {t u : TypeId} {a r : Value} {k : IntKind} {n n' : Int} (h0 : (okB a && okB r) = true) (hca : conc a = .int k n) (hcr : conc r = .int k n') (h : k.wrap (0 - n) = n') :
    RuleOK P Tw ⟨(30, t, u), [a], r⟩ := by
  simp only [Bool.and_eq_true] at h0
  intro o hk σ ρ' hv w _
  obtain ⟨x, ho⟩ := key_un (op := .neg) hk
  have hc := hv.conc (by intro z hz; simp at hz; subst hz; exact okB_ok h0.1)
  rw [ho] at hc
  simp only [Op.operands, List.map_cons, List.map_nil, List.cons.injEq, and_true] at hc
  refine ⟨conc r, ?_, VR.of_conc (okB_ok h0.2)⟩
  have e : execOp ρ' o = (do pure (.value (← Op.unary .neg (ρ' x)))) := by simp [execOp, ho]
  rw [e, show ρ' x = .int k n from hc.trans hca, hcr, ← h]
  rfl
theorem stands_nil (w : World) (D : Nat → Value) : Stands w D [] noTau := ⟨fun i p h => by simp at h, fun i j h => absurd h (Nat.not_lt_zero _), fun i h => absurd h (Nat.not_lt_zero _)⟩
/-- a call that looks at nothing that stands -/
theorem runPure {P : Program} (hP : P.follows .mixedOrders = true) {fs ts : List Nat} {Tw : World → Prop} (D : Nat → Value) {n : Nat} (hD : ((List.range n).all fun i => (D i).oneCell') = true) {rules : List Rule} (hr : letI : Rho := ⟨D⟩; ∀ r ∈ rules, RuleOK P Tw r) {pl : PureL} (hp : letI : Rho := ⟨D⟩; ∀ p ∈ pl, PureOK P Tw p) {fuel d : Nat} {f : FuncId} {args : List Value} {v : Value}
    (hargsOK : (args.all (within n 0 DP)) = true) (hv : within n 0 DP v = true)
    (hrun : outS 0 (evCall (mkEnvS P fs ts rules Tw) (pureS pl) fuel d (.fn f) args (memA [])) [] = [(v, true, [])]) {args' : Array Value} {r : Value} (ha : (args.map (im D noTau)).toArray = args') (hr' : im D noTau v = r) (w : World) (hT : ∀ w', Below w.heap.size w w' → Tw w') :
    Calls P f args' w fun e w' => e = .returned r ∧ Below w.heap.size w w' := by
  have eb : bare w.heap.size w = w := by simp [bare]
  have key := runShape hP D hD hr hp (A := []) (by rfl) hargsOK (by rfl) (okI_of DP v hv) hrun (n0 := w.heap.size) (w := w) (fun w' hb => hT w' (by rw [eb] at hb; exact hb)) (fun i hi => absurd hi (Nat.not_lt_zero _)) (stands_nil w D)
  rw [ha] at key
  refine key.mono ?_
  rintro e w' ⟨τ', rfl, h⟩
  refine ⟨?_, h.left.1, h.left.2.1, h.left.2.2.1, h.left.2.2.2, fun b hb => h.block b hb (fun i hi => absurd hi (Nat.not_lt_zero _))⟩
  rw [← hr']
  exact congrArg _ (img_any DP v hv)
theorem key_mm [Rho] {o : Oper} {mx : Bool} {a b : Nat} (h : opKey o = some (cond mx 7 6, a, b)) : ∃ c, o.op = .call c ∧ c.callee = .builtin (cond mx .max .min) := by
  have hk : cond mx 7 6 = 6 ∨ cond mx 7 6 = 7 := by cases mx <;> simp
  unfold opKey at h
  split at h
  · rename_i op' t' x y u' ho
    simp only [Option.some.injEq, Prod.mk.injEq] at h
    have := bcode_ge op'; omega
  · rename_i op' t' x ho
    simp only [Option.some.injEq, Prod.mk.injEq] at h
    have := ucode_ge op'; omega
  · simp only [Option.some.injEq, Prod.mk.injEq] at h; omega
  · simp only [Option.some.injEq, Prod.mk.injEq] at h; omega
  · simp only [Option.some.injEq, Prod.mk.injEq] at h; omega
  · simp only [Option.some.injEq, Prod.mk.injEq] at h; omega
  · simp only [Option.some.injEq, Prod.mk.injEq] at h; omega
  · simp only [Option.some.injEq, Prod.mk.injEq] at h; omega
  · simp only [Option.some.injEq, Prod.mk.injEq] at h; omega
  · simp only [Option.some.injEq, Prod.mk.injEq] at h; omega
  · simp only [Option.some.injEq, Prod.mk.injEq] at h; omega
  · rename_i c ho
    split at h <;> first
      | (cases mx <;> simp only [Option.some.injEq, Prod.mk.injEq, cond] at h <;> first | omega | exact ⟨c, ho, by assumption⟩)
      | cases h
  · cases h
theorem rmm {P : Program} {Tw : World → Prop} [Rho] (mx : Bool) {t u : TypeId} {a b r : Value} {k : IntKind} {x y z : Int} (h0 : (okB a && okB b && okB r) = true) (hca : conc a = .int k x) (hcb : conc b = .int k y) (hcr : conc r = .int k z) (h : cond mx (if y > x then y else x) (if y < x then y else x) = z) :
    RuleOK P Tw ⟨(cond mx 7 6, t, u), [a, b], r⟩ := by
  simp only [Bool.and_eq_true] at h0
  intro o hk σ ρ' hv w _
  obtain ⟨c, ho, hc⟩ := key_mm hk
  have hcc := hv.conc (by intro z hz; simp at hz; rcases hz with rfl | rfl <;> first | exact okB_ok h0.1.1 | exact okB_ok h0.1.2)
  rw [ho] at hcc
  have hops : c.operands = c.args := by cases mx <;> simp [Call.operands, hc]
  simp only [Op.operands, hops] at hcc
  obtain ⟨ox, oy, hargs⟩ : ∃ ox oy, c.args.toList = [ox, oy] := by
    match hl : c.args.toList, hcc with
    | [ox, oy], _ => exact ⟨ox, oy, rfl⟩
    | [], h => simp at h
    | [_], h => simp at h
    | _ :: _ :: _ :: _, h => simp at h
  rw [hargs] at hcc
  simp only [List.map_cons, List.map_nil, List.cons.injEq, and_true] at hcc
  classical
  have hx : ρ' ox = .int k x := hcc.1.trans hca
  have hy : ρ' oy = .int k y := hcc.2.trans hcb
  let ρ : Operand → Value := fun q => if q = ox ∨ q = oy then ρ' q else bad
  have hρ : ∀ q, VR (fun _ => none : Sg) (ρ q) (ρ' q) := fun q => by
    by_cases e : q = ox ∨ q = oy
    · simp only [ρ, if_pos e]
      rcases e with rfl | rfl
      · rw [hx]; exact .refl rfl
      · rw [hy]; exact .refl rfl
    · simp only [ρ, if_neg e]; exact .any _
  have hρx : ρ ox = .int k x := by simp only [ρ, true_or, if_true]; exact hx
  have hρy : ρ oy = .int k y := by simp only [ρ, or_true, if_true]; exact hy
  have hsk : sameKind k k = true := by cases k <;> rfl
  have hev : evOp0 (mkEnvS P [] [] []) ρ o ⟨0, .nil⟩ = [.val (.int k z)] := by
    unfold evOp0
    rw [ho]
    simp only [callA, hc]
    cases mx <;> simp only [cond, hargs, hρx, hρy, minmax, hsk, valO] at h ⊢ <;> rw [h]
  obtain ⟨out, hmem, hout⟩ := evOp0_sound (mkEnvS_ok (P := P) (fs := []) (ts := []) (Tw := fun _ => True) allR_nil) (MR.start _ w (fun _ _ => trivial)) hρ o (by rw [hev]; simp)
  rw [hev] at hmem
  obtain rfl : out = .val (.int k z) := by simpa using hmem
  obtain ⟨nx, v', hrun, hnx, hvr⟩ := hout
  obtain rfl := hvr.simple_inv rfl
  refine ⟨conc r, ?_, VR.of_conc (okB_ok h0.2)⟩
  rw [hcr, hrun]
  cases nx <;> first | (simp only [nextVal, Option.some.injEq] at hnx; subst hnx; rfl) | (simp only [nextVal, Option.some.injEq] at hnx; cases hnx) | (simp [nextVal] at hnx)
end
end Go.AS

/- Rules for what stands outside the shape: loads, places, lengths and parts of slices known by number. -/
namespace Go.AS
open Go.RowKit
theorem key_load [Rho] {o : Oper} {t u : Nat} (h : opKey o = some (40, t, u)) : ∃ x, o.op = .load t x := by
  unfold opKey at h
  split at h
  · rename_i op' t' x y u' ho
    simp only [Option.some.injEq, Prod.mk.injEq] at h
    have := bcode_ge op'; omega
  · rename_i op' t' x ho
    simp only [Option.some.injEq, Prod.mk.injEq] at h
    have := ucode_ge op'; omega
  all_goals first
    | (rename_i t' x ho; simp only [Option.some.injEq, Prod.mk.injEq] at h; obtain ⟨_, rfl, _⟩ := h; exact ⟨_, ho⟩)
    | (simp only [Option.some.injEq, Prod.mk.injEq] at h; omega)
    | (split at h <;> first | (simp only [Option.some.injEq, Prod.mk.injEq] at h; omega) | cases h)
    | cases h
theorem key_index [Rho] {o : Oper} {t u : Nat} (h : opKey o = some (41, t, u)) : ∃ x i, o.op = .indexAddr t x i := by
  unfold opKey at h
  split at h
  · rename_i op' t' x y u' ho
    simp only [Option.some.injEq, Prod.mk.injEq] at h
    have := bcode_ge op'; omega
  · rename_i op' t' x ho
    simp only [Option.some.injEq, Prod.mk.injEq] at h
    have := ucode_ge op'; omega
  all_goals first
    | (rename_i t' x i ho; simp only [Option.some.injEq, Prod.mk.injEq] at h; obtain ⟨_, rfl, _⟩ := h; exact ⟨_, _, ho⟩)
    | (simp only [Option.some.injEq, Prod.mk.injEq] at h; omega)
    | (split at h <;> first | (simp only [Option.some.injEq, Prod.mk.injEq] at h; omega) | cases h)
    | cases h
theorem key_nil [Rho] {o : Oper} {t u : Nat} (h : opKey o = some (45, t, u)) : ∃ x, o.op = .nilCheck x := by
  unfold opKey at h
  split at h
  · rename_i op' t' x y u' ho
    simp only [Option.some.injEq, Prod.mk.injEq] at h
    have := bcode_ge op'; omega
  · rename_i op' t' x ho
    simp only [Option.some.injEq, Prod.mk.injEq] at h
    have := ucode_ge op'; omega
  all_goals first
    | (rename_i x ho; simp only [Option.some.injEq, Prod.mk.injEq] at h; exact ⟨_, ho⟩)
    | (simp only [Option.some.injEq, Prod.mk.injEq] at h; omega)
    | (split at h <;> first | (simp only [Option.some.injEq, Prod.mk.injEq] at h; omega) | cases h)
    | cases h
theorem key_slice [Rho] {o : Oper} {t u : Nat} (h : opKey o = some (3, t, u)) : ∃ x l h' m, o.op = .slice t x l h' m ∧ mcode l h' m = u := by
  unfold opKey at h
  split at h
  · rename_i op' t' x y u' ho
    simp only [Option.some.injEq, Prod.mk.injEq] at h
    have := bcode_ge op'; omega
  · rename_i op' t' x ho
    simp only [Option.some.injEq, Prod.mk.injEq] at h
    have := ucode_ge op'; omega
  all_goals first
    | (rename_i t' x l h' m ho; simp only [Option.some.injEq, Prod.mk.injEq] at h; obtain ⟨_, rfl, h2⟩ := h; exact ⟨_, _, _, _, ho, h2⟩)
    | (simp only [Option.some.injEq, Prod.mk.injEq] at h; omega)
    | (split at h <;> first | (simp only [Option.some.injEq, Prod.mk.injEq] at h; omega) | cases h)
    | cases h
variable {P : Program} {Tw : World → Prop} [Rho]
/-- a value with no place in it stands for one value -/
theorem vr_flat {n : Nat} (hD : ((List.range n).all fun i => (Rho.D i).oneCell') = true) {r v : Value} (h : within n 0 DP r = true) (hv : im Rho.D noTau r = v) (σ : Sg) : VR σ r v := by
  rw [← hv]
  exact img_vr (fun i hi => List.all_eq_true.1 hD i (List.mem_range.2 hi)) (fun i hi => absurd hi (Nat.not_lt_zero _)) _ _ h
/-- a load at a place outside -/
theorem rload {n : Nat} (hD : ((List.range n).all fun i => (Rho.D i).oneCell') = true) {t : TypeId} {a r v : Value} {p : Addr} (h0 : (okB a && within n 0 DP r) = true) (hca : conc a = .pointer (some p)) (hv : im Rho.D noTau r = v) (h : ∀ w, Tw w → (loadVar t p).run P w = .ok v w) : RuleOK P Tw ⟨(40, t, 0), [a], r⟩ := by
  simp only [Bool.and_eq_true] at h0
  intro o hk σ ρ' hvl w hT
  obtain ⟨x, ho⟩ := key_load hk
  have hc := hvl.conc (by intro z hz; simp at hz; subst hz; exact okB_ok h0.1)
  rw [ho] at hc
  simp only [Op.operands, List.map_cons, List.map_nil, List.cons.injEq, and_true] at hc
  refine ⟨v, ?_, vr_flat hD h0.2 hv σ⟩
  have : execOp ρ' o = (do pure (.value (← Instr.loadAt t (ρ' x)))) := by simp [execOp, ho]
  rw [this, show ρ' x = .pointer (some p) from hc.trans hca]
  simp [Instr.loadAt, Instr.sureAddr, h w hT]
/-- the place of an element of a slice -/
theorem rindex {t e : TypeId} {ie : TypeInfo} (hu : P.underlying t = some (.slice e)) (hi : P.info? e = some ie) {a b r : Value} {ad : Addr} {n c : Nat} {k : IntKind} {j : Int} (h0 : (okB a && okB b && okB r) = true) (hca : conc a = .slice (some ad) n c) (hcb : conc b = .int k j) (hcr : conc r = .pointer (some (ad.add (j.toNat * ie.size)))) (hj : 0 ≤ j ∧ j < n) : RuleOK P Tw ⟨(41, t, 0), [a, b], r⟩ := by
  simp only [Bool.and_eq_true] at h0
  intro o hk σ ρ' hvl w hT
  obtain ⟨x, i, ho⟩ := key_index hk
  have hc := hvl.conc (by intro z hz; simp at hz; rcases hz with rfl | rfl <;> first | exact okB_ok h0.1.1 | exact okB_ok h0.1.2)
  rw [ho] at hc
  simp only [Op.operands, List.map_cons, List.map_nil, List.cons.injEq, and_true] at hc
  refine ⟨conc r, ?_, VR.of_conc (okB_ok h0.2)⟩
  have : execOp ρ' o = (do pure (.value (← Instr.indexAt t (ρ' x) (ρ' i)))) := by simp [execOp, ho]
  rw [this, show ρ' x = _ from hc.1.trans hca, show ρ' i = _ from hc.2.trans hcb, hcr]
  simp [Instr.indexAt, asIntOf, run_underlying hu, sizeOf, typeInfo, hi, hj]
/-- the length of a slice -/
theorem rlen {t u e : TypeId} (ht0 : t ≠ 0) (hu : P.underlying t = some (.slice e)) {a r : Value} {ad : Option Addr} {n c : Nat} (h0 : (okB a && okB r) = true) (hca : conc a = .slice ad n c) (hcr : conc r = .int .i64 n) : RuleOK P Tw ⟨(4, t, u), [a], r⟩ := by
  simp only [Bool.and_eq_true] at h0
  intro o hk σ ρ' hvl w hT
  obtain ⟨c', ho, ht, _, hcl⟩ := key_len hk
  have hcc := hvl.conc (by intro z hz; simp at hz; subst hz; exact okB_ok h0.1)
  rw [ho] at hcc
  have hops : c'.operands = c'.args := by simp [Call.operands, hcl]
  simp only [Op.operands, hops] at hcc
  obtain ⟨ox, hargs⟩ : ∃ ox, c'.args.toList = [ox] := by
    match hl : c'.args.toList, hcc with
    | [ox], _ => exact ⟨ox, rfl⟩
    | [], h => simp at h
    | _ :: _ :: _, h => simp at h
  rw [hargs] at hcc
  simp only [List.map_cons, List.map_nil, List.cons.injEq, and_true] at hcc
  have hx : ρ' ox = .slice ad n c := hcc.trans hca
  refine ⟨conc r, ?_, VR.of_conc (okB_ok h0.2)⟩
  rw [hcr]
  have hmap : c'.args.map ρ' = #[.slice ad n c] := by
    apply Array.ext'
    simp [hargs, hx]
  obtain ⟨tl, htl⟩ : ∃ tl, c'.argTypes.toList = t :: tl := by
    cases hl : c'.argTypes.toList with
    | nil => rw [hl] at ht; exact absurd ht.symm ht0
    | cons x l => rw [hl] at ht; exact ⟨l, by rw [show x = t from ht]⟩
  have hts : c'.argTypes[0]? = some t := by
    rw [← Array.getElem?_toList, htl]; rfl
  have e1 : execOp ρ' o = (do let d ← resolve ρ' c' o.type; invoke d.target d.args) := by simp [execOp, ho]
  rw [e1]
  simp only [resolve, hcl, Sem.run_bind, Sem.run_pure, Result.andThen_ok, invoke, builtin]
  simp [hmap, Builtin.len_, hts, run_underlying hu, goInt]
/-- a pointer that is not nil -/
theorem rnil {t u : Nat} {a : Value} {p : Addr} (h0 : okB a = true) (hca : conc a = .pointer (some p)) : RuleOK P Tw ⟨(45, t, u), [a], a⟩ := by
  intro o hk σ ρ' hvl w hT
  obtain ⟨x, ho⟩ := key_nil hk
  have hc := hvl.conc (by intro z hz; simp at hz; subst hz; exact okB_ok h0)
  rw [ho] at hc
  simp only [Op.operands, List.map_cons, List.map_nil, List.cons.injEq, and_true] at hc
  refine ⟨conc a, ?_, VR.of_conc (okB_ok h0)⟩
  have hx : ρ' x = .pointer (some p) := hc.trans hca
  have : execOp ρ' o = pure (.value (ρ' x)) := by simp [execOp, ho, hx]
  rw [this, hca, hx]; rfl
/-- a part of a slice -/
theorem rslice3 {t e : TypeId} {ie : TypeInfo} (hu : P.underlying t = some (.slice e)) (hi : P.info? e = some ie) {a b c r : Value} {ad : Option Addr} {n cp l h : Nat} {k k2 : IntKind} (h0 : (okB a && okB b && okB c && okB r) = true) (hca : conc a = .slice ad n cp) (hcb : conc b = .int k l) (hcc : conc c = .int k2 h) (hcr : conc r = .slice (if cp = l then ad else ad.map (·.add (l * ie.size))) (h - l) (cp - l)) (hl : l ≤ h) (hh : h ≤ cp) : RuleOK P Tw ⟨(3, t, 3), [a, b, c], r⟩ := by
  simp only [Bool.and_eq_true] at h0
  intro o hk σ ρ' hvl w hT
  obtain ⟨x, lo, hi', mx, ho, hm⟩ := key_slice hk
  have hc := hvl.conc (by intro z hz; simp at hz; rcases hz with rfl | rfl | rfl <;> first | exact okB_ok h0.1.1.1 | exact okB_ok h0.1.1.2 | exact okB_ok h0.1.2)
  rw [ho] at hc
  cases lo <;> cases hi' <;> cases mx <;> simp [mcode] at hm
  simp [Op.operands] at hc
  refine ⟨conc r, ?_, VR.of_conc (okB_ok h0.2)⟩
  have hb := run_bounds (P := P) (isS := true) (len := n) (cap := cp) (mx := none) (hi := some (.int k2 h)) (lo := some (.int k l)) (.inl ⟨rfl, rfl⟩) (.inr ⟨k2, rfl, hh⟩) (fun h => by cases h) (.inr ⟨k, rfl, hl⟩) w
  have hs := run_sliceAt hu hi (a := ad) hb
  rw [hcr]
  have : execOp ρ' o = (do pure (.value (← Instr.sliceAt t (.slice ad n cp) (some (.int k l)) (some (.int k2 h)) none))) := by simp [execOp, ho, hc.1.trans hca, hc.2.1.trans hcb, hc.2.2.trans hcc]
  rw [this]
  simp only [Sem.run_bind, hs]; rfl
theorem rslice1 {t e : TypeId} {ie : TypeInfo} (hu : P.underlying t = some (.slice e)) (hi : P.info? e = some ie) {a b r : Value} {ad : Option Addr} {n cp l : Nat} {k : IntKind} (h0 : (okB a && okB b && okB r) = true) (hca : conc a = .slice ad n cp) (hcb : conc b = .int k l) (hcr : conc r = .slice (if cp = l then ad else ad.map (·.add (l * ie.size))) (n - l) (cp - l)) (hl : l ≤ n) (_hn : n ≤ cp) : RuleOK P Tw ⟨(3, t, 1), [a, b], r⟩ := by
  simp only [Bool.and_eq_true] at h0
  intro o hk σ ρ' hvl w hT
  obtain ⟨x, lo, hi', mx, ho, hm⟩ := key_slice hk
  have hc := hvl.conc (by intro z hz; simp at hz; rcases hz with rfl | rfl <;> first | exact okB_ok h0.1.1 | exact okB_ok h0.1.2)
  rw [ho] at hc
  cases lo <;> cases hi' <;> cases mx <;> simp [mcode] at hm
  simp [Op.operands] at hc
  refine ⟨conc r, ?_, VR.of_conc (okB_ok h0.2)⟩
  have hb := run_bounds (P := P) (isS := true) (len := n) (cap := cp) (mx := none) (hi := none) (lo := some (.int k l)) (.inl ⟨rfl, rfl⟩) (.inl ⟨rfl, rfl⟩) (fun _ => rfl) (.inr ⟨k, rfl, hl⟩) w
  have hs := run_sliceAt hu hi (a := ad) hb
  rw [hcr]
  have : execOp ρ' o = (do pure (.value (← Instr.sliceAt t (.slice ad n cp) (some (.int k l)) none none))) := by simp [execOp, ho, hc.1.trans hca, hc.2.trans hcb]
  rw [this]
  simp only [Sem.run_bind, hs]; rfl
theorem rslice2 {t e : TypeId} {ie : TypeInfo} (hu : P.underlying t = some (.slice e)) (hi : P.info? e = some ie) {a c r : Value} {ad : Option Addr} {n cp h : Nat} {k2 : IntKind} (h0 : (okB a && okB c && okB r) = true) (hca : conc a = .slice ad n cp) (hcc : conc c = .int k2 h) (hcr : conc r = .slice (if cp = 0 then ad else ad.map (·.add (0 * ie.size))) (h - 0) (cp - 0)) (hh : h ≤ cp) : RuleOK P Tw ⟨(3, t, 2), [a, c], r⟩ := by
  simp only [Bool.and_eq_true] at h0
  intro o hk σ ρ' hvl w hT
  obtain ⟨x, lo, hi', mx, ho, hm⟩ := key_slice hk
  have hc := hvl.conc (by intro z hz; simp at hz; rcases hz with rfl | rfl <;> first | exact okB_ok h0.1.1 | exact okB_ok h0.1.2)
  rw [ho] at hc
  cases lo <;> cases hi' <;> cases mx <;> simp [mcode] at hm
  simp [Op.operands] at hc
  refine ⟨conc r, ?_, VR.of_conc (okB_ok h0.2)⟩
  have hb := run_bounds (P := P) (isS := true) (len := n) (cap := cp) (mx := none) (hi := some (.int k2 h)) (lo := none) (.inl ⟨rfl, rfl⟩) (.inr ⟨k2, rfl, hh⟩) (fun h => by cases h) (.inl ⟨rfl, rfl⟩) w
  have hs := run_sliceAt hu hi (a := ad) hb
  rw [hcr]
  have : execOp ρ' o = (do pure (.value (← Instr.sliceAt t (.slice ad n cp) none (some (.int k2 h)) none))) := by simp [execOp, ho, hc.1.trans hca, hc.2.trans hcc]
  rw [this]
  simp only [Sem.run_bind, hs]; rfl
/-! ### calls that only look, at rows of the shape -/
structure Rd where
  f : FuncId
  args : List Value
  reads : List (Nat × Nat × List Value)
  res : Value
noncomputable def rdIn (m : Mem) (q : Nat × Nat × List Value) : Bool := match m.t.get q.1 with
  | some (.row cells n _) => match Nat.ble (q.2.1 + q.2.2.length) n with
    | true => match cells.getL q.2.2.length q.2.1 with
      | some l => veqL 30 l q.2.2
      | none => false
    | false => false
  | _ => false
noncomputable def rdsIn (m : Mem) : List (Nat × Nat × List Value) → Bool
  | [] => true
  | q :: l => match rdIn m q with
    | true => rdsIn m l
    | false => false
noncomputable def rdS : List Rd → Sums → Sums
  | [], S, f, args, m => S f args m
  | r :: l, S, f, args, m => match Nat.beq r.f f with
    | true => match veqL 30 args r.args with
      | true => match rdsIn m r.reads with
        | true => some [(r.res, m)]
        | false => rdS l S f args m
      | false => rdS l S f args m
    | false => rdS l S f args m
def RdOK (P : Program) (Tw : World → Prop) (r : Rd) : Prop := ∀ (σ : Sg) (args' : Array Value), VRL σ r.args args'.toList → ∀ w, Tw w → (∀ q ∈ r.reads, ∃ x l', σ q.1 = some x ∧ VRL σ q.2.2 l' ∧ w.rangeAt x.b (x.sh + q.2.1) l') →
  Calls P r.f args' w fun e w' => ∃ v', e = .returned v' ∧ VR σ r.res v' ∧ Below w.heap.size w w'
theorem rdIn_sound {E : Env} {w0 w : World} {σ : Sg} {m : Mem} (h : MR E w0 σ m w) {q : Nat × Nat × List Value} (hq : rdIn m q = true) : ∃ x l', σ q.1 = some x ∧ VRL σ q.2.2 l' ∧ w.rangeAt x.b (x.sh + q.2.1) l' := by
  obtain ⟨b, o, l0⟩ := q
  unfold rdIn at hq
  split at hq
  · rename_i cells n e hg
    split at hq
    · rename_i hle
      have hle := Nat.le_of_ble_eq_true hle
      split at hq
      · rename_i l hl
        have hl0 := (veq_sound 30).2 _ _ hq
        subst hl0
        obtain ⟨x, ob, hx, _, _, _⟩ := h.obj b _ hg rfl
        obtain ⟨C, fz, _, hC, hnf, hsz, hn, _, hc⟩ := h.row hg hx
        obtain ⟨h1, h2⟩ := T.getL_spec hl
        simp only at hle
        refine ⟨x, (C.toList.drop (x.sh + o)).take l.length, hx, ?_, ?_⟩
        · refine VRL.of_getElem? (by simp; omega) (fun j u u' hu hu' => ?_)
          have hj : j < l.length := (List.getElem?_eq_some_iff.1 hu).1
          obtain ⟨a, a', ha, ha', hr⟩ := hc (o + j) (by omega)
          have := h2 j hj
          rw [this, hu] at ha
          rw [List.getElem?_take, if_pos hj, List.getElem?_drop] at hu'
          rw [← Array.getElem?_toList] at ha'
          rw [show x.sh + (o + j) = x.sh + o + j by omega, hu'] at ha'
          cases ha; cases ha'
          exact hr
        · intro j v hv
          have hj : j < l.length := by
            have := (List.getElem?_eq_some_iff.1 hv).1
            simp at this; omega
          rw [List.getElem?_take, if_pos hj, List.getElem?_drop] at hv
          simp only [World.cell?, hC]
          rw [← Array.getElem?_toList]
          exact hv
      · cases hq
    · cases hq
  · cases hq
theorem rdsIn_sound {E : Env} {w0 w : World} {σ : Sg} {m : Mem} (h : MR E w0 σ m w) : ∀ {l : List (Nat × Nat × List Value)}, rdsIn m l = true → ∀ q ∈ l, ∃ x l', σ q.1 = some x ∧ VRL σ q.2.2 l' ∧ w.rangeAt x.b (x.sh + q.2.1) l' := by
  intro l
  induction l with
  | nil => intro _ q hq; cases hq
  | cons p l ih =>
    intro hl q hq
    unfold rdsIn at hl
    split at hl
    · rename_i hp
      rcases List.mem_cons.1 hq with rfl | hq
      · exact rdIn_sound h hp
      · exact ih hl q hq
    · cases hl
theorem rdS_ok {E : Env} {w0 : World} {l : List Rd} {S : Sums} (hT : ∀ σ m w, MR E w0 σ m w → Tw w) (h : ∀ r ∈ l, RdOK P Tw r) (hS : SOK E P w0 S) : SOK E P w0 (rdS l S) := by
  induction l with
  | nil => exact hS
  | cons p l ih =>
    intro f args m r hs hne σ w args' hv hM
    have ih' := ih (fun q hq => h q (List.mem_cons_of_mem _ hq)) f args m r
    unfold rdS at hs
    split at hs
    · rename_i hg
      split at hs
      · rename_i ha
        split at hs
        · rename_i hrd
          cases hs
          have hg' := Nat.eq_of_beq_eq_true hg
          have ha' := (veq_sound 30).2 _ _ ha
          subst hg' ha'
          refine (h _ (List.mem_cons_self ..) σ args' hv w (hT σ m w hM) (rdsIn_sound hM hrd)).mono ?_
          rintro e w' ⟨v', rfl, hvr, hb⟩
          obtain ⟨hM', hF⟩ := hM.grown hb
          exact ⟨_, List.mem_cons_self .., σ, v', rfl, hF, hvr, hM'⟩
        · exact ih' hs hne σ w args' hv hM
      · exact ih' hs hne σ w args' hv hM
    · exact ih' hs hne σ w args' hv hM
/-- pure calls and calls that look, together -/
theorem sums_ok {E : Env} {rd : List Rd} {pl : PureL} (hET : ∀ w0, E.Tw w0 → ∀ w', Below w0.heap.size w0 w' → Tw w') (h : ∀ r ∈ rd, RdOK P Tw r) (hp : ∀ p ∈ pl, PureOK P Tw p) (w0 : World) : SOK E P w0 (rdS rd (pureS pl)) :=
  rdS_ok (fun _ _ _ hM => hET _ hM.t0 _ hM.below) h (pureS_ok (fun _ _ _ hM => hET _ hM.t0 _ hM.below) hp)
theorem allD_nil : ∀ r ∈ ([] : List Rd), RdOK P Tw r := fun _ h => by cases h
theorem allD_cons {r : Rd} {l : List Rd} (h : RdOK P Tw r) (hl : ∀ s ∈ l, RdOK P Tw s) : ∀ s ∈ r :: l, RdOK P Tw s := fun s hs => by
  rcases List.mem_cons.1 hs with rfl | hs
  · exact h
  · exact hl s hs
/-- of a contract at a slice wherever it lies -/
theorem rd_slice {f : FuncId} {b o n c : Nat} {cells cells' : List Value} {v v' : Value} (hc : cells.all okB = true) (hv : okB v = true) (ec : cells.map conc = cells') (ev : conc v = v') (h : ∀ bb oo cap w, Tw w → w.rangeAt bb oo cells' → Calls P f #[.slice (some ⟨bb, oo, none⟩) n cap] w fun e w' => e = .returned v' ∧ Below w.heap.size w w') : RdOK P Tw ⟨f, [.slice (some ⟨b, o, none⟩) n c], [(b, o, cells)], v⟩ := by
  subst ec ev
  intro σ args' hl w hT hr
  obtain ⟨x, l', hx, hvl, hrg⟩ := hr _ (List.mem_cons_self ..)
  have e1 := hvl.conc (fun a ha => okB_ok (List.all_eq_true.1 hc a ha))
  simp only at hrg hx hl
  have hlen : args'.toList.length = 1 := hl.1.symm
  obtain ⟨u, hu⟩ : ∃ u, args'.toList = [u] := by
    match args'.toList, hlen with
    | [u], _ => exact ⟨u, rfl⟩
  rw [hu] at hl
  obtain ⟨i, o', y, c', h1, h2, hy, _, _⟩ : ∃ i o' y c', (some (⟨b, o, none⟩ : Addr)) = some ⟨i, o', none⟩ ∧ u = .slice (some ⟨y.b, y.sh + o', none⟩) n c' ∧ σ i = some y ∧ True ∧ True := by
    rcases (hl.head).slice_inv with ⟨h1, _⟩ | ⟨i, o', y, c', h1, h2, h3, _, _⟩
    · cases h1
    · exact ⟨i, o', y, c', h1, h2, h3, trivial, trivial⟩
  cases h1
  rw [hx] at hy
  cases hy
  have ea : args' = #[.slice (some ⟨x.b, x.sh + o, none⟩) n c'] := Array.ext' (by rw [hu, h2])
  subst ea
  rw [e1] at hrg
  refine (h x.b (x.sh + o) c' w hT hrg).mono ?_
  rintro e w' ⟨rfl, hb⟩
  exact ⟨_, rfl, VR.of_conc (okB_ok hv), hb⟩
omit [Rho] in
theorem runPureS {P : Program} (hP : P.follows .mixedOrders = true) {fs ts : List Nat} {Tw : World → Prop} (D : Nat → Value) {n : Nat} (hD : ((List.range n).all fun i => (D i).oneCell') = true) {rules : List Rule} (hr : letI : Rho := ⟨D⟩; ∀ r ∈ rules, RuleOK P Tw r) {S : Sums} (hSO : letI : Rho := ⟨D⟩; ∀ w0, (∀ w', Below w0.heap.size w0 w' → Tw w') → SOK (mkEnvS P fs ts rules Tw) P w0 S) {fuel d : Nat} {f : FuncId} {args : List Value} {v : Value}
    (hargsOK : (args.all (within n 0 DP)) = true) (hv : within n 0 DP v = true)
    (hrun : outS 0 (evCall (mkEnvS P fs ts rules Tw) S fuel d (.fn f) args (memA [])) [] = [(v, true, [])]) {args' : Array Value} {r : Value} (ha : (args.map (im D noTau)).toArray = args') (hr' : im D noTau v = r) (w : World) (hT : ∀ w', Below w.heap.size w w' → Tw w') :
    Calls P f args' w fun e w' => e = .returned r ∧ Below w.heap.size w w' := by
  have eb : bare w.heap.size w = w := by simp [bare]
  have key := runShapeS hP D hD hr hSO (A := []) (by rfl) hargsOK (by rfl) (okI_of DP v hv) hrun (n0 := w.heap.size) (w := w) (fun w' hb => hT w' (by rw [eb] at hb; exact hb)) (fun i hi => absurd hi (Nat.not_lt_zero _)) (stands_nil w D)
  rw [ha] at key
  refine key.mono ?_
  rintro e w' ⟨τ', rfl, h⟩
  refine ⟨?_, h.left.1, h.left.2.1, h.left.2.2.1, h.left.2.2.2, fun b hb => h.block b hb (fun i hi => absurd hi (Nat.not_lt_zero _))⟩
  rw [← hr']
  exact congrArg _ (img_any DP v hv)
omit [Rho] in
/-- a run that begins with nothing of its own: what comes back, and the rows it leaves -/
theorem runVal {P : Program} (hP : P.follows .mixedOrders = true) {fs ts : List Nat} {Tw : World → Prop} (D : Nat → Value) {n : Nat} (hD : ((List.range n).all fun i => (D i).oneCell') = true) {rules : List Rule} (hr : letI : Rho := ⟨D⟩; ∀ r ∈ rules, RuleOK P Tw r) {S : Sums} (hSO : letI : Rho := ⟨D⟩; ∀ w0, (∀ w', Below w0.heap.size w0 w' → Tw w') → SOK (mkEnvS P fs ts rules Tw) P w0 S) {fuel d : Nat} {f : FuncId} {args : List Value} {v : Value} {ids : List Nat} {picks : List (Option (TypeId × List Value))}
    (hargsOK : (args.all (within n 0 DP)) = true) (hrun : outS 0 (evCall (mkEnvS P fs ts rules Tw) S fuel d (.fn f) args (memA [])) ids = [(v, true, picks)]) {args' : Array Value} (ha : (args.map (im D noTau)).toArray = args') (w : World) (hT : ∀ w', Below w.heap.size w w' → Tw w') :
    letI : Rho := ⟨D⟩; Calls P f args' w fun e w' => ∃ v' σ, e = .returned v' ∧ Ran [] ids picks v w v' σ w' := by
  letI : Rho := ⟨D⟩
  have hDi : ∀ i, i < n → (Rho.D i).oneCell' = true := fun i hi => List.all_eq_true.1 hD i (List.mem_range.2 hi)
  have eb : bare w.heap.size w = w := by simp [bare]
  have hI : InitOK (mkEnvS P fs ts rules Tw) w [] [] :=
    { len := rfl
      types := rfl
      at_ := fun i p q hp _ => by simp at hp
      dist := fun i j q r hq _ _ => by simp at hq
      rel := fun σ _ i p q hp _ => by simp at hp }
  subst ha
  refine run_sym hP (mkEnvS_ok hr) (fun _ => Iff.rfl) hSO (A := []) hrun (n0 := w.heap.size) (fun w' hb => hT w' (by rw [eb] at hb; exact hb)) (fun q hq => by cases hq) hI (fun σ _ => ?_)
  have : ∀ l : List Value, l.all (within n 0 DP) = true → VRL σ l (l.map (im D noTau)) := fun l => by
    induction l with
    | nil => intro _; exact VRL.nil σ
    | cons a l ih =>
      intro hl
      simp only [List.all_cons, Bool.and_eq_true] at hl
      exact VRL.cons (img_vr hDi (fun i hi => absurd hi (Nat.not_lt_zero _)) DP a hl.1) (ih hl.2)
  simpa using this args hargsOK
/-- a part of a row of single cells, its bounds as numbers with a sign -/
theorem rsliceI3 {t e : TypeId} {ie : TypeInfo} (hu : P.underlying t = some (.slice e)) (hi : P.info? e = some ie) (hs : ie.size = 1) {a b c r : Value} {bb bo n cp : Nat} {lo hi' : Int} {k k2 : IntKind} (h0 : (okB a && okB b && okB c && okB r) = true) (hca : conc a = .slice (some ⟨bb, bo, none⟩) n cp) (hcb : conc b = .int k lo) (hcc : conc c = .int k2 hi') (hcr : conc r = .slice (some ⟨bb, bo + lo.toNat, none⟩) (hi'.toNat - lo.toNat) (cp - lo.toNat)) (hl : 0 ≤ lo ∧ lo ≤ hi') (hh : hi' ≤ cp) (hlt : lo < cp) : RuleOK P Tw ⟨(3, t, 3), [a, b, c], r⟩ := by
  obtain ⟨l, rfl⟩ := Int.eq_ofNat_of_zero_le hl.1
  obtain ⟨h, rfl⟩ := Int.eq_ofNat_of_zero_le (Int.le_trans hl.1 hl.2)
  refine rslice3 (ad := some ⟨bb, bo, none⟩) (n := n) (cp := cp) (l := l) (h := h) hu hi h0 hca hcb hcc ?_ (by omega) (by omega)
  rw [hcr, if_neg (by omega)]
  simp [hs, Addr.add_mid]
theorem rsliceI1 {t e : TypeId} {ie : TypeInfo} (hu : P.underlying t = some (.slice e)) (hi : P.info? e = some ie) (hs : ie.size = 1) {a b r : Value} {bb bo n cp : Nat} {lo : Int} {k : IntKind} (h0 : (okB a && okB b && okB r) = true) (hca : conc a = .slice (some ⟨bb, bo, none⟩) n cp) (hcb : conc b = .int k lo) (hcr : conc r = .slice (some ⟨bb, bo + lo.toNat, none⟩) (n - lo.toNat) (cp - lo.toNat)) (hl : 0 ≤ lo ∧ lo ≤ n) (hn : n ≤ cp) (hlt : lo < cp) : RuleOK P Tw ⟨(3, t, 1), [a, b], r⟩ := by
  obtain ⟨l, rfl⟩ := Int.eq_ofNat_of_zero_le hl.1
  refine rslice1 (ad := some ⟨bb, bo, none⟩) (n := n) (cp := cp) (l := l) hu hi h0 hca hcb ?_ (by omega) hn
  rw [hcr, if_neg (by omega)]
  simp [hs, Addr.add_mid]
/-- the place of an element of a row of single cells -/
theorem rindexI {t e : TypeId} {ie : TypeInfo} (hu : P.underlying t = some (.slice e)) (hi : P.info? e = some ie) {sz : Nat} (hs : ie.size = sz) {a b r : Value} {bb bo oo n c : Nat} {k : IntKind} {j : Int} (h0 : (okB a && okB b && okB r) = true) (hca : conc a = .slice (some ⟨bb, bo, none⟩) n c) (hcb : conc b = .int k j) (hcr : conc r = .pointer (some ⟨bb, oo, none⟩)) (ho : bo + j.toNat * sz = oo) (hj : 0 ≤ j ∧ j < n) : RuleOK P Tw ⟨(41, t, 0), [a, b], r⟩ := by
  refine rindex (ad := ⟨bb, bo, none⟩) hu hi h0 hca hcb ?_ hj
  rw [hcr, ← ho, hs, Addr.add_mid]
/-- a load of a single cell outside -/
theorem rload1 {n : Nat} (hD : ((List.range n).all fun i => (Rho.D i).oneCell') = true) {t : TypeId} {d : TypeDesc} (hu : P.underlying t = some d) (hd : d.isRow = false) {a r v : Value} {p : Addr} (h0 : (okB a && within n 0 DP r) = true) (hca : conc a = .pointer (some p)) (hv : im Rho.D noTau r = v) (h : ∀ w, Tw w → w.cell? p = some v) : RuleOK P Tw ⟨(40, t, 0), [a], r⟩ := by
  refine rload hD h0 hca hv (fun w hT => ?_)
  have hagg : (isAgg t).run P w = .ok false w := by
    unfold isAgg
    rw [Sem.run_bind, run_underlying hu w]
    cases d <;> simp_all [TypeDesc.isRow]
  have hc := h w hT
  simp [loadVar, Sem.run_bind, hagg, hc, go_sem]
/-- a load of a struct or an array outside -/
theorem rloadN {n : Nat} (hD : ((List.range n).all fun i => (Rho.D i).oneCell') = true) {t : TypeId} {d : TypeDesc} (hu : P.underlying t = some d) (hd : d.isRow = true) {a r : Value} {bb oo : Nat} {cs : List Value} (hi : (P.info? t).map (·.size) = some cs.length) (h0 : (okB a && within n 0 DP r) = true) (hca : conc a = .pointer (some ⟨bb, oo, none⟩)) (hv : im Rho.D noTau r = .agg cs.toArray) (h : ∀ w, Tw w → w.rangeAt bb oo cs) : RuleOK P Tw ⟨(40, t, 0), [a], r⟩ :=
  rload hD h0 hca hv (fun w hT => run_loadVar_mid w bb oo t cs d (h w hT) hu hd hi)
/-- one struct or array against its like: not unequal -/
theorem rneqA {n : Nat} {t u : TypeId} {a b r : Value} {A : Array Value} (h0 : (within n 0 DP a && within n 0 DP b && okB r) = true) (hg : P.eqGuardType P.depth t = false) (heq : ∀ w, (Op.equal t (.agg A) (.agg A)).run P w = .ok true w) (ha : im Rho.D noTau a = .agg A) (hb : im Rho.D noTau b = .agg A) (hr : conc r = .bool false) : RuleOK P Tw ⟨(22, t, u), [a, b], r⟩ := by
  simp only [Bool.and_eq_true] at h0
  intro o hk σ ρ' hv w hT
  obtain ⟨x, y, ho⟩ := key_bin (op := .neq) hk
  rw [ho] at hv
  simp only [Op.operands, List.map_cons, List.map_nil] at hv
  have hx : ρ' x = .agg A := by rw [img_of DP a _ hv.head (okI_of DP a h0.1.1), img_any (τ2 := noTau) DP a h0.1.1]; exact ha
  have hy : ρ' y = .agg A := by rw [img_of DP b _ hv.tail.head (okI_of DP b h0.1.2), img_any (τ2 := noTau) DP b h0.1.2]; exact hb
  refine ⟨conc r, ?_, VR.of_conc (okB_ok h0.2)⟩
  rw [hr]
  have : execOp ρ' o = (do pure (.value (← (do eqGuard .neq t x y (ρ' x) (ρ' y); Go.binOp .neq t (ρ' x) (ρ' y))))) := by simp [execOp, ho]
  rw [this, hx, hy]
  simp [eqGuard, Go.binOp, hg, heq, Sem.run_bind, go_sem]
end Go.AS

/- The evaluator, made fast for the kernel: code is turned into instructions first; all cases are closed terms. It says what the evaluator says. -/
namespace Go.AS
noncomputable section
/-! ### operands -/
inductive Opd where | tmp (p : Pos) | val (v : Value)
def opdOf (x : Operand) : Opd := @Operand.rec (fun _ => Opd) (fun i => .tmp (posOf i)) (fun v => .val (cst v)) (fun _ => .val bad) (fun f => .val (.func (.func f) #[] #[])) x
def dS (v : Value) : Value := v
def optD (o : Option Value) : Value := @Option.rec Value (fun _ => Value) und dS o
def opT (p : Pos) (t : T Value) : Value := optD (t.getP p)
def opV (v : Value) (_ : T Value) : Value := v
def Opd.ev (x : Opd) (t : T Value) : Value := @Opd.rec (fun _ => T Value → Value) opT opV x t
theorem opdOf_ev (x : Operand) (t : T Value) : (opdOf x).ev t = evalT t x := by
  cases x with
  | tmp i =>
    show optD (t.getP (posOf i)) = match t.get i with | some v => v | none => und
    rw [T.getP_of]
    cases t.get i <;> rfl
  | _ => rfl
def dstOf (N : Nat) (d : Option Tmp) : Option Pos := match d with | none => none | some i => match Nat.blt i N with | true => some (posOf i) | false => none
def pN (t : T Value) (_ : Value) : T Value := t
def pS (p : Pos) (t : T Value) (v : Value) : T Value := t.setP p v
def putP (t : T Value) (d : Option Pos) (v : Value) : T Value := @Option.rec Pos (fun _ => T Value → Value → T Value) pN pS d t v
theorem putP_eq (N : Nat) (t : T Value) (d : Option Tmp) (v : Value) : putP t (dstOf N d) v = put N t d v := by
  cases d with
  | none => rfl
  | some i =>
    show putP t (match Nat.blt i N with | true => some (posOf i) | false => none) v = match Nat.blt i N with | true => t.set i v | false => t
    cases Nat.blt i N with
    | false => rfl
    | true => exact T.setP_of t i v
/-! ### values, taken apart -/
abbrev RT := List (T Value × Mem)
abbrev KT := T Value → Mem → RT
section
variable {γ : Type} (b : Bool → Option γ) (i : IntKind → Int → Option γ) (p : Option Addr → Option γ) (u : Array Value → Option γ)
def vFl (_ : FloatKind) (_ : Nat) : Option γ := none
def vCx (_ : FloatKind) (_ _ : Nat) : Option γ := none
def vSt (_ : ByteArray) : Option γ := none
def vSl (_ : Option Addr) (_ _ : Nat) : Option γ := none
def vOn (_ : Option Nat) : Option γ := none
def vFn (_ : Fn) (_ _ : Array Value) (_ _ : Unit) : Option γ := none
def vIf (_ : TypeId) (_ : Value) (_ : Option γ) : Option γ := none
def vAg (_ : Array Value) (_ : Unit) : Option γ := none
def vTu (a : Array Value) (_ : Unit) : Option γ := u a
def vAr (_ : List Value) (_ : Unit) : Unit := ()
def vCo (_ : Value) (_ : List Value) (_ : Option γ) (_ : Unit) : Unit := ()
def pick4 (v : Value) : Option γ :=
  @Value.rec (fun _ => Option γ) (fun _ => Unit) (fun _ => Unit) b i vFl vCx vSt p vSl vOn vOn vFn none vIf none vAg (vTu u) vAr () vCo v
end
def no1 {α γ : Type} (_ : α) : Option γ := none
def no2 {α β γ : Type} (_ : α) (_ : β) : Option γ := none
def idO (a : Option Addr) : Option Addr := a
def mkP (k : IntKind) (n : Int) : Option (IntKind × Int) := some (k, n)
def asPtr (v : Value) : Option Addr := pick4 no1 no2 idO no1 v
def asInt (v : Value) : Option (IntKind × Int) := pick4 no1 mkP no1 no1 v
def asBool (v : Value) : Option Bool := pick4 some no2 no1 no1 v
def asTup (v : Value) : Option (Array Value) := pick4 no1 no2 no1 some v
/-! ### operations, each under a name -/
abbrev OF := Env → Oper → T Value → Mem → List Out
def oNone (_ : Env) (_ : Oper) (_ : T Value) (_ : Mem) : List Out := []
def oMove (x : Operand) : OF := fun _ _ t _ => [.val (evalT t x)]
def oPick (c a b : Operand) : OF := fun _ _ t _ => match evalT t c with
    | .bool q => [.val (cond q (evalT t a) (evalT t b))]
    | .complex .f32 1 0 => [.val (evalT t a), .val (evalT t b)]
    | _ => []
def oAlloc (ty : TypeId) : OF := fun E _ _ _ => match E.types.get ty with
    | some ti => [.new (newRow ty ti.zero) .ptr]
    | none => []
def oBox (ty : TypeId) (x : Operand) : OF := fun E _ t _ => match E.types.get ty, isBad (evalT t x) with
    | some _, false => [.new (newRow ty (cellsOf (evalT t x))) .ptr]
    | _, _ => []
def oBuild (ty : TypeId) (parts : Array (Nat × Operand)) : OF := fun E _ t _ => valO (buildA E ty (parts.toList.map fun p => (p.1, evalT t p.2)))
def oBuildS (ty : TypeId) (len : Nat) (parts : Array (Nat × Operand)) : OF := fun E _ t _ => ofO (buildSliceA E ty len (parts.toList.map fun p => (p.1, evalT t p.2)))
def oUpd (ty : TypeId) (x k v : Operand) : OF := fun E _ t m => match mapUpdateA E ty (evalT t x) (evalT t k) (evalT t v) m with
    | some m' => [.eff und m']
    | none => []
def lP (ty : TypeId) (m : Mem) (E : Env) (a : Addr) : List Out := valO (loadAt E ty a m)
def oLoad (ty : TypeId) (x : Operand) : OF := fun E _ t m => match asPtr (evalT t x) with
    | some a => valO (loadAt E ty a m)
    | none => []
def oStore (ty : TypeId) (a x : Operand) : OF := fun E _ t m => match storeA E ty (evalT t a) (evalT t x) m with
    | some m' => [.eff und m']
    | none => []
def oNil (x : Operand) : OF := fun E _ t _ => match evalT t x with
    | .pointer (some a) => [.val (.pointer (some a))]
    | .func (.func g) a b => [.val (.func (.func g) a b)]
    | .func (.method name) a b => match a.toList with
      | .iface t v :: _ => match methodA E t name v with
        | some _ => [.val (.func (.method name) a b)]
        | none => []
      | _ => []
    | .iface t v => [.val (.iface t v)]
    | .complex .f32 7 i => [.val (yld i)]
    | _ => []
def oBin (op : BinOp) (ty : TypeId) (x y : Operand) (_ : TypeId) : OF := fun E _ t _ => valO (binopC E op ty (isConst x || isConst y) (evalT t x) (evalT t y))
def oUn (op : UnOp) (_ : TypeId) (x : Operand) : OF := fun _ _ t _ => match op, evalT t x with
    | .not, .bool b => [.val (.bool !b)]
    | .not, .complex .f32 1 0 => [.val topB]
    | .neg, .int k n => [.val (.int k (k.wrap (0 - n)))]
    | .xor, .int k n => valO (intBin .xor k (if k.signed then -1 else k.max) n)
    | _, _ => []
def oConv (src dst : TypeId) (x : Operand) : OF := fun E _ t m => ofO (convertA E src dst (evalT t x) m)
def oIface (ty : TypeId) (x : Operand) : OF := fun E _ t _ => match E.types.get ty with
    | some ti => match isIface ti.desc with
      | false => [.val (.iface ty (evalT t x))]
      | true => []
    | none => []
def oFunc (fn : Fn) (first captured : Array Operand) : OF := fun _ _ t _ => [.val (.func fn (first.map (evalT t)) (captured.map (evalT t)))]
def oMap (_ : TypeId) (r : Option Operand) : OF := fun _ _ _ _ => match r with
    | none => [.new (.map [] 0) .map]
    | some _ => []
def oMkS (ty : TypeId) (l c : Operand) : OF := fun E _ t _ => ofO (makeSliceA E ty (evalT t l) (evalT t c))
def oSlice (ty : TypeId) (x : Operand) (lo hi mx : Option Operand) : OF := fun E _ t m => sliceA E ty (evalT t x) (lo.map (evalT t)) (hi.map (evalT t)) (mx.map (evalT t)) m
def oFA (ty : TypeId) (x : Operand) (f : Nat) : OF := fun E _ t _ => valO (fieldAddrA E ty (evalT t x) f)
def oF (ty : TypeId) (x : Operand) (f : Nat) : OF := fun E _ t _ => valO (fieldA E ty (evalT t x) f)
def oIA (ty : TypeId) (x i : Operand) : OF := fun E _ t _ => valO (indexAddrA E ty (evalT t x) (evalT t i))
def oI (ty : TypeId) (x i : Operand) : OF := fun E _ t _ => valO (indexA E ty (evalT t x) (evalT t i))
def oLook (ty : TypeId) (x k : Operand) (ok : Bool) : OF := fun E _ t m => valO (lookupA E ty (evalT t x) (evalT t k) ok m)
def oRange (ty : TypeId) (x : Operand) : OF := fun E _ t m => ofO (rangeA E ty (evalT t x) m)
def oNext (x : Operand) (s : Bool) : OF := fun _ _ t m => nextA (evalT t x) s m
def oEntry (x : Operand) : OF := fun _ _ t m => valO (entryA (evalT t x) m)
def oTA (x : Operand) (_ asserted : TypeId) (ok : Bool) : OF := fun E _ t _ => valO (assertA E asserted (evalT t x) ok)
def oEx (x : Operand) (i : Nat) : OF := fun _ _ t _ => match asTup (evalT t x) with
    | some vs => match vs.toList[i]? with
      | some v => [.val v]
      | none => []
    | none => []
/-! calls -/
def cLen (c : Call) (E : Env) (t : T Value) (m : Mem) : List Out := match c.argTypes.toList, c.args.toList with
    | [ty], [x] => valO (lenA E ty (evalT t x) m)
    | _, _ => []
def cVal (f : Operand) (c : Call) (E : Env) (t : T Value) (m : Mem) : List Out := match evalT t f with
    | .func (.func g) first cap => match E.funcs.get g with
      | some _ => [.enter (.fn g) (first.toList ++ c.args.toList.map (evalT t) ++ cap.toList)]
      | none => match E.exts.get g with
        | some x => ofO (extA x (first.toList ++ c.args.toList.map (evalT t) ++ cap.toList) m)
        | none => []
    | .func (.method name) first _ => match first.toList with
      | .iface ty v :: r => match methodA E ty name v with
        | some (g, u) => match E.funcs.get g with
          | some _ => [.enter (.fn g) (u :: (r ++ c.args.toList.map (evalT t)))]
          | none => []
        | none => []
      | _ => []
    | .complex .f32 7 i => [.enter (.yld i) (c.args.toList.map (evalT t))]
    | _ => []
def cInv (r : Operand) (name : String) (c : Call) (E : Env) (t : T Value) (_ : Mem) : List Out := match evalT t r with
    | .iface ty v => match methodA E ty name v with
      | some (g, u) => match E.funcs.get g with
        | some _ => [.enter (.fn g) (u :: c.args.toList.map (evalT t))]
        | none => []
      | none => []
    | _ => []
def isLen : Builtin → Bool
  | .len => true
  | _ => false
def cBl (b : Builtin) (c : Call) (E : Env) (t : T Value) (m : Mem) : List Out := match isLen b with
  | true => cLen c E t m
  | false => callA E (evalT t) c m
def oCall (c : Call) : OF := fun E _ t m => @Callee.rec (fun _ => Call → Env → T Value → Mem → List Out) cVal cInv cBl c.callee c E t m
def oN1 {α : Type} (_ : α) : OF := oNone
def oN2 {α β : Type} (_ : α) (_ : β) : OF := oNone
def oN3 {α β γ : Type} (_ : α) (_ : β) (_ : γ) : OF := oNone
def oN4 {α β γ δ : Type} (_ : α) (_ : β) (_ : γ) (_ : δ) : OF := oNone
def opF (op : Op) : OF :=
  @Op.rec (fun _ => OF) oMove oMove oPick oAlloc oBox oBuild oBuildS oUpd oLoad oStore oN1 oN1 oNil oBin oUn oConv oN2 oIface oFunc oMap oN2 oMkS oSlice oFA oF oIA oI oLook oUpd oN3 oN4 oRange oNext oEntry oTA oEx oCall oN1 oN1 oN1 oN2 oN3 oN2 op
def evOpF (E : Env) (o : Oper) (t : T Value) (m : Mem) : List Out := opF o.op E o t m
theorem evOpF_eq (E : Env) (o : Oper) (t : T Value) (m : Mem) : evOpF E o t m = evOp0 E (evalT t) o m := by
  obtain ⟨dst, op, ty, pos, after, guard⟩ := o
  cases op <;> try rfl
  case makeMap t r => cases r <;> rfl
  case load ty x =>
    show (match asPtr (evalT t x) with | some a => valO (loadAt E ty a m) | none => []) = (match evalT t x with | .pointer (some a) => valO (loadAt E ty a m) | _ => [])
    cases evalT t x with
    | pointer a => cases a <;> rfl
    | _ => rfl
  case extract x i =>
    show (match asTup (evalT t x) with | some vs => (match vs.toList[i]? with | some v => [Out.val v] | none => []) | none => []) = (match evalT t x with | .tuple vs => (match vs.toList[i]? with | some v => [Out.val v] | none => []) | _ => [])
    cases evalT t x <;> rfl
  case call c =>
    obtain ⟨callee, args, tys⟩ := c
    cases callee with
    | builtin b => cases b <;> rfl
    | _ => rfl
end
end Go.AS

/- The evaluator, made fast for the kernel: instructions. It says what the evaluator says. -/
namespace Go.AS
noncomputable section
def b1 {α γ : Type} (x : α) (f : α → List γ) : List γ := f x
def b2 {α γ : Type} (y : α) (l : List α) (_ : α → (α → List γ) → List γ) (x : α) (f : α → List γ) : List γ := bindL (x :: y :: l) f
def b3 {α γ : Type} (_ : α → List γ) : List γ := []
def b4 {α γ : Type} (x : α) (l : List α) (_ : (α → List γ) → List γ) (f : α → List γ) : List γ := @List.rec α (fun _ => α → (α → List γ) → List γ) b1 b2 l x f
def bindF {α γ : Type} (l : List α) (f : α → List γ) : List γ := @List.rec α (fun _ => (α → List γ) → List γ) b3 b4 l f
theorem bindF_eq {α γ : Type} (l : List α) (f : α → List γ) : bindF l f = bindL l f := by
  cases l with
  | nil => rfl
  | cons x l => cases l <;> rfl
def stepK (call : CallF) (N : Nat) (d : Option Tmp) (k : KT) (t : T Value) (m : Mem) : Out → RT
  | .val v => k (put N t d v) m
  | .new ob mk => k (put N t d (mk.val m.n)) ⟨m.n + 1, m.t.set m.n ob⟩
  | .eff v m => k (put N t d v) m
  | .enter f args => bindL (call f args m) fun r => k (put N t d r.1) r.2
def genB (E : Env) (call : CallF) (N : Nat) (o : Oper) (k : KT) (t : T Value) (m : Mem) : RT := bindL (evOp0 E (evalT t) o m) (stepK call N o.dst k t m)
/-! the same, fast -/
abbrev SK := CallF → Option Pos → KT → T Value → Mem → RT
def kVal (v : Value) : SK := fun _ d k t m => k (putP t d v) m
def kNew2 (ob : AObj) (mk : Mk) (d : Option Pos) (k : KT) (t : T Value) (m : Mem) (b : Nat) : RT := k (putP t d (mk.val b)) ⟨Nat.succ b, m.t.setP (posOf b) ob⟩
def kNew (ob : AObj) (mk : Mk) : SK := fun _ d k t m => forceN m.n (kNew2 ob mk d k t m)
def kEff (v : Value) (m' : Mem) : SK := fun _ d k t _ => k (putP t d v) m'
def kRet (d : Option Pos) (k : KT) (t : T Value) (r : Value × Mem) : RT := k (putP t d r.1) r.2
def kEnter (f : Tgt) (args : List Value) : SK := fun call d k t m => bindF (call f args m) (kRet d k t)
def stepF (call : CallF) (d : Option Pos) (k : KT) (t : T Value) (m : Mem) (out : Out) : RT := @Out.rec (fun _ => SK) kVal kNew kEff kEnter out call d k t m
theorem stepF_eq (call : CallF) (N : Nat) (d : Option Tmp) (k : KT) (t : T Value) (m : Mem) (out : Out) : stepF call (dstOf N d) k t m out = stepK call N d k t m out := by
  cases out with
  | val v => show k (putP t (dstOf N d) v) m = _; rw [putP_eq]; rfl
  | new ob mk =>
    show forceN m.n (kNew2 ob mk (dstOf N d) k t m) = _
    rw [forceN_eq]
    show k (putP t (dstOf N d) (mk.val m.n)) ⟨m.n + 1, m.t.setP (posOf m.n) ob⟩ = _
    rw [putP_eq, T.setP_of]; rfl
  | eff v m' => show k (putP t (dstOf N d) v) m' = _; rw [putP_eq]; rfl
  | enter f args =>
    show bindF (call f args m) (kRet (dstOf N d) k t) = bindL (call f args m) fun r => k (put N t d r.1) r.2
    rw [bindF_eq]
    congr 1
    funext r
    show k (putP t (dstOf N d) r.1) r.2 = _
    rw [putP_eq]
def genF (E : Env) (call : CallF) (d : Option Pos) (o : Oper) (k : KT) (t : T Value) (m : Mem) : RT := bindF (evOpF E o t m) (stepF call d k t m)
theorem genF_eq (E : Env) (call : CallF) (N : Nat) (o : Oper) (k : KT) (t : T Value) (m : Mem) : genF E call (dstOf N o.dst) o k t m = genB E call N o k t m := by
  unfold genF genB
  rw [bindF_eq, evOpF_eq]
  congr 1
  funext out
  exact stepF_eq call N o.dst k t m out
/-! integers -/
def ie1 (b a : Nat) : Bool := Nat.beq a b
def ieN (_ _ : Nat) : Bool := false
def ieA (a : Nat) (b : Int) : Bool := @Int.rec (fun _ => Nat → Bool) ie1 ieN b a
def ieB (a : Nat) (b : Int) : Bool := @Int.rec (fun _ => Nat → Bool) ieN ie1 b a
def iEq (a b : Int) : Bool := @Int.rec (fun _ => Int → Bool) ieA ieB a b
def il1 (b a : Nat) : Bool := Nat.blt a b
def il2 (b a : Nat) : Bool := Nat.blt b a
def ilT (_ _ : Nat) : Bool := true
def ilA (a : Nat) (b : Int) : Bool := @Int.rec (fun _ => Nat → Bool) il1 ieN b a
def ilB (a : Nat) (b : Int) : Bool := @Int.rec (fun _ => Nat → Bool) ilT il2 b a
def iLt (a b : Int) : Bool := @Int.rec (fun _ => Int → Bool) ilA ilB a b
def limOf (k : IntKind) : Nat := @IntKind.rec (fun _ => Nat) 127 32767 2147483647 9223372036854775807 127 32767 2147483647 9223372036854775807 k
def ia1 (y x : Nat) (k : IntKind) (a b : Int) : Int := @Bool.rec (fun _ => Int) (k.wrap (a + b)) (.ofNat (Nat.add x y)) (Nat.ble (Nat.add x y) (limOf k))
def iaN (_ _ : Nat) (k : IntKind) (a b : Int) : Int := k.wrap (a + b)
def iaA (x : Nat) (k : IntKind) (a b : Int) : Int := @Int.rec (fun _ => Nat → IntKind → Int → Int → Int) ia1 iaN b x k a b
def iaB (_ : Nat) (k : IntKind) (a b : Int) : Int := k.wrap (a + b)
def iAdd (k : IntKind) (a b : Int) : Int := @Int.rec (fun _ => IntKind → Int → Int → Int) iaA iaB a k a b
def is2 (x y : Nat) (k : IntKind) (a b : Int) : Int := @Bool.rec (fun _ => Int) (k.wrap (a - b)) (.ofNat (Nat.sub x y)) (Nat.ble x (limOf k))
def is1 (y x : Nat) (k : IntKind) (a b : Int) : Int := @Bool.rec (fun _ => Int) (k.wrap (a - b)) (is2 x y k a b) (Nat.ble y x)
def isN (_ _ : Nat) (k : IntKind) (a b : Int) : Int := k.wrap (a - b)
def isA (x : Nat) (k : IntKind) (a b : Int) : Int := @Int.rec (fun _ => Nat → IntKind → Int → Int → Int) is1 isN b x k a b
def isB (_ : Nat) (k : IntKind) (a b : Int) : Int := k.wrap (a - b)
def iSub (k : IntKind) (a b : Int) : Int := @Int.rec (fun _ => IntKind → Int → Int → Int) isA isB a k a b
theorem iEq_eq (a b : Int) : iEq a b = (a == b) := by
  cases a <;> cases b <;> rename_i x y
  · show Nat.beq x y = _
    cases h : Nat.beq x y with
    | true => simp [Nat.eq_of_beq_eq_true h]
    | false =>
      have := Nat.ne_of_beq_eq_false h
      symm
      rw [beq_eq_false_iff_ne]
      intro e; cases e; exact this rfl
  · rfl
  · rfl
  · show Nat.beq x y = _
    cases h : Nat.beq x y with
    | true => simp [Nat.eq_of_beq_eq_true h]
    | false =>
      have := Nat.ne_of_beq_eq_false h
      symm
      rw [beq_eq_false_iff_ne]
      intro e; cases e; exact this rfl
theorem blt_eq (x y : Nat) : Nat.blt x y = decide (x < y) := by
  by_cases h : x < y
  · rw [decide_eq_true h]; exact Nat.ble_eq_true_of_le h
  · rw [decide_eq_false h]
    cases hb : Nat.blt x y with
    | false => rfl
    | true => exact absurd (Nat.le_of_ble_eq_true hb) h
theorem iLt_eq (a b : Int) : iLt a b = decide (a < b) := by
  cases a <;> cases b <;> rename_i x y
  · show Nat.blt x y = _
    rw [blt_eq]
    congr 1
    exact propext (Int.ofNat_lt.symm)
  · show false = _
    rw [decide_eq_false]
    have : (Int.negSucc y) < 0 := Int.negSucc_lt_zero y
    have : (0 : Int) ≤ Int.ofNat x := Int.natCast_nonneg x
    omega
  · show true = _
    rw [decide_eq_true]
    have : (Int.negSucc x) < 0 := Int.negSucc_lt_zero x
    have : (0 : Int) ≤ Int.ofNat y := Int.natCast_nonneg y
    omega
  · show Nat.blt y x = _
    rw [blt_eq]
    congr 1
    refine propext ?_
    rw [Int.negSucc_eq, Int.negSucc_eq]
    omega
theorem wrap_lim (k : IntKind) (n : Nat) (h : n ≤ limOf k) : k.wrap (n : Int) = (n : Int) := by
  cases k <;> simp [limOf] at h <;> simp [IntKind.wrap, IntKind.bits, IntKind.signed] <;> first | omega | (split <;> omega)
theorem iAdd_eq (k : IntKind) (a b : Int) : iAdd k a b = k.wrap (a + b) := by
  cases a <;> cases b <;> try rfl
  rename_i x y
  show @Bool.rec (fun _ => Int) (k.wrap ((x : Int) + (y : Int))) (.ofNat (Nat.add x y)) (Nat.ble (Nat.add x y) (limOf k)) = k.wrap ((x : Int) + (y : Int))
  cases h : Nat.ble (Nat.add x y) (limOf k) with
  | false => rfl
  | true => exact (wrap_lim k (x + y) (Nat.le_of_ble_eq_true h)).symm
theorem iSub_eq (k : IntKind) (a b : Int) : iSub k a b = k.wrap (a - b) := by
  cases a <;> cases b <;> try rfl
  rename_i x y
  show @Bool.rec (fun _ => Int) (k.wrap ((x : Int) - (y : Int))) (@Bool.rec (fun _ => Int) (k.wrap ((x : Int) - (y : Int))) (.ofNat (Nat.sub x y)) (Nat.ble x (limOf k))) (Nat.ble y x) = k.wrap ((x : Int) - (y : Int))
  cases h : Nat.ble y x with
  | false => rfl
  | true =>
    cases h2 : Nat.ble x (limOf k) with
    | false => rfl
    | true =>
      have h3 := Nat.le_of_ble_eq_true h
      have h4 := Nat.le_of_ble_eq_true h2
      have h5 := wrap_lim k (x - y) (by omega)
      have h6 : ((x - y : Nat) : Int) = (x : Int) - (y : Int) := by omega
      rw [h6] at h5
      show Int.ofNat (x - y) = _
      rw [h5]; exact h6
/-! each instruction -/
abbrev IF := Env → CallF → KT → T Value → Mem → RT
def kB0 (d : Option Pos) (k : KT) (t : T Value) (m : Mem) : RT := k (putP t d (.bool false)) m
def kB1 (d : Option Pos) (k : KT) (t : T Value) (m : Mem) : RT := k (putP t d (.bool true)) m
def boolK (b : Bool) (d : Option Pos) (k : KT) (t : T Value) (m : Mem) : RT := @Bool.rec (fun _ => Option Pos → KT → T Value → Mem → RT) kB0 kB1 b d k t m
theorem boolK_eq (b : Bool) (d : Option Pos) (k : KT) (t : T Value) (m : Mem) : boolK b d k t m = k (putP t d (.bool b)) m := by cases b <;> rfl
def kI (kd : IntKind) (d : Option Pos) (k : KT) (t : T Value) (m : Mem) (r : Int) : RT := k (putP t d (.int kd r)) m
abbrev BF := IntKind → Int → Int → Option Pos → Oper → Env → CallF → KT → T Value → Mem → RT
def bG : BF := fun _ _ _ d o E call k t m => genF E call d o k t m
def bAdd : BF := fun kd a b d _ _ _ k t m => forceI (iAdd kd a b) (kI kd d k t m)
def bSub : BF := fun kd a b d _ _ _ k t m => forceI (iSub kd a b) (kI kd d k t m)
def bEq : BF := fun _ a b d _ _ _ k t m => boolK (iEq a b) d k t m
def bNe : BF := fun _ a b d _ _ _ k t m => boolK (not (iEq a b)) d k t m
def bLt : BF := fun _ a b d _ _ _ k t m => boolK (iLt a b) d k t m
def bLe : BF := fun _ a b d _ _ _ k t m => boolK (not (iLt b a)) d k t m
def bGt : BF := fun _ a b d _ _ _ k t m => boolK (iLt b a) d k t m
def bGe : BF := fun _ a b d _ _ _ k t m => boolK (not (iLt a b)) d k t m
def binI (op : BinOp) : BF := @BinOp.rec (fun _ => BF) bAdd bSub bG bG bG bG bG bG bG bG bG bEq bNe bLt bLe bGt bGe op
def bk0 : IntKind → Int → Int → BinOp → Option Pos → Oper → Env → CallF → KT → T Value → Mem → RT := fun _ _ _ _ d o E call k t m => genF E call d o k t m
def bk1 : IntKind → Int → Int → BinOp → Option Pos → Oper → Env → CallF → KT → T Value → Mem → RT := fun kx a b op d o E call k t m => binI op kx a b d o E call k t m
def bx2 (y : IntKind × Int) (x : IntKind × Int) (op : BinOp) (d : Option Pos) (o : Oper) (E : Env) (call : CallF) (k : KT) (t : T Value) (m : Mem) : RT :=
  @Bool.rec (fun _ => IntKind → Int → Int → BinOp → Option Pos → Oper → Env → CallF → KT → T Value → Mem → RT) bk0 bk1 (sameKind x.1 y.1) x.1 x.2 y.2 op d o E call k t m
def bx0 (_ : IntKind × Int) (_ : BinOp) (d : Option Pos) (o : Oper) (E : Env) (call : CallF) (k : KT) (t : T Value) (m : Mem) : RT := genF E call d o k t m
def bx1 (x : IntKind × Int) (y : Value) (op : BinOp) (d : Option Pos) (o : Oper) (E : Env) (call : CallF) (k : KT) (t : T Value) (m : Mem) : RT :=
  @Option.rec (IntKind × Int) (fun _ => IntKind × Int → BinOp → Option Pos → Oper → Env → CallF → KT → T Value → Mem → RT) bx0 bx2 (asInt y) x op d o E call k t m
def bxN (_ : Value) (_ : BinOp) (d : Option Pos) (o : Oper) (E : Env) (call : CallF) (k : KT) (t : T Value) (m : Mem) : RT := genF E call d o k t m
def rBin (x y : Value) (op : BinOp) (d : Option Pos) (o : Oper) (E : Env) (call : CallF) (k : KT) (t : T Value) (m : Mem) : RT :=
  @Option.rec (IntKind × Int) (fun _ => Value → BinOp → Option Pos → Oper → Env → CallF → KT → T Value → Mem → RT) bxN bx1 (asInt x) y op d o E call k t m
def vk0 (_ : Option Pos) (_ : KT) (_ : T Value) (_ : Mem) : RT := []
def vk1 (v : Value) (d : Option Pos) (k : KT) (t : T Value) (m : Mem) : RT := k (putP t d v) m
def valK (v : Option Value) (d : Option Pos) (k : KT) (t : T Value) (m : Mem) : RT := @Option.rec Value (fun _ => Option Pos → KT → T Value → Mem → RT) vk0 vk1 v d k t m
abbrev RF := Nat → Option Pos → KT → T Value → Mem → RT
def rwN : RF := fun _ _ _ _ _ => []
def rw2 (c : T Value) (off : Nat) (d : Option Pos) (k : KT) (t : T Value) (m : Mem) : RT := valK (c.get off) d k t m
def rw3 (_ : T Value) (_ : Nat) (_ : Option Pos) (_ : KT) (_ : T Value) (_ : Mem) : RT := []
def rwR (c : T Value) (n : Nat) (_ : TypeId) : RF := fun off d k t m => @Bool.rec (fun _ => T Value → Nat → Option Pos → KT → T Value → Mem → RT) rw3 rw2 (Nat.ble (off + 1) n) c off d k t m
def rwM (_ : List MapEntry) (_ : Nat) : RF := rwN
def rwS (_ : ByteArray) (_ : Nat) : RF := rwN
def rwI (_ : Option Nat) (_ : Nat) (_ : List Nat) (_ : Nat) : RF := rwN
def rwL (_ : T Value) (_ : Nat) (_ : Array Tmp) (_ _ : Code) : RF := rwN
def rwO (o : AObj) : RF := @AObj.rec (fun _ => RF) rwR rwM rwS rwI rwL rwN o
def ldP (a : Addr) (d : Option Pos) (k : KT) (t : T Value) (m : Mem) : RT := @Option.rec AObj (fun _ => RF) rwN rwO (m.t.get a.block) a.off d k t m
def rLoad1 (x : Value) (d : Option Pos) (k : KT) (t : T Value) (m : Mem) : RT := @Option.rec Addr (fun _ => Option Pos → KT → T Value → Mem → RT) vk0 ldP (asPtr x) d k t m
def fa2 (a : Addr) (d : Option Pos) (k : KT) (t : T Value) (m : Mem) (q : Nat) : RT := k (putP t d (.pointer (some ⟨a.block, q, none⟩))) m
def fa1 (a : Addr) (off : Nat) (d : Option Pos) (k : KT) (t : T Value) (m : Mem) : RT := forceN (Nat.add a.off off) (fa2 a d k t m)
def fa0 (_ : Nat) (_ : Option Pos) (_ : KT) (_ : T Value) (_ : Mem) : RT := []
def rFa (x : Value) (off : Nat) (d : Option Pos) (k : KT) (t : T Value) (m : Mem) : RT := @Option.rec Addr (fun _ => Nat → Option Pos → KT → T Value → Mem → RT) fa0 fa1 (asPtr x) off d k t m
def nc0 (d : Option Pos) (o : Oper) (E : Env) (call : CallF) (k : KT) (t : T Value) (m : Mem) : RT := genF E call d o k t m
def nc1 (a : Addr) (d : Option Pos) (_ : Oper) (_ : Env) (_ : CallF) (k : KT) (t : T Value) (m : Mem) : RT := k (putP t d (.pointer (some a))) m
def rNc (x : Value) (d : Option Pos) (o : Oper) (E : Env) (call : CallF) (k : KT) (t : T Value) (m : Mem) : RT :=
  @Option.rec Addr (fun _ => Option Pos → Oper → Env → CallF → KT → T Value → Mem → RT) nc0 nc1 (asPtr x) d o E call k t m
def pk0 (_ y : Opd) (d : Option Pos) (k : KT) (t : T Value) (m : Mem) : RT := k (putP t d (y.ev t)) m
def pk1 (x _ : Opd) (d : Option Pos) (k : KT) (t : T Value) (m : Mem) : RT := k (putP t d (x.ev t)) m
def pkB (b : Bool) (x y : Opd) (d : Option Pos) (_ : Oper) (_ : Env) (_ : CallF) (k : KT) (t : T Value) (m : Mem) : RT := @Bool.rec (fun _ => Opd → Opd → Option Pos → KT → T Value → Mem → RT) pk0 pk1 b x y d k t m
def pkN (_ _ : Opd) (d : Option Pos) (o : Oper) (E : Env) (call : CallF) (k : KT) (t : T Value) (m : Mem) : RT := genF E call d o k t m
def rPick (c : Value) (x y : Opd) (d : Option Pos) (o : Oper) (E : Env) (call : CallF) (k : KT) (t : T Value) (m : Mem) : RT :=
  @Option.rec Bool (fun _ => Opd → Opd → Option Pos → Oper → Env → CallF → KT → T Value → Mem → RT) pkN pkB (asBool c) x y d o E call k t m
def nt0 (_ : Nat) : Option Value := none
def ntZ (x : Value) (_ : Nat → Option Value) : Option Value := some x
def ntS (m : Nat) (_ : Value → (Nat → Option Value) → Option Value) (_ : Value) (ih : Nat → Option Value) : Option Value := ih m
def nt1 (x : Value) (_ : List Value) (ih : Nat → Option Value) (n : Nat) : Option Value := @Nat.rec (fun _ => Value → (Nat → Option Value) → Option Value) ntZ ntS n x ih
def nthF (l : List Value) (n : Nat) : Option Value := @List.rec Value (fun _ => Nat → Option Value) nt0 nt1 l n
theorem nthF_eq : ∀ (l : List Value) (n : Nat), nthF l n = l[n]?
  | [], _ => rfl
  | _ :: _, 0 => rfl
  | _ :: l, n + 1 => (nthF_eq l n).trans (by simp)
def ex0 (_ : Nat) (_ : Option Pos) (_ : KT) (_ : T Value) (_ : Mem) : RT := []
def ex1 (vs : Array Value) (i : Nat) (d : Option Pos) (k : KT) (t : T Value) (m : Mem) : RT := valK (nthF vs.toList i) d k t m
def rEx (x : Value) (i : Nat) (d : Option Pos) (k : KT) (t : T Value) (m : Mem) : RT := @Option.rec (Array Value) (fun _ => Nat → Option Pos → KT → T Value → Mem → RT) ex0 ex1 (asTup x) i d k t m
def al2 (ob : AObj) (d : Option Pos) (k : KT) (t : T Value) (m : Mem) (b : Nat) : RT := k (putP t d (.pointer (some ⟨b, 0, none⟩))) ⟨Nat.succ b, m.t.setP (posOf b) ob⟩
def rAlloc (ob : AObj) (d : Option Pos) (k : KT) (t : T Value) (m : Mem) : RT := forceN m.n (al2 ob d k t m)
def el0 (_ : T Value) : List Value := []
def el1 (x : Opd) (_ : List Opd) (ih : T Value → List Value) (t : T Value) : List Value := x.ev t :: ih t
def evL (l : List Opd) (t : T Value) : List Value := @List.rec Opd (fun _ => T Value → List Value) el0 el1 l t
/-- instructions; each that falls back bears the operation -/
inductive Ins where
  | mv (d : Option Pos) (x : Opd)
  | bin (d : Option Pos) (o : Oper) (op : BinOp) (x y : Opd)
  | load1 (d : Option Pos) (x : Opd)
  | fa (d : Option Pos) (off : Nat) (x : Opd)
  | nc (d : Option Pos) (o : Oper) (x : Opd)
  | pick (d : Option Pos) (o : Oper) (c x y : Opd)
  | ex (d : Option Pos) (x : Opd) (i : Nat)
  | alloc (d : Option Pos) (ob : AObj)
  | call (d : Option Pos) (f : FuncId) (args : List Opd)
  | gen (d : Option Pos) (o : Oper)
  | grd (q : Pos) (want : Bool) (d : Option Pos) (i : Ins)
  | bad
def iMv (d : Option Pos) (x : Opd) : IF := fun _ _ k t m => k (putP t d (x.ev t)) m
def iBin (d : Option Pos) (o : Oper) (op : BinOp) (x y : Opd) : IF := fun E call k t m => rBin (x.ev t) (y.ev t) op d o E call k t m
def iLoad1 (d : Option Pos) (x : Opd) : IF := fun _ _ k t m => rLoad1 (x.ev t) d k t m
def iFa (d : Option Pos) (off : Nat) (x : Opd) : IF := fun _ _ k t m => rFa (x.ev t) off d k t m
def iNc (d : Option Pos) (o : Oper) (x : Opd) : IF := fun E call k t m => rNc (x.ev t) d o E call k t m
def iPick (d : Option Pos) (o : Oper) (c x y : Opd) : IF := fun E call k t m => rPick (c.ev t) x y d o E call k t m
def iEx (d : Option Pos) (x : Opd) (i : Nat) : IF := fun _ _ k t m => rEx (x.ev t) i d k t m
def iAlloc (d : Option Pos) (ob : AObj) : IF := fun _ _ k t m => rAlloc ob d k t m
def iCall (d : Option Pos) (f : FuncId) (args : List Opd) : IF := fun _ call k t m => bindF (call (.fn f) (evL args t) m) (kRet d k t)
def iGen (d : Option Pos) (o : Oper) : IF := fun E call k t m => genF E call d o k t m
abbrev GF := Bool → Option Pos → IF → IF
def gSkip (d : Option Pos) (_ : IF) : IF := fun _ _ k t m => k (putP t d und) m
def gRun (_ : Option Pos) (i : IF) : IF := i
def gB (b : Bool) : Option GF := some fun want d i => @Bool.rec (fun _ => Option Pos → IF → IF) gSkip gRun (@Bool.rec (fun _ => Bool → Bool) not id b want) d i
def gT (_ : Array Value) : Option GF := some fun _ d i => gSkip d i
def gNo : GF := fun _ _ _ _ _ _ _ _ => []
def gId (g : GF) : GF := g
def gV (v : Value) : GF := @Option.rec GF (fun _ => GF) gNo gId (pick4 gB no2 no1 gT v)
def iGrd (q : Pos) (want : Bool) (d : Option Pos) (_ : Ins) (ih : IF) : IF := fun E call k t m => @Option.rec Value (fun _ => GF) gNo gV (t.getP q) want d ih E call k t m
def iBad : IF := fun _ _ _ _ _ => []
def Ins.run (i : Ins) : IF := @Ins.rec (fun _ => IF) iMv iBin iLoad1 iFa iNc iPick iEx iAlloc iCall iGen iGrd iBad i
section
variable (E : Env) (call : CallF) (N : Nat) (ops : Array Oper)
def genStep (o : Oper) (k : KT) (t : T Value) (m : Mem) : RT :=
  match wanted ops o t with
  | none => []
  | some false => k (put N t o.dst und) m
  | some true => genB E call N o k t m
def isLoad1 (t : TypeId) : Bool :=
  match E.types.get t with
  | some ti => match agg? ti.desc, ti.size with
    | false, 1 => true
    | _, _ => false
  | none => false
def faOff (t : TypeId) (f : Nat) : Option Nat :=
  match E.types.get t with
  | some ti => match ti.desc with
    | .struct fs => match fs[f]? with
      | some fd => match E.types.get fd.type with
        | some tf => match tf.size with
          | 0 => none
          | _ => some fd.offset
        | none => none
      | none => none
    | _ => none
  | none => none
def isFn (f : FuncId) : Bool := match E.funcs.get f with | some _ => true | none => false
def insOf (o : Oper) : Ins :=
  match o.op with
  | .move x | .assign x => .mv (dstOf N o.dst) (opdOf x)
  | .binOp op _ x y _ => .bin (dstOf N o.dst) o op (opdOf x) (opdOf y)
  | .load ty x => match isLoad1 E ty with
    | true => .load1 (dstOf N o.dst) (opdOf x)
    | false => .gen (dstOf N o.dst) o
  | .fieldAddr ty x f => match faOff E ty f with
    | some off => .fa (dstOf N o.dst) off (opdOf x)
    | none => .gen (dstOf N o.dst) o
  | .nilCheck x => .nc (dstOf N o.dst) o (opdOf x)
  | .pick c x y => .pick (dstOf N o.dst) o (opdOf c) (opdOf x) (opdOf y)
  | .extract x i => .ex (dstOf N o.dst) (opdOf x) i
  | .alloc ty => match E.types.get ty with
    | some ti => .alloc (dstOf N o.dst) (newRow ty ti.zero)
    | none => .gen (dstOf N o.dst) o
  | .call c => match c.callee with
    | .value (.func f) => match isFn E f with
      | true => .call (dstOf N o.dst) f (c.args.toList.map opdOf)
      | false => .gen (dstOf N o.dst) o
    | _ => .gen (dstOf N o.dst) o
  | _ => .gen (dstOf N o.dst) o
def comp (o : Oper) : Ins :=
  match o.guard with
  | none => insOf E N o
  | some (j, want) => match ops.toList[j]? with
    | some p => match p.dst with
      | some d => .grd (posOf d) want (dstOf N o.dst) (insOf E N o)
      | none => .bad
    | none => .bad
end
abbrev LF := Env → CallF → KT
def rl0 : LF := fun _ _ t m => [(t, m)]
def rl1 (i : Ins) (_ : List Ins) (ih : LF) : LF := fun E call t m => i.run E call (ih E call) t m
def runL (l : List Ins) : LF := @List.rec Ins (fun _ => LF) rl0 rl1 l
section
variable (E : Env) (call : CallF) (N : Nat) (ops : Array Oper)
theorem genB_val {o : Oper} {v : Value} (k : KT) (t : T Value) (m : Mem) (h : evOp0 E (evalT t) o m = [.val v]) : genB E call N o k t m = k (put N t o.dst v) m := by
  unfold genB; rw [h]; rfl
theorem genB_nil {o : Oper} (k : KT) (t : T Value) (m : Mem) (h : evOp0 E (evalT t) o m = []) : genB E call N o k t m = [] := by
  unfold genB; rw [h]; rfl
theorem genB_valO {o : Oper} {v : Option Value} (k : KT) (t : T Value) (m : Mem) (h : evOp0 E (evalT t) o m = valO v) : genB E call N o k t m = valK v (dstOf N o.dst) k t m := by
  cases v with
  | none => rw [genB_nil E call N k t m h]; rfl
  | some v => rw [genB_val E call N k t m h, ← putP_eq]; rfl
theorem evOp0_op {o : Oper} {op : Op} (h : o.op = op) (ρ : Operand → Value) (m : Mem) : evOp0 E ρ o m = evOp0 E ρ { o with op := op } m := by subst h; rfl
theorem bin_run {o : Oper} {op : BinOp} {xt yt : TypeId} {x y : Operand} (h : o.op = .binOp op xt x y yt) (k : KT) (t : T Value) (m : Mem) :
    rBin (evalT t x) (evalT t y) op (dstOf N o.dst) o E call k t m = genB E call N o k t m := by
  have hg : genF E call (dstOf N o.dst) o k t m = genB E call N o k t m := genF_eq E call N o k t m
  have hev : evOp0 E (evalT t) o m = valO (binopC E op xt (isConst x || isConst y) (evalT t x) (evalT t y)) := by rw [evOp0_op E h]; rfl
  generalize evalT t x = vx at hev ⊢
  generalize evalT t y = vy at hev ⊢
  cases vx <;> try exact hg
  cases vy <;> try exact hg
  rename_i kx a ky b
  show @Bool.rec (fun _ => IntKind → Int → Int → BinOp → Option Pos → Oper → Env → CallF → KT → T Value → Mem → RT) bk0 bk1 (sameKind kx ky) kx a b op (dstOf N o.dst) o E call k t m = _
  cases hk : sameKind kx ky with
  | false => exact hg
  | true =>
    show binI op kx a b (dstOf N o.dst) o E call k t m = _
    have hb : binopC E op xt (isConst x || isConst y) (.int kx a) (.int ky b) = match isShift op with | true => shift op kx a b | false => intBin op kx a b := by
      have h2 : binop E op xt (.int kx a) (.int ky b) = match isShift op with | true => shift op kx a b | false => match sameKind kx ky with | true => intBin op kx a b | false => none := rfl
      have h3 : ∀ c, binopC E op xt c (.int kx a) (.int ky b) = binop E op xt (.int kx a) (.int ky b) := fun c => by cases c <;> rfl
      rw [h3, h2, hk]
    rw [hb] at hev
    cases op <;> first
      | exact hg
      | (rw [genB_val E call N k t m (v := .int kx (kx.wrap (a + b))) hev, ← putP_eq, ← iAdd_eq]; exact forceI_eq (iAdd kx a b) (kI kx (dstOf N o.dst) k t m))
      | (rw [genB_val E call N k t m (v := .int kx (kx.wrap (a - b))) hev, ← putP_eq, ← iSub_eq]; exact forceI_eq (iSub kx a b) (kI kx (dstOf N o.dst) k t m))
      | (rw [genB_val E call N k t m (v := .bool (a == b)) hev, ← putP_eq, ← iEq_eq]; exact boolK_eq _ _ _ _ _)
      | (rw [genB_val E call N k t m (v := .bool (a != b)) hev, ← putP_eq]; show _ = k (putP t _ (.bool (not (a == b)))) m; rw [← iEq_eq]; exact boolK_eq _ _ _ _ _)
      | (rw [genB_val E call N k t m (v := .bool (decide (a < b))) hev, ← putP_eq, ← iLt_eq]; exact boolK_eq _ _ _ _ _)
      | (rw [genB_val E call N k t m (v := .bool (decide (a > b))) hev, ← putP_eq]; show _ = k (putP t _ (.bool (decide (b < a)))) m; rw [← iLt_eq]; exact boolK_eq _ _ _ _ _)
      | (rw [genB_val E call N k t m (v := .bool (decide (a ≤ b))) hev, ← putP_eq]
         have e : decide (a ≤ b) = not (iLt b a) := by rw [iLt_eq]; by_cases q : a ≤ b <;> simp [q] <;> omega
         rw [e]; exact boolK_eq _ _ _ _ _)
      | (rw [genB_val E call N k t m (v := .bool (decide (a ≥ b))) hev, ← putP_eq]
         have e : decide (a ≥ b) = not (iLt a b) := by rw [iLt_eq]; by_cases q : a ≥ b <;> simp [q] <;> omega
         rw [e]; exact boolK_eq _ _ _ _ _)
theorem load_run {o : Oper} {ty : TypeId} {x : Operand} (h : o.op = .load ty x) (hl : isLoad1 E ty = true) (k : KT) (t : T Value) (m : Mem) :
    rLoad1 (evalT t x) (dstOf N o.dst) k t m = genB E call N o k t m := by
  have hev : evOp0 E (evalT t) o m = (match evalT t x with | .pointer (some a) => valO (loadAt E ty a m) | _ => []) := by rw [evOp0_op E h]; rfl
  generalize evalT t x = vx at hev ⊢
  cases vx with
  | pointer a =>
    cases a with
    | none => rw [genB_nil E call N k t m hev]; rfl
    | some a =>
      rw [genB_valO E call N k t m hev]
      unfold isLoad1 at hl
      split at hl
      · rename_i ti hti
        split at hl
        · rename_i hag hsz
          show @Option.rec AObj (fun _ => RF) rwN rwO (m.t.get a.block) a.off (dstOf N o.dst) k t m = _
          unfold loadAt
          rw [hti]
          cases hg : m.t.get a.block with
          | none => rfl
          | some ob =>
            cases ob with
            | row cells n e =>
              simp only [hag, hsz]
              show @Bool.rec (fun _ => T Value → Nat → Option Pos → KT → T Value → Mem → RT) rw3 rw2 (Nat.ble (a.off + 1) n) cells a.off (dstOf N o.dst) k t m = _
              cases Nat.ble (a.off + 1) n <;> rfl
            | _ => rfl
        · cases hl
      · cases hl
  | _ => rw [genB_nil E call N k t m hev]; rfl
theorem fa_run {o : Oper} {ty : TypeId} {x : Operand} {f off : Nat} (h : o.op = .fieldAddr ty x f) (hl : faOff E ty f = some off) (k : KT) (t : T Value) (m : Mem) :
    rFa (evalT t x) off (dstOf N o.dst) k t m = genB E call N o k t m := by
  have hev : evOp0 E (evalT t) o m = valO (fieldAddrA E ty (evalT t x) f) := by rw [evOp0_op E h]; rfl
  generalize evalT t x = vx at hev ⊢
  rw [genB_valO E call N k t m hev]
  unfold faOff at hl
  split at hl
  · rename_i ti hti
    split at hl
    · rename_i fs hd
      split at hl
      · rename_i fd hfd
        split at hl
        · rename_i tf htf
          split at hl
          · cases hl
          · rename_i hsz
            cases hl
            unfold fieldAddrA
            rw [hti]
            cases vx with
            | pointer a =>
              cases a with
              | none => rfl
              | some a =>
                simp only [hd, hfd, htf]
                cases hz : tf.size with
                | zero => exact absurd hz (by simpa using hsz)
                | succ n => exact forceN_eq (Nat.add a.off fd.offset) (fa2 a (dstOf N o.dst) k t m)
            | _ => rfl
        · cases hl
      · cases hl
    · cases hl
  · cases hl
theorem nc_run {o : Oper} {x : Operand} (h : o.op = .nilCheck x) (k : KT) (t : T Value) (m : Mem) : rNc (evalT t x) (dstOf N o.dst) o E call k t m = genB E call N o k t m := by
  have hg : genF E call (dstOf N o.dst) o k t m = genB E call N o k t m := genF_eq E call N o k t m
  have hx : ∀ a, evalT t x = .pointer (some a) → evOp0 E (evalT t) o m = [.val (.pointer (some a))] := fun a ha => by
    rw [evOp0_op E h]
    show (match evalT t x with | .pointer (some a) => [Out.val (.pointer (some a))] | .func (.func g) a b => [.val (.func (.func g) a b)] | .func (.method name) a b => _ | .iface t v => [.val (.iface t v)] | .complex .f32 7 i => [.val (yld i)] | _ => []) = _
    rw [ha]
  generalize hv : evalT t x = vx
  cases vx with
  | pointer a =>
    cases a with
    | none => exact hg
    | some a => rw [genB_val E call N k t m (hx a hv), ← putP_eq]; rfl
  | _ => exact hg
theorem pick_run {o : Oper} {c x y : Operand} (h : o.op = .pick c x y) (k : KT) (t : T Value) (m : Mem) : rPick (evalT t c) (opdOf x) (opdOf y) (dstOf N o.dst) o E call k t m = genB E call N o k t m := by
  have hg : genF E call (dstOf N o.dst) o k t m = genB E call N o k t m := genF_eq E call N o k t m
  have hx : ∀ b, evalT t c = .bool b → evOp0 E (evalT t) o m = [.val (cond b (evalT t x) (evalT t y))] := fun a ha => by
    rw [evOp0_op E h]
    show (match evalT t c with | .bool b => [Out.val (cond b (evalT t x) (evalT t y))] | .complex .f32 1 0 => _ | _ => []) = _
    rw [ha]
  generalize hv : evalT t c = vc
  cases vc with
  | bool b =>
    rw [genB_val E call N k t m (hx b hv), ← putP_eq]
    cases b
    · show k (putP t _ ((opdOf y).ev t)) m = _; rw [opdOf_ev]; rfl
    · show k (putP t _ ((opdOf x).ev t)) m = _; rw [opdOf_ev]; rfl
  | _ => exact hg
theorem ex_run {o : Oper} {x : Operand} {i : Nat} (h : o.op = .extract x i) (k : KT) (t : T Value) (m : Mem) : rEx (evalT t x) i (dstOf N o.dst) k t m = genB E call N o k t m := by
  have hev : evOp0 E (evalT t) o m = (match evalT t x with | .tuple vs => (match vs.toList[i]? with | some v => [.val v] | none => []) | _ => []) := by rw [evOp0_op E h]; rfl
  generalize evalT t x = vx at hev ⊢
  cases vx with
  | tuple vs =>
    show valK (nthF vs.toList i) _ k t m = _
    rw [nthF_eq]
    cases hg : vs.toList[i]? with
    | none => simp only [hg] at hev; rw [genB_nil E call N k t m hev]; rfl
    | some v => simp only [hg] at hev; rw [genB_val E call N k t m hev, ← putP_eq]; rfl
  | _ => rw [genB_nil E call N k t m hev]; rfl
theorem alloc_run {o : Oper} {ty : TypeId} {ti : TI} (h : o.op = .alloc ty) (hti : E.types.get ty = some ti) (k : KT) (t : T Value) (m : Mem) : rAlloc (newRow ty ti.zero) (dstOf N o.dst) k t m = genB E call N o k t m := by
  have hev : evOp0 E (evalT t) o m = [.new (newRow ty ti.zero) .ptr] := by
    rw [evOp0_op E h]
    show (match E.types.get ty with | some ti => [Out.new (newRow ty ti.zero) .ptr] | none => []) = _
    rw [hti]
  unfold genB
  rw [hev]
  show forceN m.n (al2 _ _ _ _ _) = k (put N t o.dst (.pointer (some ⟨m.n, 0, none⟩))) ⟨m.n + 1, m.t.set m.n _⟩
  rw [forceN_eq]
  show k (putP t (dstOf N o.dst) (.pointer (some ⟨m.n, 0, none⟩))) ⟨Nat.succ m.n, m.t.setP (posOf m.n) _⟩ = _
  rw [putP_eq, T.setP_of]
theorem evL_eq (t : T Value) : ∀ (l : List Operand), evL (l.map opdOf) t = l.map (evalT t)
  | [] => rfl
  | x :: l => by
    show (opdOf x).ev t :: evL (l.map opdOf) t = _
    rw [opdOf_ev, evL_eq t l]; rfl
theorem call_run {o : Oper} {c : Call} {f : FuncId} (h : o.op = .call c) (hc : c.callee = .value (.func f)) (hf : isFn E f = true) (k : KT) (t : T Value) (m : Mem) : iCall (dstOf N o.dst) f (c.args.toList.map opdOf) E call k t m = genB E call N o k t m := by
  unfold isFn at hf
  split at hf
  · rename_i fn hfn
    have hev : evOp0 E (evalT t) o m = [.enter (.fn f) (c.args.toList.map (evalT t))] := by
      rw [evOp0_op E h]
      show callA E (evalT t) c m = _
      unfold callA
      rw [hc]
      show (match E.funcs.get f with | some _ => [Out.enter (.fn f) (([] : List Value) ++ c.args.toList.map (evalT t) ++ [])] | none => _) = _
      rw [hfn]
      simp
    unfold genB
    rw [hev]
    show bindF (call (.fn f) (evL (c.args.toList.map opdOf) t) m) (kRet (dstOf N o.dst) k t) = bindL (call (.fn f) (c.args.toList.map (evalT t)) m) (fun r => k (put N t o.dst r.1) r.2)
    rw [bindF_eq, evL_eq]
    congr 1
    funext r
    show k (putP t _ r.1) r.2 = _
    rw [putP_eq]
  · cases hf
theorem insOf_run (o : Oper) (k : KT) (t : T Value) (m : Mem) : (insOf E N o).run E call k t m = genB E call N o k t m := by
  have hg : genF E call (dstOf N o.dst) o k t m = genB E call N o k t m := genF_eq E call N o k t m
  unfold insOf
  split
  · rename_i x h
    show k (putP t _ ((opdOf x).ev t)) m = _
    rw [opdOf_ev, putP_eq, genB_val E call N k t m (v := evalT t x) (by rw [evOp0_op E h]; rfl)]
  · rename_i x h
    show k (putP t _ ((opdOf x).ev t)) m = _
    rw [opdOf_ev, putP_eq, genB_val E call N k t m (v := evalT t x) (by rw [evOp0_op E h]; rfl)]
  · rename_i op xt x y yt h
    show rBin ((opdOf x).ev t) ((opdOf y).ev t) op _ o E call k t m = _
    rw [opdOf_ev, opdOf_ev]
    exact bin_run E call N h k t m
  · rename_i ty x h
    split
    · rename_i hl
      show rLoad1 ((opdOf x).ev t) _ k t m = _
      rw [opdOf_ev]; exact load_run E call N h hl k t m
    · exact hg
  · rename_i ty x f h
    split
    · rename_i off hl
      show rFa ((opdOf x).ev t) off _ k t m = _
      rw [opdOf_ev]; exact fa_run E call N h hl k t m
    · exact hg
  · rename_i x h
    show rNc ((opdOf x).ev t) _ o E call k t m = _
    rw [opdOf_ev]; exact nc_run E call N h k t m
  · rename_i c x y h
    show rPick ((opdOf c).ev t) _ _ _ o E call k t m = _
    rw [opdOf_ev]; exact pick_run E call N h k t m
  · rename_i x i h
    show rEx ((opdOf x).ev t) i _ k t m = _
    rw [opdOf_ev]; exact ex_run E call N h k t m
  · rename_i ty h
    split
    · rename_i ti hti; exact alloc_run E call N h hti k t m
    · exact hg
  · rename_i c h
    split
    · rename_i f hc
      split
      · rename_i hf; exact call_run E call N h hc hf k t m
      · exact hg
    · exact hg
  · exact hg
def okG (o : Oper) : Bool :=
  match o.guard with
  | none => true
  | some (j, _) => match ops.toList[j]? with
    | some p => match p.dst with
      | some _ => true
      | none => false
    | none => false
theorem comp_run (o : Oper) (k : KT) (t : T Value) (m : Mem) : (comp E N ops o).run E call k t m = genStep E call N ops o k t m := by
  unfold comp
  split
  · rename_i hg
    rw [insOf_run]
    unfold genStep wanted
    rw [hg]
  · rename_i j want hg
    split
    · rename_i p hp
      split
      · rename_i d hd
        show @Option.rec Value (fun _ => GF) gNo gV (t.getP (posOf d)) want (dstOf N o.dst) ((insOf E N o).run) E call k t m = _
        rw [T.getP_of]
        have hi := insOf_run E call N o k t m
        unfold genStep wanted
        rw [hg]
        simp only [hp, hd]
        cases hv : t.get d with
        | none => rfl
        | some v =>
          cases v with
          | bool b => cases b <;> cases want <;> first | exact hi | exact congrArg (k · m) (putP_eq N t o.dst und)
          | tuple vs => exact congrArg (k · m) (putP_eq N t o.dst und)
          | _ => rfl
      · rename_i hd
        unfold genStep wanted
        rw [hg]
        simp only [hp, hd]
        rfl
    · rename_i hp
      unfold genStep wanted
      rw [hg]
      simp only [hp]
      rfl
theorem evOp_rules {E : Env} (hR : E.rules = []) (ρ : Operand → Value) (o : Oper) (m : Mem) : evOp E ρ o m = evOp0 E ρ o m := by
  unfold evOp
  rw [hR]
  cases opKey o <;> rfl
theorem runL_eq (hR : E.rules = []) : ∀ (l : List Oper) (t : T Value) (m : Mem), runL (l.map (comp E N ops)) E call t m = evOps E call N ops l t m
  | [], _, _ => rfl
  | o :: l, t, m => by
    show (comp E N ops o).run E call (runL (l.map (comp E N ops)) E call) t m = _
    have hk : runL (l.map (comp E N ops)) E call = evOps E call N ops l := funext fun t => funext fun m => runL_eq hR l t m
    rw [comp_run, hk]
    unfold genStep
    rw [evOps]
    cases wanted ops o t with
    | none => rfl
    | some b =>
      cases b with
      | false => rfl
      | true =>
        show bindL (evOp0 E (evalT t) o m) _ = bindL (evOp E (evalT t) o m) _
        rw [evOp_rules hR]
        first
          | rfl
          | (congr 1
             funext out
             cases out <;> rfl)
end
end
end Go.AS

/- The evaluator, made fast for the kernel: code, calls, the environment. -/
namespace Go.AS
open Go.RowKit
noncomputable section
/-! ### regions whose order is open -/
def readsAsF (E : Env) (o : Oper) (t : T Value) (v : Value) (m : Mem) : Bool :=
  match evOpF E o t m with
  | [.val x] => veq 30 x v
  | _ => false
theorem readsAsF_eq (E : Env) (hR : E.rules = []) (o : Oper) (t : T Value) (v : Value) (m : Mem) : readsAsF E o t v m = readsAs E o t v m := by
  unfold readsAsF readsAs; rw [evOpF_eq, evOp_rules hR]; rfl
def checkBackF (E : Env) (M0 : Mem) (o : Oper) (t : T Value) (v : Value) (b : Nat) : List (Nat × Mem) → Bool
  | [] => readsAsF E o t v M0
  | (e, c) :: l => cond (readsAsF E o t v c) (cond (Nat.testBit b e) true (checkBackF E M0 o t v b l)) false
theorem checkBackF_eq (E : Env) (hR : E.rules = []) (M0 : Mem) (o : Oper) (t : T Value) (v : Value) (b : Nat) : ∀ l, checkBackF E M0 o t v b l = checkBack E M0 o t v b l
  | [] => readsAsF_eq E hR ..
  | (e, c) :: l => by simp only [checkBackF, checkBack, readsAsF_eq E hR, checkBackF_eq E hR M0 o t v b l]
def checkReadsF (E : Env) (b : Nat) (m : Mem) : List (Nat × Oper × T Value × Value) → Bool
  | [] => true
  | (j, o, t, v) :: l => cond (cond (Nat.testBit b j) true (readsAsF E o t v m)) (checkReadsF E b m l) false
theorem checkReadsF_eq (E : Env) (hR : E.rules = []) (b : Nat) (m : Mem) : ∀ l, checkReadsF E b m l = checkReads E b m l
  | [] => rfl
  | (j, o, t, v) :: l => by simp only [checkReadsF, checkReads, readsAsF_eq E hR, checkReadsF_eq E hR b m l]
def effOKF (E : Env) (n N0 : Nat) (S : DS) (b : Nat) (m : Mem) : Bool :=
  cond (allBits b S.effs) (cond (freshIds N0 (S.mask ||| b) m.t n) (checkReadsF E b m S.reads) false) false
theorem effOKF_eq (E : Env) (hR : E.rules = []) (n N0 : Nat) (S : DS) (b : Nat) (m : Mem) : effOKF E n N0 S b m = effOK E n N0 S b m := by unfold effOKF effOK; rw [checkReadsF_eq E hR]
def clsDF (E : Env) (call : CallF) (ops : Array Oper) (n N0 : Nat) (M0 : Mem) (S : DS) (o : Oper) (b : Nat) : Option Cl :=
  match wanted ops o S.t with
  | none => none
  | some false => some .skip
  | some true => match memFree o.op with
    | true => match evOpF E o S.t M0 with
      | [.val v] => some (.pure v)
      | [.new ob mk] => some (.alloc ob mk)
      | _ => none
    | false => match evOpF E o S.t ⟨S.chain.n, addAllocs N0 b S.allocs S.chain.t⟩ with
      | [.val v] => match checkBackF E M0 o S.t v b S.effs with
        | true => some (.read v)
        | false => none
      | [.eff v m] => match effOKF E n N0 S b m with
        | true => some (.eff v m)
        | false => none
      | [.enter f args] => match call f args ⟨S.chain.n, addAllocs N0 b S.allocs S.chain.t⟩ with
        | [(v, m)] => match effOKF E n N0 S b m with
          | true => some (.eff v m)
          | false => none
        | _ => none
      | _ => none
theorem clsDF_eq (E : Env) (hR : E.rules = []) (call : CallF) (ops : Array Oper) (n N0 : Nat) (M0 : Mem) (S : DS) (o : Oper) (b : Nat) : clsDF E call ops n N0 M0 S o b = clsD E call ops n N0 M0 S o b := by
  unfold clsDF clsD
  simp only [evOpF_eq, checkBackF_eq E hR, effOKF_eq E hR, evOp_rules hR]
  rfl
def runDF (E : Env) (call : CallF) (ops : Array Oper) (B : List Nat) (n N N0 : Nat) (M0 : Mem) : List Oper → Nat → DS → Option DS
  | [], _, S => some S
  | o :: l, i, S => match clsDF E call ops n N0 M0 S o (B.getD i 0) with
    | none => none
    | some c => runDF E call ops B n N N0 M0 l (i + 1) (applyD N N0 S i o (B.getD i 0) c)
theorem runDF_eq (E : Env) (hR : E.rules = []) (call : CallF) (ops : Array Oper) (B : List Nat) (n N N0 : Nat) (M0 : Mem) : ∀ l i S, runDF E call ops B n N N0 M0 l i S = runD E call ops B n N N0 M0 l i S
  | [], _, _ => rfl
  | o :: l, i, S => by
    rw [runDF, runD, clsDF_eq E hR]
    cases clsD E call ops n N0 M0 S o (B.getD i 0) with
    | none => rfl
    | some c => exact runDF_eq E hR call ops B n N N0 M0 l (i + 1) _
def evDrawF (E : Env) (call : CallF) (N : Nat) (ops : Array Oper) (t : T Value) (m : Mem) : List (T Value × Mem) :=
  match edgesOK ops.toList 0, tmpsOK ops (masks ops.toList []) ops.toList 0 with
  | true, true => match runDF E call ops (masks ops.toList []) ops.toList.length N m.n ⟨m.n + ops.toList.length, m.t⟩ ops.toList 0 ⟨t, ⟨m.n + ops.toList.length, m.t⟩, [], [], [], 0⟩ with
    | some S => [(S.t, ⟨S.chain.n, addAll m.n S.allocs S.chain.t⟩)]
    | none => []
  | _, _ => []
theorem evDrawF_eq (E : Env) (hR : E.rules = []) (call : CallF) (N : Nat) (ops : Array Oper) (t : T Value) (m : Mem) : evDrawF E call N ops t m = evDraw E call N ops t m := by
  unfold evDrawF evDraw; simp only [runDF_eq E hR]; rfl
/-! ### code -/
inductive FC where
  | skip
  | ops (l : List Ins)
  | draw (ops : Array Oper)
  | seq (a b : FC)
  | cond (c : Opd) (a b : FC)
  | block (id : Nat) (b : FC)
  | loop (b : FC)
  | exit (id : Nat)
  | ret
  | rng (g : Operand) (ps : Array Tmp) (assign body : Code)
  | bad
def mapL {α γ : Type} (f : α → γ) (l : List α) : List γ := List.rec [] (fun x _ ih => f x :: ih) l
theorem mapL_eq {α γ : Type} (f : α → γ) : ∀ l, mapL f l = l.map f
  | [] => rfl
  | x :: l => congrArg (f x :: ·) (mapL_eq f l)
def compC (E : Env) (N : Nat) (c : Code) : FC :=
  Code.rec (motive := fun _ => FC) .skip (fun _ ops d => Bool.rec (.ops (mapL (comp E N ops) ops.toList)) (.draw ops) d) (fun _ _ a b => .seq a b) (fun c _ _ a b => .cond (opdOf c) a b) (fun id _ b => .block id b) (fun _ b => .loop b)
    (fun g ps as bd _ _ => .rng g ps as bd) (fun id => .exit id) (fun _ _ => .bad) (fun _ => .bad) (fun _ => .bad) .ret (fun _ => .bad) c
abbrev RX := List (Ex × T Value × Mem)
abbrev KX := T Value → Mem → RX
def xN (t : T Value) (m : Mem) (f : KX) : RX := f t m
def xE (i : Nat) (t : T Value) (m : Mem) (_ : KX) : RX := [(.exit i, t, m)]
def xR (t : T Value) (m : Mem) (_ : KX) : RX := [(.ret, t, m)]
def tn2 (t : T Value) (m : Mem) (e : Ex) (f : KX) : RX := @Ex.rec (fun _ => T Value → Mem → KX → RX) xN xE xR e t m f
def tn1 (e : Ex) (q : T Value × Mem) (f : KX) : RX := @Prod.rec (T Value) Mem (fun _ => Ex → KX → RX) tn2 q e f
def thenN (f : KX) (r : Ex × T Value × Mem) : RX := @Prod.rec Ex (T Value × Mem) (fun _ => KX → RX) tn1 r f
theorem thenN_eq (f : KX) (r : Ex × T Value × Mem) : thenN f r = match r with | (.normal, t, m) => f t m | r => [r] := by
  obtain ⟨e, t, m⟩ := r
  cases e <;> rfl
def yN (t : T Value) (m : Mem) (_ : Nat) : RX := [(.normal, t, m)]
def yE (i : Nat) (t : T Value) (m : Mem) (id : Nat) : RX := [(cond (Nat.beq id i) .normal (.exit i), t, m)]
def yR (t : T Value) (m : Mem) (_ : Nat) : RX := [(.ret, t, m)]
def bk2 (t : T Value) (m : Mem) (e : Ex) (id : Nat) : RX := @Ex.rec (fun _ => T Value → Mem → Nat → RX) yN yE yR e t m id
def bk3 (e : Ex) (q : T Value × Mem) (id : Nat) : RX := @Prod.rec (T Value) Mem (fun _ => Ex → Nat → RX) bk2 q e id
def blkF (id : Nat) (r : Ex × T Value × Mem) : RX := @Prod.rec Ex (T Value × Mem) (fun _ => Nat → RX) bk3 r id
def nm1 (t : T Value) (m : Mem) : RX := [(.normal, t, m)]
def norm1 (r : T Value × Mem) : RX := @Prod.rec (T Value) Mem (fun _ => RX) nm1 r
def lz (_ : KX) (_ : T Value) (_ : Mem) : RX := []
def ls (_ : Nat) (ih : KX → KX) (round : KX) (t : T Value) (m : Mem) : RX := bindF (round t m) (thenN (ih round))
def loopF (round : KX) (n : Nat) (t : T Value) (m : Mem) : RX := @Nat.rec (fun _ => KX → KX) lz ls n round t m
theorem loopF_eq (round : KX) : ∀ n t m, loopF round n t m = evLoop round n t m := by
  intro n
  induction n with
  | zero => intro t m; rfl
  | succ n ih =>
    intro t m
    show bindF (round t m) (thenN (loopF round n)) = _
    rw [bindF_eq, evLoop]
    congr 1
    funext r
    rw [thenN_eq]
    obtain ⟨e, t, m⟩ := r
    cases e with
    | normal => exact ih t m
    | _ => rfl
def condTop (v : Value) (a b : RX) : RX :=
  match v with
  | .complex .f32 1 0 => both a b
  | _ => []
def cd0 (_ b : RX) : RX := b
def cd1 (a _ : RX) : RX := a
def cdB (c : Bool) (_ : Value) (a b : RX) : RX := @Bool.rec (fun _ => RX → RX → RX) cd0 cd1 c a b
def condF (v : Value) (a b : RX) : RX := @Option.rec Bool (fun _ => Value → RX → RX → RX) condTop cdB (asBool v) v a b
theorem condF_eq (v : Value) (a b : RX) : condF v a b = match v with | .bool true => a | .bool false => b | .complex .f32 1 0 => both a b | _ => [] := by
  cases v with
  | bool c => cases c <;> rfl
  | complex k x y =>
    show condTop _ a b = _
    unfold condTop
    split
    · rename_i h; cases h; rfl
    · rename_i h
      split
      · rename_i h2; cases h2
      · rename_i h2; cases h2
      · rename_i h2; cases h2; exact absurd rfl h
      · rfl
  | _ => rfl
abbrev CF := Env → CallF → Bool → Nat → Nat → KX
def cSkip : CF := fun _ _ _ _ _ t m => [(.normal, t, m)]
def cOps (l : List Ins) : CF := fun E call _ _ _ t m => bindF (runL l E call t m) norm1
def cDraw (ops : Array Oper) : CF := fun E call _ N _ t m => bindF (evDrawF E call N ops t m) norm1
def cSeq (_ _ : FC) (a b : CF) : CF := fun E call rd N fuel t m => bindF (a E call rd N fuel t m) (thenN (b E call rd N fuel))
def cCond (c : Opd) (_ _ : FC) (a b : CF) : CF := fun E call rd N fuel t m => condF (c.ev t) (a E call rd N fuel t m) (b E call rd N fuel t m)
def cBlock (id : Nat) (_ : FC) (b : CF) : CF := fun E call rd N fuel t m => bindF (b E call rd N fuel t m) (blkF id)
def cLoop (_ : FC) (b : CF) : CF := fun E call rd N fuel t m => loopF (b E call rd N fuel) fuel t m
def cExit (id : Nat) : CF := fun _ _ _ _ _ t m => [(.exit id, t, m)]
def cRet : CF := fun _ _ _ _ _ t m => [(.ret, t, m)]
def cRng (g : Operand) (ps : Array Tmp) (as bd : Code) : CF := fun E call rd N _ t m => @Bool.rec (fun _ => RX) (evRange E call N g ps as bd t m) [] rd
def cBad : CF := fun _ _ _ _ _ _ _ => []
def FC.run (c : FC) : CF := @FC.rec (fun _ => CF) cSkip cOps cDraw cSeq cCond cBlock cLoop cExit cRet cRng cBad c
def evCodeF (E : Env) (call : CallF) (rd : Bool) (N fuel : Nat) (c : FC) (t : T Value) (m : Mem) : RX := c.run E call rd N fuel t m
theorem evCodeF_eq (E : Env) (hR : E.rules = []) (call : CallF) (rd : Bool) (N fuel : Nat) : ∀ (c : Code) (t : T Value) (m : Mem), evCodeF E call rd N fuel (compC E N c) t m = evCode E call rd N fuel c t m := by
  intro c
  induction c with
  | skip => intro t m; rfl
  | region id ops d =>
    intro t m
    cases d with
    | false =>
      show bindF (runL (mapL (comp E N ops) ops.toList) E call t m) norm1 = _
      rw [bindF_eq, mapL_eq, runL_eq _ _ _ _ hR]; rfl
    | true =>
      show bindF (evDrawF E call N ops t m) norm1 = _
      rw [bindF_eq, evDrawF_eq E hR]; rfl
  | seq a b iha ihb =>
    intro t m
    show bindF (evCodeF E call rd N fuel (compC E N a) t m) (thenN (evCodeF E call rd N fuel (compC E N b))) = _
    rw [bindF_eq, iha, evCode]
    congr 1
    funext r
    rw [thenN_eq]
    obtain ⟨e, t, m⟩ := r
    cases e with
    | normal => exact ihb t m
    | _ => rfl
  | cond x a b iha ihb =>
    intro t m
    show condF ((opdOf x).ev t) (evCodeF E call rd N fuel (compC E N a) t m) (evCodeF E call rd N fuel (compC E N b) t m) = _
    rw [opdOf_ev, condF_eq, iha, ihb, evCode]
    generalize evalT t x = v
    cases v with
    | bool b => cases b <;> rfl
    | complex k x y =>
      split
      · rename_i h; cases h
      · rename_i h; cases h
      · rename_i h; cases h; rfl
      · rename_i h
        split
        · rename_i h2; cases h2
        · rename_i h2; cases h2
        · rename_i h2; cases h2; exact absurd rfl h
        · rfl
    | _ => rfl
  | block id b ih =>
    intro t m
    show bindF (evCodeF E call rd N fuel (compC E N b) t m) (blkF id) = _
    rw [bindF_eq, ih, evCode]
    congr 1
    funext r
    obtain ⟨e, t, m⟩ := r
    cases e <;> rfl
  | loop b ih =>
    intro t m
    show loopF (evCodeF E call rd N fuel (compC E N b)) fuel t m = _
    rw [loopF_eq, evCode]
    congr 1
    funext t m
    exact ih t m
  | rangeFunc g ps as bd _ _ => intro t m; cases rd <;> rfl
  | exit id => intro t m; rfl
  | ret => intro t m; rfl
  | _ => intro t m; rfl
abbrev VM0 := List (Value × Mem)
def fe0 (_ : Mem) : VM0 := []
def fe1 (l : List Value) (m : Mem) : VM0 := [(tupled l, m)]
def feN (t : T Value) (m : Mem) (E : Env) (fn : Func) : VM0 := @Option.rec (List Value) (fun _ => Mem → VM0) fe0 fe1 (resultsA E t m fn.results.toList) m
def feE (_ : Nat) (_ : T Value) (_ : Mem) (_ : Env) (_ : Func) : VM0 := []
def fe2 (t : T Value) (m : Mem) (e : Ex) (E : Env) (fn : Func) : VM0 := @Ex.rec (fun _ => T Value → Mem → Env → Func → VM0) feN feE feN e t m E fn
def fe3 (e : Ex) (q : T Value × Mem) (E : Env) (fn : Func) : VM0 := @Prod.rec (T Value) Mem (fun _ => Ex → Env → Func → VM0) fe2 q e E fn
def fnEnd (E : Env) (fn : Func) (r : Ex × T Value × Mem) : VM0 := @Prod.rec Ex (T Value × Mem) (fun _ => Env → Func → VM0) fe3 r E fn
abbrev QF := Func → List Value → Mem → Env → CallF → Nat → VM0
def fb0 : QF := fun _ _ _ _ _ _ => []
def fbT (c : Code) : QF := fun fn args m E call fuel => bindF (evCodeF E call false fn.ntmps fuel (compC E fn.ntmps c) (T.ofList args) m) (fnEnd E fn)
def fbF (_ : Code) : QF := fb0
def fb1 (c : Code) : QF := fun fn args m E call fuel => @Bool.rec (fun _ => Code → QF) fbF fbT (Nat.ble args.length fn.ntmps) c fn args m E call fuel
def ff0 (_ : List Value) (_ : Mem) (_ : Env) (_ : CallF) (_ : Nat) : VM0 := []
def ff1 (fn : Func) (args : List Value) (m : Mem) (E : Env) (call : CallF) (fuel : Nat) : VM0 := @Option.rec Code (fun _ => QF) fb0 fb1 fn.body fn args m E call fuel
def evFnF (E : Env) (call : CallF) (fuel : Nat) (f : FuncId) (args : List Value) (m : Mem) : VM0 := @Option.rec Func (fun _ => List Value → Mem → Env → CallF → Nat → VM0) ff0 ff1 (E.funcs.getP (posOf f)) args m E call fuel
theorem evFnF_eq (E : Env) (hR : E.rules = []) (call : CallF) (fuel : Nat) (f : FuncId) (args : List Value) (m : Mem) : evFnF E call fuel f args m = evFn E call fuel f args m := by
  unfold evFnF evFn
  rw [T.getP_of]
  cases E.funcs.get f with
  | none => rfl
  | some fn =>
    show @Option.rec Code (fun _ => QF) fb0 fb1 fn.body fn args m E call fuel = _
    cases hb : fn.body with
    | none => simp only [hb]; rfl
    | some c =>
      simp only [hb]
      show @Bool.rec (fun _ => Code → QF) fbF fbT (Nat.ble args.length fn.ntmps) c fn args m E call fuel = _
      cases hl : Nat.ble args.length fn.ntmps with
      | false => rfl
      | true =>
        show bindF (evCodeF E call false fn.ntmps fuel (compC E fn.ntmps c) (T.ofList args) m) (fnEnd E fn) = _
        rw [bindF_eq, evCodeF_eq E hR]
        congr 1
        funext r
        obtain ⟨e, t, m⟩ := r
        cases e with
        | exit i => rfl
        | normal =>
          show @Option.rec (List Value) (fun _ => Mem → VM0) fe0 fe1 (resultsA E t m fn.results.toList) m = (match resultsA E t m fn.results.toList with | some l => [(tupled l, m)] | none => [])
          cases resultsA E t m fn.results.toList <;> rfl
        | ret =>
          show @Option.rec (List Value) (fun _ => Mem → VM0) fe0 fe1 (resultsA E t m fn.results.toList) m = (match resultsA E t m fn.results.toList with | some l => [(tupled l, m)] | none => [])
          cases resultsA E t m fn.results.toList <;> rfl
def evYieldF (E : Env) (call : CallF) (fuel i : Nat) (args : List Value) (m : Mem) : List (Value × Mem) :=
  match m.t.getP (posOf i) with
  | some (.loop t N ps assign body) => match Nat.beq args.length ps.size with
    | true => bindF (evCodeF E call true N fuel (compC E N assign) (setTs N t ps.toList args) m) (roundMid (evCodeF E call true N fuel (compC E N body)) i)
    | false => []
  | _ => []
theorem evYieldF_eq (E : Env) (hR : E.rules = []) (call : CallF) (fuel i : Nat) (args : List Value) (m : Mem) : evYieldF E call fuel i args m = evYield E call fuel i args m := by
  unfold evYieldF evYield
  rw [T.getP_of]
  cases m.t.get i with
  | none => rfl
  | some o =>
    cases o with
    | loop t N ps as bd =>
      have he : evCodeF E call true N fuel (compC E N bd) = evCode E call true N fuel bd := funext fun t => funext fun m => evCodeF_eq E hR call true N fuel bd t m
      show (match Nat.beq args.length ps.size with | true => bindF (evCodeF E call true N fuel (compC E N as) (setTs N t ps.toList args) m) (roundMid (evCodeF E call true N fuel (compC E N bd)) i) | false => []) = (match Nat.beq args.length ps.size with | true => bindL (evCode E call true N fuel as (setTs N t ps.toList args) m) (roundMid (evCode E call true N fuel bd) i) | false => [])
      rw [bindF_eq, evCodeF_eq E hR, he]
    | _ => rfl
abbrev VM := List (Value × Mem)
def sm0 (f : FuncId) (args : List Value) (m : Mem) (E : Env) (fuel : Nat) (ih : CallF) : VM := evFnF E ih fuel f args m
def sm1 (l : VM) (_ : FuncId) (_ : List Value) (_ : Mem) (_ : Env) (_ : Nat) (_ : CallF) : VM := l
def tgF (f : FuncId) (args : List Value) (m : Mem) (E : Env) (S : Sums) (fuel : Nat) (ih : CallF) : VM := @Option.rec VM (fun _ => FuncId → List Value → Mem → Env → Nat → CallF → VM) sm0 sm1 (S f args m) f args m E fuel ih
def tgY (i : Nat) (args : List Value) (m : Mem) (E : Env) (_ : Sums) (fuel : Nat) (ih : CallF) : VM := evYieldF E ih fuel i args m
def ec0 (_ : Env) (_ : Sums) (_ : Nat) (_ : Tgt) (_ : List Value) (_ : Mem) : VM := []
def ecS (_ : Nat) (ih : Env → Sums → Nat → CallF) (E : Env) (S : Sums) (fuel : Nat) (g : Tgt) (args : List Value) (m : Mem) : VM := @Tgt.rec (fun _ => List Value → Mem → Env → Sums → Nat → CallF → VM) tgF tgY g args m E S fuel (ih E S fuel)
def evCallF (E : Env) (S : Sums) (fuel d : Nat) : CallF := @Nat.rec (fun _ => Env → Sums → Nat → CallF) ec0 ecS d E S fuel
theorem evCallF_eq (E : Env) (hR : E.rules = []) (S : Sums) (fuel : Nat) : ∀ d, evCallF E S fuel d = evCall E S fuel d := by
  intro d
  induction d with
  | zero => funext g args m; rfl
  | succ d ih =>
    funext g args m
    cases g with
    | fn f =>
      show @Option.rec VM (fun _ => FuncId → List Value → Mem → Env → Nat → CallF → VM) sm0 sm1 (S f args m) f args m E fuel (evCallF E S fuel d) = _
      simp only [evCall]
      rw [ih]
      cases S f args m with
      | none => exact evFnF_eq E hR _ fuel f args m
      | some l => rfl
    | yld i =>
      show evYieldF E (evCallF E S fuel d) fuel i args m = _
      rw [ih, evYieldF_eq E hR]
      rfl
/-! ### an environment whose entries are laid out where they are asked for -/
namespace T
variable {α : Type}
def singleO (v : Option α) (p : Pos) : T α := Pos.rec (.node v .nil .nil) (fun _ ih => .node none ih .nil) (fun _ ih => .node none .nil ih) p
def setO (t : T α) : Pos → Option α → T α :=
  T.rec (fun p v => singleO v p) (fun x l r ihl ihr p v => Pos.rec (.node v l r) (fun q _ => .node x (ihl q v) r) (fun q _ => .node x l (ihr q v)) p) t
theorem posOf_inj_aux : ∀ (f g a b : Nat), a ≤ f → b ≤ g → posF f a = posF g b → a = b := by
  intro f
  induction f with
  | zero =>
    intro g a b ha hb h
    obtain rfl : a = 0 := by omega
    cases b with
    | zero => rfl
    | succ m =>
      obtain ⟨g, rfl⟩ : ∃ g', g = g' + 1 := ⟨g - 1, by omega⟩
      rw [posF_zero, posF_succ] at h
      cases hq : Nat.beq (Nat.mod m 2) 0 <;> rw [hq] at h <;> cases h
  | succ f ih =>
    intro g a b ha hb h
    cases a with
    | zero =>
      cases b with
      | zero => rfl
      | succ m =>
        obtain ⟨g, rfl⟩ : ∃ g', g = g' + 1 := ⟨g - 1, by omega⟩
        rw [posF_zero, posF_succ] at h
        cases hq : Nat.beq (Nat.mod m 2) 0 <;> rw [hq] at h <;> cases h
    | succ k =>
      cases b with
      | zero =>
        rw [posF_zero, posF_succ] at h
        cases hq : Nat.beq (Nat.mod k 2) 0 <;> rw [hq] at h <;> cases h
      | succ m =>
        obtain ⟨g, rfl⟩ : ∃ g', g = g' + 1 := ⟨g - 1, by omega⟩
        rw [posF_succ, posF_succ] at h
        cases hq : Nat.beq (Nat.mod k 2) 0 <;> cases hr : Nat.beq (Nat.mod m 2) 0 <;> rw [hq, hr] at h <;> first | (cases h; done) | skip
        · have h2 := ih g _ _ (half_le ha) (half_le hb) (Pos.o.inj h)
          rw [half_inj hq hr h2]
        · have h2 := ih g _ _ (half_le ha) (half_le hb) (Pos.z.inj h)
          rw [half_inj hq hr h2]
theorem getP_singleO (v : Option α) : ∀ (p q : Pos) (x : α), (singleO v p).getP q = some x → p = q ∧ v = some x := by
  intro p
  induction p with
  | e => intro q x h; cases q <;> first | exact ⟨rfl, h⟩ | (cases h; done)
  | z p ih => intro q x h; cases q with
    | z q => obtain ⟨h1, h2⟩ := ih q x h; exact ⟨congrArg _ h1, h2⟩
    | e => cases h
    | o q => cases h
  | o p ih => intro q x h; cases q with
    | o q => obtain ⟨h1, h2⟩ := ih q x h; exact ⟨congrArg _ h1, h2⟩
    | e => cases h
    | z q => cases h
theorem getP_setO : ∀ (t : T α) (v : Option α) (p q : Pos) (x : α), (t.setO p v).getP q = some x → (p = q ∧ v = some x) ∨ t.getP q = some x := by
  intro t
  induction t with
  | nil => intro v p q x h; exact .inl (getP_singleO v p q x h)
  | node y l r ihl ihr =>
    intro v p q x h
    cases p with
    | e => cases q with
      | e => exact .inl ⟨rfl, h⟩
      | _ => exact .inr h
    | z p => cases q with
      | z q => rcases ihl v p q x h with ⟨h1, h2⟩ | h1
               · exact .inl ⟨congrArg _ h1, h2⟩
               · exact .inr h1
      | _ => exact .inr h
    | o p => cases q with
      | o q => rcases ihr v p q x h with ⟨h1, h2⟩ | h1
               · exact .inl ⟨congrArg _ h1, h2⟩
               · exact .inr h1
      | _ => exact .inr h
end T
def fillO {α : Type} (f : Nat → Option α) (n : Nat) : T α := Nat.rec .nil (fun i t => forceN i fun i => t.setO (posOf i) (f i)) n
theorem fillO_inv {α : Type} (f : Nat → Option α) : ∀ n j x, (fillO f n).get j = some x → f j = some x := by
  intro n
  induction n with
  | zero => intro j x h; rw [show fillO f 0 = .nil from rfl, T.get_nil] at h; cases h
  | succ n ih =>
    intro j x h
    have e : fillO f (n + 1) = (fillO f n).setO (posOf n) (f n) := forceN_eq n fun i => (fillO f n).setO (posOf i) (f i)
    rw [e, ← T.getP_of] at h
    rcases T.getP_setO _ _ _ _ _ h with ⟨h1, h2⟩ | h1
    · have : n = j := T.posOf_inj_aux n j n j (Nat.le_refl _) (Nat.le_refl _) h1
      rw [← this]; exact h2
    · exact ih j x (by rw [← T.getP_of]; exact h1)
def mkEnvL (P : Program) : Env := ⟨P, fillO (mkTI P) P.types.size, fillO (mkFn P) P.funcs.size, fillO (mkExt P) P.funcs.size, [], fun _ => True⟩
theorem mkEnvL_ok [Rho] (P : Program) : EOK (mkEnvL P) P where
  prog := rfl
  rules := fun r hr => by cases hr
  types := fun t ti h => by
    have h1 : mkTI P t = some ti := fillO_inv (mkTI P) _ t ti h
    unfold mkTI at h1
    split at h1
    · rename_i i d hi hd
      split at h1
      · rename_i z hz
        split at h1
        · rename_i a1 a2 a3
          cases h1
          have e1 := Nat.eq_of_beq_eq_true a1
          refine ⟨hd, i, z, hi, rfl, rfl, hz, rfl, e1, allSimple_spec a2, fun hg => ?_, fun hg => ?_⟩
          · simp only at hg
            cases z with
            | agg vs => simp only at a3; rw [a3] at hg; cases hg
            | _ => simp only [Value.cells]
          · simp only at hg
            cases z with
            | agg vs => simp [Value.cells]
            | _ => simp only at a3; rw [hg] at a3; cases a3
        · cases h1
      · cases h1
    · cases h1
  funcs := fun f fn h => by
    have h1 : mkFn P f = some fn := fillO_inv (mkFn P) _ f fn h
    unfold mkFn at h1
    split at h1
    · rename_i fn' hf
      split at h1
      · rename_i c hc hn
        cases h1
        exact ⟨hf, hn, c, hc⟩
      · cases h1
    · cases h1
  exts := fun f x h => by
    have h1 : mkExt P f = some x := fillO_inv (mkExt P) _ f x h
    unfold mkExt at h1
    split at h1
    · rename_i fn hf
      split at h1
      · rename_i hb hx hn
        exact ⟨fn, hf, hn, hb, by simpa using hx, extNamed_find h1⟩
      · cases h1
    · cases h1
/-- what an evaluation from nothing says of every world -/
theorem ae_fast_with [Rho] {P : Program} (hP : P.follows .mixedOrders = true) {S : Sums} {fuel d : Nat} {f : FuncId} {args : List Value} {args' : Array Value} (hargs : VRL (fun _ => none) args args'.toList) (h : isTrue (evCallF (mkEnvL P) S fuel d (.fn f) args ⟨0, .nil⟩) = true) (w : World) (hS : SOK (mkEnvL P) P w S) :
    Calls P f args' w fun e w' => e = .returned (.bool true) ∧ Below w.heap.size w w' := by
  rw [evCallF_eq _ rfl] at h
  have hne : evCall (mkEnvL P) S fuel d (.fn f) args ⟨0, .nil⟩ ≠ [] := fun e => by rw [e] at h; cases h
  refine ((evCall_ok (w0 := w) (mkEnvL_ok P) hP hS fuel d).fn f args ⟨0, .nil⟩ hne _ w args' hargs (MR.start _ w trivial)).mono ?_
  rintro e w' ⟨r, hr, σ', v', rfl, hf, hv, hm⟩
  have ht : r.1 = .bool true := by
    cases hl : evCall (mkEnvL P) S fuel d (.fn f) args ⟨0, .nil⟩ with
    | nil => exact absurd hl hne
    | cons x l => rw [hl] at h hr; exact allTrue_spec h r hr
  rw [ht] at hv
  exact ⟨congrArg _ (hv.simple_inv rfl), hm.below⟩
theorem ae_fast [Rho] {P : Program} (hP : P.follows .mixedOrders = true) {fuel d : Nat} {f : FuncId} {args : List Value} {args' : Array Value} (hargs : VRL (fun _ => none) args args'.toList) (h : isTrue (evCallF (mkEnvL P) noSums fuel d (.fn f) args ⟨0, .nil⟩) = true) (w : World) :
    Calls P f args' w fun e w' => e = .returned (.bool true) ∧ Below w.heap.size w w' := ae_fast_with hP hargs h w (noSums_ok _ _ _)
end
end Go.AS

/- Stations: calls whose answers at a given memory are proved apart. -/
namespace Go.AS
open Go.RowKit
noncomputable section
variable [Rho]
/-! ### a memory within a memory -/
def cellsIn (a b : T Value) : Bool :=
  match a with
  | .nil => true
  | .node x l r => match b with
    | .nil => match x with
      | none => cond (cellsIn l .nil) (cellsIn r .nil) false
      | some _ => false
    | .node y l' r' => match x with
      | none => cond (cellsIn l l') (cellsIn r r') false
      | some v => match y with
        | none => false
        | some v' => cond (veq 30 v' v) (cond (cellsIn l l') (cellsIn r r') false) false
theorem cellsIn_spec : ∀ (a b : T Value), cellsIn a b = true → ∀ i v, a.get i = some v → b.get i = some v := by
  intro a
  induction a with
  | nil => intro b _ i v h; rw [T.get_nil] at h; cases h
  | node x l r ihl ihr =>
    intro b hb i v h
    have key : ∀ y l' r', (∀ w, x = some w → y = some w) → cellsIn l l' = true → cellsIn r r' = true → (T.node y l' r').get i = some v := by
      intro y l' r' hx hl hr
      cases i with
      | zero => rw [T.get_zero] at h ⊢; exact hx v h
      | succ m =>
        rw [T.get_succ] at h ⊢
        cases hc : Nat.beq (Nat.mod m 2) 0 with
        | true => rw [hc] at h; exact ihl l' hl _ v h
        | false => rw [hc] at h; exact ihr r' hr _ v h
    cases b with
    | nil =>
      cases x with
      | some w => exact absurd hb (by simp [cellsIn])
      | none =>
        unfold cellsIn at hb
        have hb : cond (cellsIn l .nil) (cellsIn r .nil) false = true := hb
        cases hl : cellsIn l .nil with
        | false => rw [hl] at hb; exact Bool.noConfusion (show false = true from hb)
        | true =>
          rw [hl] at hb
          have := key none .nil .nil (fun w hw => by cases hw) hl hb
          cases i with
          | zero => rw [T.get_zero] at this; cases this
          | succ m => rw [T.get_succ, T.get_nil] at this; cases hc : Nat.beq (Nat.mod m 2) 0 <;> rw [hc] at this <;> cases this
    | node y l' r' =>
      unfold cellsIn at hb
      cases x with
      | none =>
        have hb : cond (cellsIn l l') (cellsIn r r') false = true := hb
        cases hl : cellsIn l l' with
        | false => rw [hl] at hb; exact Bool.noConfusion (show false = true from hb)
        | true => rw [hl] at hb; exact key y l' r' (fun w hw => by cases hw) hl hb
      | some w =>
        cases y with
        | none => exact absurd hb (by simp)
        | some w' =>
          have hb : cond (veq 30 w' w) (cond (cellsIn l l') (cellsIn r r') false) false = true := hb
          cases hv : veq 30 w' w with
          | false => rw [hv] at hb; exact Bool.noConfusion (show false = true from hb)
          | true =>
            rw [hv] at hb
            have hb : cond (cellsIn l l') (cellsIn r r') false = true := hb
            cases hl : cellsIn l l' with
            | false => rw [hl] at hb; exact Bool.noConfusion (show false = true from hb)
            | true => rw [hl] at hb; exact key (some w') l' r' (fun u hu => by rw [← Option.some.inj hu, (veq_sound 30).1 _ _ hv]) hl hb
def esIn (a b : List MapEntry) : Bool :=
  match a with
  | [] => match b with
    | [] => true
    | _ :: _ => false
  | x :: a => match b with
    | [] => false
    | y :: b => cond (Nat.beq x.born y.born) (cond (veq 30 x.key y.key) (cond (veq 30 x.val y.val) (esIn a b) false) false) false
theorem esIn_spec : ∀ (a b : List MapEntry), esIn a b = true → a = b := by
  intro a
  induction a with
  | nil => intro b h; cases b with | nil => rfl | cons => exact absurd h (by simp [esIn])
  | cons x a ih =>
    intro b h
    cases b with
    | nil => exact absurd h (by simp [esIn])
    | cons y b =>
      unfold esIn at h
      have h : cond (Nat.beq x.born y.born) (cond (veq 30 x.key y.key) (cond (veq 30 x.val y.val) (esIn a b) false) false) false = true := h
      cases h1 : Nat.beq x.born y.born with
      | false => rw [h1] at h; exact Bool.noConfusion (show false = true from h)
      | true =>
        cases h2 : veq 30 x.key y.key with
        | false => rw [h1, h2] at h; exact Bool.noConfusion (show false = true from h)
        | true =>
          cases h3 : veq 30 x.val y.val with
          | false => rw [h1, h2, h3] at h; exact Bool.noConfusion (show false = true from h)
          | true =>
            rw [h1, h2, h3] at h
            have hb : x.born = y.born := Nat.eq_of_beq_eq_true h1
            have hk := (veq_sound 30).1 _ _ h2
            have hv := (veq_sound 30).1 _ _ h3
            rw [ih b h]
            congr 1
            cases x; cases y; simp only at hb hk hv; subst hb hk hv; rfl
def objIn (a b : AObj) : Bool :=
  match a with
  | .row c n e => match b with
    | .row c' n' e' => cond (Nat.beq n 0) (Nat.beq e e') (cond (Nat.beq n n') (cond (Nat.beq e e') (cellsIn c' c) false) false)
    | _ => false
  | .map es k => match b with
    | .map es' k' => cond (Nat.beq k k') (esIn es es') false
    | _ => false
  | .dead => match b with
    | .dead => true
    | _ => false
  | _ => false
/-- what is asked of an object within another -/
def OIn (a b : AObj) : Prop := b.live = a.live ∧ ∀ (E : Env) (σ : Sg) (x : Inf) (ob : Obj), OR E σ x b ob → OR E σ x a ob
theorem objIn_spec (a b : AObj) (h : objIn a b = true) : OIn a b := by
  unfold objIn at h
  cases a with
  | row c n e =>
    cases b with
    | row c' n' e' =>
      have h : cond (Nat.beq n 0) (Nat.beq e e') (cond (Nat.beq n n') (cond (Nat.beq e e') (cellsIn c' c) false) false) = true := h
      cases h0 : Nat.beq n 0 with
      | true =>
        rw [h0] at h
        obtain rfl := Nat.eq_of_beq_eq_true h0
        obtain rfl : e = e' := Nat.eq_of_beq_eq_true h
        refine ⟨rfl, fun E σ x ob hor => ?_⟩
        cases ob with
        | cells C e' fz =>
          obtain ⟨g1, g2, g3, _, g5, _⟩ := hor
          exact ⟨g1, g2, g3, Nat.zero_le _, g5, fun j hj => absurd hj (Nat.not_lt_zero _)⟩
        | _ => exact hor.elim
      | false =>
        rw [h0] at h
        have h : cond (Nat.beq n n') (cond (Nat.beq e e') (cellsIn c' c) false) false = true := h
        cases h1 : Nat.beq n n' with
        | false => rw [h1] at h; exact Bool.noConfusion (show false = true from h)
        | true =>
          cases h2 : Nat.beq e e' with
          | false => rw [h1, h2] at h; exact Bool.noConfusion (show false = true from h)
          | true =>
            rw [h1, h2] at h
            have hc := cellsIn_spec c' c h
            obtain rfl := Nat.eq_of_beq_eq_true h1
            obtain rfl : e = e' := Nat.eq_of_beq_eq_true h2
            refine ⟨rfl, fun E σ x ob hor => ?_⟩
            cases ob with
            | cells C e' fz =>
              obtain ⟨g1, g2, g3, g4, g5, g6⟩ := hor
              exact ⟨g1, g2, g3, g4, g5, fun j hj => let ⟨v, v', k1, k2, k3⟩ := g6 j hj; ⟨v, v', hc j v k1, k2, k3⟩⟩
            | _ => exact hor.elim
    | _ => exact Bool.noConfusion (show false = true from h)
  | map es k =>
    cases b with
    | map es' k' =>
      have h : cond (Nat.beq k k') (esIn es es') false = true := h
      cases h1 : Nat.beq k k' with
      | false => rw [h1] at h; exact Bool.noConfusion (show false = true from h)
      | true =>
        rw [h1] at h
        rw [esIn_spec es es' h, Nat.eq_of_beq_eq_true h1]
        exact ⟨rfl, fun _ _ _ _ h => h⟩
    | _ => exact Bool.noConfusion (show false = true from h)
  | dead =>
    cases b with
    | dead => exact ⟨rfl, fun _ _ _ _ h => h⟩
    | _ => exact Bool.noConfusion (show false = true from h)
  | _ => exact Bool.noConfusion (show false = true from h)
def treeIn (a b : T AObj) : Bool :=
  match a with
  | .nil => true
  | .node x l r => match b with
    | .nil => match x with
      | none => cond (treeIn l .nil) (treeIn r .nil) false
      | some _ => false
    | .node y l' r' => match x with
      | none => cond (treeIn l l') (treeIn r r') false
      | some v => match y with
        | none => false
        | some v' => cond (objIn v v') (cond (treeIn l l') (treeIn r r') false) false
theorem treeIn_spec : ∀ (a b : T AObj), treeIn a b = true → ∀ i v, a.get i = some v → ∃ v', b.get i = some v' ∧ OIn v v' := by
  intro a
  induction a with
  | nil => intro b _ i v h; rw [T.get_nil] at h; cases h
  | node x l r ihl ihr =>
    intro b hb i v h
    have key : ∀ y l' r', (∀ w, x = some w → ∃ w', y = some w' ∧ OIn w w') → treeIn l l' = true → treeIn r r' = true → ∃ v', (T.node y l' r').get i = some v' ∧ OIn v v' := by
      intro y l' r' hx hl hr
      cases i with
      | zero => rw [T.get_zero] at h ⊢; exact hx v h
      | succ m =>
        rw [T.get_succ] at h ⊢
        cases hc : Nat.beq (Nat.mod m 2) 0 with
        | true => rw [hc] at h; exact ihl l' hl _ v h
        | false => rw [hc] at h; exact ihr r' hr _ v h
    cases b with
    | nil =>
      cases x with
      | some w => exact absurd hb (by simp [treeIn])
      | none =>
        unfold treeIn at hb
        have hb : cond (treeIn l .nil) (treeIn r .nil) false = true := hb
        cases hl : treeIn l .nil with
        | false => rw [hl] at hb; exact Bool.noConfusion (show false = true from hb)
        | true =>
          rw [hl] at hb
          obtain ⟨v', this, _⟩ := key none .nil .nil (fun w hw => by cases hw) hl hb
          cases i with
          | zero => rw [T.get_zero] at this; cases this
          | succ m => rw [T.get_succ, T.get_nil] at this; cases hc : Nat.beq (Nat.mod m 2) 0 <;> rw [hc] at this <;> cases this
    | node y l' r' =>
      unfold treeIn at hb
      cases x with
      | none =>
        have hb : cond (treeIn l l') (treeIn r r') false = true := hb
        cases hl : treeIn l l' with
        | false => rw [hl] at hb; exact Bool.noConfusion (show false = true from hb)
        | true => rw [hl] at hb; exact key y l' r' (fun w hw => by cases hw) hl hb
      | some w =>
        cases y with
        | none => exact absurd hb (by simp)
        | some w' =>
          have hb : cond (objIn w w') (cond (treeIn l l') (treeIn r r') false) false = true := hb
          cases hv : objIn w w' with
          | false => rw [hv] at hb; exact Bool.noConfusion (show false = true from hb)
          | true =>
            rw [hv] at hb
            have hb : cond (treeIn l l') (treeIn r r') false = true := hb
            cases hl : treeIn l l' with
            | false => rw [hl] at hb; exact Bool.noConfusion (show false = true from hb)
            | true => rw [hl] at hb; exact key (some w') l' r' (fun u hu => ⟨w', rfl, Option.some.inj hu ▸ objIn_spec _ _ hv⟩) hl hb
/-- a memory holds another one -/
def MIn (a b : Mem) : Prop := a.n = b.n ∧ ∀ i v, a.t.get i = some v → ∃ v', b.t.get i = some v' ∧ OIn v v'
def memIn (a b : Mem) : Bool := cond (Nat.beq a.n b.n) (treeIn a.t b.t) false
theorem memIn_spec {a b : Mem} (h : memIn a b = true) : MIn a b := by
  unfold memIn at h
  cases h1 : Nat.beq a.n b.n with
  | false => rw [h1] at h; exact Bool.noConfusion (show false = true from h)
  | true => rw [h1] at h; exact ⟨Nat.eq_of_beq_eq_true h1, treeIn_spec _ _ h⟩
theorem LiveB.within {σ : Sg} {a b : Mem} (h : MIn a b) {c : Nat} (hl : LiveB σ a c) : LiveB σ b c := by
  obtain ⟨i, o, x, h1, h2, h3, h4⟩ := hl
  obtain ⟨o', h5, h6, _⟩ := h.2 i o h1
  exact ⟨i, o', x, h5, h6.trans h2, h3, h4⟩
theorem MR.within {E : Env} {w0 : World} {σ : Sg} {a b : Mem} {w : World} (h : MIn a b) (hM : MR E w0 σ b w) : MR E w0 σ a w where
  below := hM.below
  t0 := hM.t0
  obj := fun i o hi hl => by
    obtain ⟨o', h1, h2, h3⟩ := h.2 i o hi
    obtain ⟨x, ob, k1, k2, k3, k4⟩ := hM.obj i o' h1 (h2.trans hl)
    exact ⟨x, ob, k1, k2, k3, h3 E σ x ob k4⟩
  inj := fun i j o p x y hi hl hj hp hx hy e => by
    obtain ⟨o', h1, h2, _⟩ := h.2 i o hi
    obtain ⟨p', g1, g2, _⟩ := h.2 j p hj
    exact hM.inj i j o' p' x y h1 (h2.trans hl) g1 (g2.trans hp) hx hy e
  fresh := fun i hi => hM.fresh i (h.1 ▸ hi)
/-! ### stations -/
structure Ent where
  f : FuncId
  args : List Value
  M : Mem
  v : Value
  M' : Mem
def EntOK (P : Program) (e : Ent) : Prop := ∀ (w0 w : World) (σ : Sg) (args' : Array Value), VRL σ e.args args'.toList → MR (mkEnvL P) w0 σ e.M w → Calls P e.f args' w (After (mkEnvL P) w0 σ e.M w [(e.v, e.M')])
def sumsOf : List Ent → Sums
  | [], _, _, _ => none
  | e :: l, f, args, m => cond (Nat.beq e.M.n m.n) (cond (Nat.beq e.f f) (cond (veqL 100 e.args args) (cond (memIn e.M m) (some [(e.v, e.M')]) none) (sumsOf l f args m)) (sumsOf l f args m)) (sumsOf l f args m)
theorem sumsOf_inv : ∀ (L : List Ent) (f : FuncId) (args : List Value) (m : Mem) (l : List (Value × Mem)), sumsOf L f args m = some l → ∃ e ∈ L, e.f = f ∧ e.args = args ∧ MIn e.M m ∧ l = [(e.v, e.M')]
  | [], f, args, m, l, h => by cases h
  | e :: L, f, args, m, l, h => by
    unfold sumsOf at h
    have more : sumsOf L f args m = some l → ∃ e' ∈ e :: L, e'.f = f ∧ e'.args = args ∧ MIn e'.M m ∧ l = [(e'.v, e'.M')] := fun h => by
      obtain ⟨e', h1, h2⟩ := sumsOf_inv L f args m l h
      exact ⟨e', List.mem_cons_of_mem _ h1, h2⟩
    cases h1 : Nat.beq e.M.n m.n with
    | false => rw [h1] at h; exact more h
    | true =>
      cases h2 : Nat.beq e.f f with
      | false => rw [h1, h2] at h; exact more h
      | true =>
        cases h3 : veqL 100 e.args args with
        | false => rw [h1, h2, h3] at h; exact more h
        | true =>
          rw [h1, h2, h3] at h
          have h : cond (memIn e.M m) (some [(e.v, e.M')]) none = some l := h
          cases h4 : memIn e.M m with
          | false => rw [h4] at h; cases h
          | true => rw [h4] at h; exact ⟨e, List.mem_cons_self, Nat.eq_of_beq_eq_true h2, (veq_sound 100).2 _ _ h3, memIn_spec h4, (Option.some.inj h).symm⟩
theorem sumsOf_ok {P : Program} {L : List Ent} (h : ∀ e ∈ L, EntOK P e) (w0 : World) : SOK (mkEnvL P) P w0 (sumsOf L) := by
  intro f args m l hs hne σ w args' hargs hM
  obtain ⟨e, he, h1, h2, h3, h4⟩ := sumsOf_inv L f args m l hs
  subst h1 h2 h4
  refine (h e he w0 w σ args' hargs (hM.within h3)).mono ?_
  rintro x w' ⟨r, hr, σ', v', h1, h2, h5, h6⟩
  refine ⟨r, hr, σ', v', h1, ?_, h5, h6⟩
  exact { ext := h2.ext, size := h2.size, frame := fun b hb hl => h2.frame b hb fun hl' => hl (hl'.within h3), grow := fun b hb => (h2.grow b hb).imp (fun h => h.within h3) id, n := h3.1 ▸ h2.n, old := fun i hi => h2.old i (h3.1 ▸ hi) }
def chk (v : Value) (M' : Mem) (l : List (Value × Mem)) : Bool :=
  match l with
  | [] => false
  | r :: l => match l with
    | [] => cond (veq 100 r.1 v) (memIn M' r.2) false
    | _ :: _ => false
/-- a call is a station -/
theorem station {P : Program} (hP : P.follows .mixedOrders = true) {L : List Ent} (hL : ∀ e ∈ L, EntOK P e) {e : Ent} {fuel d : Nat} (h : chk e.v e.M' (evCallF (mkEnvL P) (sumsOf L) fuel d (.fn e.f) e.args e.M) = true) : EntOK P e := by
  intro w0 w σ args' hargs hM
  rw [evCallF_eq _ rfl] at h
  have hne : evCall (mkEnvL P) (sumsOf L) fuel d (.fn e.f) e.args e.M ≠ [] := fun h' => by rw [h'] at h; cases h
  refine ((evCall_ok (w0 := w0) (mkEnvL_ok P) hP (sumsOf_ok hL w0) fuel d).fn e.f e.args e.M hne σ w args' hargs hM).mono ?_
  rintro x w' ⟨r, hr, σ', v', h1, h2, h5, h6⟩
  generalize evCall (mkEnvL P) (sumsOf L) fuel d (.fn e.f) e.args e.M = l at h hr
  match l, h, hr with
  | [q], h, hr =>
    obtain rfl : r = q := by simpa using hr
    have h : cond (veq 100 r.1 e.v) (memIn e.M' r.2) false = true := h
    cases hv : veq 100 r.1 e.v with
    | false => rw [hv] at h; exact Bool.noConfusion (show false = true from h)
    | true =>
      rw [hv] at h
      have hs := memIn_spec h
      have he := (veq_sound 100).1 _ _ hv
      refine ⟨(e.v, e.M'), List.mem_singleton.2 rfl, σ', v', h1, ?_, he ▸ h5, h6.within hs⟩
      exact { ext := h2.ext, size := h2.size, frame := h2.frame, grow := fun b hb => h2.grow b (hb.within hs), n := Nat.le_trans h2.n (Nat.le_of_eq hs.1.symm), old := h2.old }
  | _ :: _ :: _, h, _ => cases h
end
end Go.AS

/- Stations: how their memories are written down. -/
namespace Go.AS
open Go.RowKit
noncomputable section
variable [Rho]
def ups (t : T Value) (l : List (Nat × Value)) : T Value := @List.rec (Nat × Value) (fun _ => T Value → T Value) (fun t => t) (fun x _ ih t => ih (T.set t x.1 x.2)) l t
def upd (t : T AObj) (l : List (Nat × AObj)) : T AObj := @List.rec (Nat × AObj) (fun _ => T AObj → T AObj) (fun t => t) (fun x _ ih t => ih (T.set t x.1 x.2)) l t
def celO (o : AObj) : T Value :=
  match o with
  | .row c _ _ => c
  | _ => .nil
def celM (o : Option AObj) : T Value := @Option.rec AObj (fun _ => T Value) .nil celO o
/-- an object's cells -/
def cel (t : T AObj) (i : Nat) : T Value := celM (T.getP t (posOf i))
def runN (n : Nat) (v : Value) (l : List Value) : List Value := @Nat.rec (fun _ => List Value) l (fun _ ih => v :: ih) n
def runs (l : List (Nat × Value)) : List Value := @List.rec (Nat × Value) (fun _ => List Value) [] (fun x _ ih => runN x.1 x.2 ih) l
theorem all0 {P : Program} : ∀ e ∈ ([] : List Ent), EntOK P e := fun _ h => by cases h
theorem allc {P : Program} {e : Ent} {l : List Ent} (h : EntOK P e) (k : ∀ e ∈ l, EntOK P e) : ∀ x ∈ e :: l, EntOK P x := fun x hx => by
  rcases List.mem_cons.1 hx with rfl | h'
  · exact h
  · exact k x h'
end
end Go.AS
