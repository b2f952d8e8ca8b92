/- Code, loops and calls. -/
import Derived.Test.YtpbhfckefmboaaaGreatDoorGp39
set_option linter.unusedVariables false
set_option linter.unusedSimpArgs false
set_option linter.unusedSectionVars false
namespace Go.AE
open Go.RowKit
variable {E : Env} {P : Program} {w0 : World}
def Ex.out : Ex → Exit
  | .normal => .normal
  | .exit i => .exit i
  | .ret => .ret
/-- what stands among a frame's deferred calls: marks of loops that were gone through -/
def Marks (B : Nat) (σ : Sg) (m : Mem) (w : World) (ds : List Deferred) : Prop :=
  B ≤ w.heap.size ∧ ds.Pairwise (fun a b => a.target ≠ b.target) ∧ ∀ d ∈ ds, ∃ r, d = { target := .collected r, args := #[] } ∧ B ≤ r ∧ w.heap[r]? = some (.deferred (some [])) ∧ ¬ LiveB σ m r
theorem Marks.nil {B : Nat} {σ : Sg} {m : Mem} {w : World} (h : B ≤ w.heap.size) : Marks B σ m w [] := ⟨h, .nil, fun d hd => by cases hd⟩
theorem Marks.mono {B : Nat} {σ σ' : Sg} {m m' : Mem} {w w' : World} {ds : List Deferred} (h : Marks B σ m w ds) (hf : FG σ m w σ' m' w') : Marks B σ' m' w' ds := by
  refine ⟨Nat.le_trans h.1 hf.size, h.2.1, fun d hd => ?_⟩
  obtain ⟨r, h1, h2, h3, h4⟩ := h.2.2 d hd
  have hlt : r < w.heap.size := (Array.getElem?_eq_some_iff.1 h3).1
  refine ⟨r, h1, h2, (hf.frame r hlt h4).trans h3, fun hl => ?_⟩
  rcases hf.grow r hl with h5 | h5
  · exact h4 h5
  · omega
/-- what a piece of code must answer to -/
def Meets (E : Env) (w0 : World) (N B : Nat) (l : List (Ex × T Value × Mem)) (m : Mem) (σ : Sg) (w : World) (Q : Exit → Act → World → Prop) : Prop :=
  ∀ r ∈ l, ∀ σ' a' w', FG σ m w σ' r.2.2 w' → TR σ' N r.2.1 a' → MR E w0 σ' r.2.2 w' → Marks B σ' r.2.2 w' a'.defers → Q r.1.out a' w'
theorem bindL_nil {α β : Type} (f : α → List β) : bindL [] f = [] := by simp [bindL]
theorem bindL_src {α β : Type} {f : α → List β} {l : List α} (h : bindL l f ≠ []) : l ≠ [] := fun e => by rw [e, bindL_nil] at h; exact h rfl
def CodeOK (E : Env) (P : Program) (w0 : World) (N B : Nat) (rr : Option Nat) (ev : T Value → Mem → List (Ex × T Value × Mem)) (c : Code) : Prop :=
  ∀ n t m σ a w Q, ev t m ≠ [] → TR σ N t a → MR E w0 σ m w → Marks B σ m w a.defers → Meets E w0 N B (ev t m) m σ w Q → c.wpIn (WF rr) n P Q a w
def LoopFrom (rr : Option Nat) (_ : Nat) (P : Program) (c : Code) (Q : Exit → Act → World → Prop) (a : Act) (w : World) : Prop :=
  ∀ (b : Frame) (k : List Item) (cs : List Frame), b.roundOf = rr → ∃ e a' w', Q e a' w' ∧ ArrivesIn (Machine.fenced P (WF rr)) P (lone (b.atR a (.code c :: .inLoop c :: k)) cs w) b k cs e a' w'
theorem room_WF {rr : Option Nat} (n : Nat) : (WF rr).room n := fun _ h => by simp [WF, Fence.wide] at h
theorem LoopFrom.wp {rr : Option Nat} {n : Nat} {c : Code} {Q : Exit → Act → World → Prop} {a : Act} {w : World} (h : LoopFrom rr n P c Q a w) : (Code.loop c).wpIn (WF rr) n P Q a w := fun b k cs hro hb hr => by
  obtain ⟨e, a', w', hq, harr⟩ := h b k cs hro
  exact ⟨e, a', w', hq, .of_steps (.one (fenced_calm hb hr rfl) stepR_loop) harr⟩
theorem LoopFrom.round {rr : Option Nat} {n : Nat} {c : Code} {Q : Exit → Act → World → Prop} {a : Act} {w : World} (h : c.wpIn (WF rr) n P (Exit.then (LoopFrom rr n P c Q) Q) a w) : LoopFrom rr n P c Q a w := fun b k cs hro => by
  obtain ⟨e, a₁, w₁, hq, harr⟩ := h b (.inLoop c :: k) cs hro trivial (room_WF _)
  cases e with
  | normal =>
    obtain ⟨e₂, a₂, w₂, hq₂, harr₂⟩ := hq b k cs hro
    exact ⟨e₂, a₂, w₂, hq₂, .of_steps (StepsIn.trans harr (.one (fenced_calm (n := 0) trivial (room_WF _) rfl) stepR_inLoop)) harr₂⟩
  | exit id => exact ⟨_, a₁, w₁, hq, .pass (x := .inLoop c) rfl (fun _ _ => .inl (by simp)) harr⟩
  | goto l => exact ⟨_, a₁, w₁, hq, .pass (x := .inLoop c) rfl (fun _ _ => .inl (by simp)) harr⟩
  | ret => exact ⟨_, a₁, w₁, hq, .pass (x := .inLoop c) rfl (fun _ _ => .inl (by simp)) harr⟩
  | panic ch => exact ⟨_, a₁, w₁, hq, .pass (x := .inLoop c) rfl (fun _ _ => .inl (by simp)) harr⟩
  | outgrown => exact ⟨_, a₁, w₁, hq, .pass (x := .inLoop c) rfl (fun _ _ => .inl (by simp)) harr⟩
theorem evLoop_from {N B : Nat} {rr : Option Nat} {ev : T Value → Mem → List (Ex × T Value × Mem)} {c : Code} (hc : CodeOK E P w0 N B rr ev c) (fl : Nat) : ∀ n t m σ a w Q, evLoop ev n t m ≠ [] → TR σ N t a → MR E w0 σ m w → Marks B σ m w a.defers → Meets E w0 N B (evLoop ev n t m) m σ w Q → LoopFrom rr fl P c Q a w := by
  intro n
  induction n with
  | zero => intro t m σ a w Q hne; exact absurd rfl hne
  | succ n ih =>
    intro t m σ a w Q hne hT hM hK hQ
    refine LoopFrom.round ?_
    simp only [evLoop] at hne hQ
    have h0 := bindL_ne hne
    refine hc fl t m σ a w _ (bindL_src hne) hT hM hK ?_
    rintro ⟨e, t1, m1⟩ hr σ' a' w' hf hT' hM' hd
    obtain ⟨h1, h2⟩ := h0 _ hr
    cases e with
    | normal =>
      exact ih t1 m1 σ' a' w' Q h1 hT' hM' hd (fun r hr' σ2 a2 w2 g1 g2 g3 g4 => hQ r (h2 r hr') σ2 a2 w2 (hf.trans g1) g2 g3 g4)
    | exit i => exact hQ (.exit i, t1, m1) (h2 _ (List.mem_singleton.2 rfl)) σ' a' w' hf hT' hM' hd
    | ret => exact hQ (.ret, t1, m1) (h2 _ (List.mem_singleton.2 rfl)) σ' a' w' hf hT' hM' hd
theorem both_ne {α : Type} {l r : List α} (h : both l r ≠ []) : l ≠ [] ∧ r ≠ [] ∧ (∀ x ∈ l, x ∈ both l r) ∧ ∀ x ∈ r, x ∈ both l r := by
  unfold both at h ⊢
  split at h
  · exact ⟨by simp, by simp, fun x hx => List.mem_append_left _ hx, fun x hx => List.mem_append_right _ hx⟩
  · exact absurd rfl h
theorem topB_inv {σ : Sg} {v : Value} (h : VR σ (.complex .f32 1 0) v) : ∃ b, v = .bool b := by
  cases h with
  | topB b => exact ⟨b, rfl⟩
  | refl h => cases h
/-! ### a range over a function -/
theorem run_getLoop {w : World} {l : Nat} {L : Loop} (h : w.heap[l]? = some (.loop L)) : (Instr.getLoop l).run P w = .ok L w := by
  simp only [Instr.getLoop, Sem.run_bind, run_getObj (P := P) h, Result.andThen_ok]
  rfl
theorem MR.aside {σ : Sg} {m : Mem} {w : World} (h : MR E w0 σ m w) (o : Obj) : MR E w0 σ m (w.alloc o) := by
  refine ⟨h.below.alloc h.below.size o, fun i p hi hp => ?_, h.inj, h.fresh⟩
  obtain ⟨x, ob, hx, hB, hob, hor⟩ := h.obj i p hi hp
  exact ⟨x, ob, hx, hB, (Below.heap_alloc w o x.b (Array.getElem?_eq_some_iff.1 hob).1).trans hob, hor⟩
theorem FG.aside (σ : Sg) (m : Mem) (w : World) (o : Obj) : FG σ m w σ m (w.alloc o) :=
  ⟨Ext.refl σ, by simp, fun b hb _ => Below.heap_alloc w o b hb, fun _ h => .inl h, Nat.le_refl _, fun _ _ => rfl⟩
/-- what lives is laid aside, whatever its block holds now -/
theorem MR.kill {σ : Sg} {m : Mem} {w : World} (h : MR E w0 σ m w) {i : Nat} {o : AObj} (hr : m.t.get i = some o) (ho : o.live = true) {x : Inf} (hx : σ i = some x) (ob : Obj) :
    MR E w0 σ ⟨m.n, m.t.set i .dead⟩ { w with heap := w.heap.setIfInBounds x.b ob } ∧ FG σ m w σ ⟨m.n, m.t.set i .dead⟩ { w with heap := w.heap.setIfInBounds x.b ob } ∧ ¬ LiveB σ ⟨m.n, m.t.set i .dead⟩ x.b ∧ w0.heap.size ≤ x.b ∧ x.b < w.heap.size := by
  obtain ⟨y, ob0, hy, hB, hob0, _⟩ := h.obj i o hr ho
  obtain rfl : y = x := by rw [hx] at hy; exact (Option.some.inj hy).symm
  have hlt : y.b < w.heap.size := (Array.getElem?_eq_some_iff.1 hob0).1
  have hnl : ¬ LiveB σ ⟨m.n, m.t.set i .dead⟩ y.b := by
    rintro ⟨j, p, z, hj, hp, hz, hb⟩
    by_cases e : i = j
    · subst e; rw [T.get_set_same] at hj; cases hj; cases hp
    · rw [T.get_set_ne _ _ e] at hj
      exact e (h.inj i j o p y z hr ho hj hp hx hz hb.symm)
  have hoth : ∀ k, k ≠ y.b → (w.heap.setIfInBounds y.b ob)[k]? = w.heap[k]? := fun k hk => by simp [Ne.symm hk]
  refine ⟨(h.drop i).offstage hB hnl (by simp) hoth rfl rfl rfl, ⟨Ext.refl σ, by simp, fun b _ hl => hoth b (fun e => hl ⟨i, o, y, hr, ho, hx, e.symm⟩), fun b hb => .inl hb.dead, Nat.le_refl _, fun _ _ => rfl⟩, hnl, hB, hlt⟩
theorem seqCall_spec {g : Value} {i : Nat} {f : FuncId} {args : List Value} (h : seqCall E g i = some (f, args)) : ∃ first cap fn, g = .func (.func f) first cap ∧ E.funcs.get f = some fn ∧ args = first.toList ++ [yld i] ++ cap.toList := by
  unfold seqCall at h
  split at h
  · split at h
    · rename_i fn hfn; cases h; exact ⟨_, _, fn, rfl, hfn, rfl⟩
    · cases h
  · cases h
set_option maxHeartbeats 1000000 in
theorem evRange_wp (hE : EOK E P) {call : CallF} (hcall : CallOK E P w0 call) {N B n : Nat} {g : Operand} {ps : Array Tmp} {assign body : Code} {t : T Value} {m : Mem} {σ : Sg} {a : Act} {w : World} {Q : Exit → Act → World → Prop}
    (hne : evRange E call N g ps assign body t m ≠ []) (hT : TR σ N t a) (hM : MR E w0 σ m w) (hK : Marks B σ m w a.defers) (hQ : Meets E w0 N B (evRange E call N g ps assign body t m) m σ w Q) : (Code.rangeFunc g ps assign body).wpIn (WF none) n P Q a w := by
  unfold evRange at hne hQ
  split at hne
  · rename_i f args hsc
    simp only [hsc] at hQ
    obtain ⟨first, cap, fn, hg, hfn, rfl⟩ := seqCall_spec hsc
    obtain ⟨hP, hname, bd, hbd⟩ := hE.funcs f fn hfn
    have hv := evalT_sound hT g
    rw [hg] at hv
    obtain ⟨first', cap', hv', hfst, hcap⟩ := hv.func_inv
    have hM1 := hM.aside (.deferred (some []))
    have hF1 := FG.aside σ m w (.deferred (some []))
    obtain ⟨w1, hw1⟩ : ∃ w1, w.alloc (.deferred (some [])) = w1 := ⟨_, rfl⟩
    rw [hw1] at hM1 hF1
    have hs1 : w1.heap.size = w.heap.size + 1 := by rw [← hw1]; simp
    refine wpIn_rangeFunc (fun fn0 _ => ?_)
    let L : Loop := { state := .ready, pending := none, fn := fn0, tmps := a.tmps, params := ps, assign, body, defers := w.heap.size }
    have hor : OR E σ ⟨w1.heap.size, 0, 0, 0⟩ (.loop t N ps assign body) (.loop L) := ⟨rfl, rfl, rfl, rfl, rfl, hT.size, hT.val⟩
    obtain ⟨hM2, hF2⟩ := hM1.new (id := m.n) (hM.fresh m.n (Nat.le_refl _)) (n' := m.n + 1) (by omega) (by omega) (x := ⟨w1.heap.size, 0, 0, 0⟩) rfl hor
    have hF2 := hF2 (Nat.le_refl _)
    obtain ⟨σ2, hσ2⟩ : ∃ σ2 : Sg, (fun j => if j = m.n then some (⟨w1.heap.size, 0, 0, 0⟩ : Inf) else σ j) = σ2 := ⟨_, rfl⟩
    rw [hσ2] at hM2 hF2
    have hx2 : σ2 m.n = some ⟨w1.heap.size, 0, 0, 0⟩ := by rw [← hσ2]; simp
    obtain ⟨w2, hw2⟩ : ∃ w2, w1.alloc (.loop L) = w2 := ⟨_, rfl⟩
    rw [hw2] at hM2 hF2
    have hb : ¬ fn.body = none := by rw [hbd]; simp
    have hnm : ¬ fn.name = "runtime.NumGoroutine" := by simpa using hname
    refine ⟨w1.heap.size, [{ target := .collected w.heap.size, args := #[] }], w2, { target := .fn (.func f) cap', args := first' ++ #[.func (.yield w1.heap.size) #[] #[]] }, w2, f, (first' ++ #[.func (.yield w1.heap.size) #[] #[]]) ++ cap', w2, ?_, ?_, fun _ _ => trivial, ?_, WF_depth _, callsIn_W ?_⟩
    · show (Instr.enterLoop fn0 a.tmps ps assign body none).run P w = _
      rw [← hw2, ← hw1]
      simp [Instr.enterLoop, L]
    · simp [resolve, hv', Deferred.ofValue]
      rfl
    · simp [invoke, callFunc, hP, hnm, hb]
    · have hargs : VRL σ2 (first.toList ++ [yld m.n] ++ cap.toList) ((first' ++ #[Value.func (.yield w1.heap.size) #[] #[]]) ++ cap').toList := by
        simp only [Array.toList_append]
        have he := hF1.ext.trans hF2.ext
        exact ((hfst.mono he).append (VRL.cons (.yld hx2) (VRL.nil σ2))).append (hcap.mono he)
      refine (hcall.fn f _ _ (bindL_src hne) σ2 w2 _ hargs hM2).mono ?_
      rintro e w3 ⟨q, hq, σ3, v3, rfl, hF3, _, hM3⟩
      obtain ⟨h1, h2⟩ := bindL_ne hne q hq
      unfold endA at h1 h2
      split at h1
      · rename_i t3 N3 ps3 as3 bd3 hi3
        simp only [hi3] at h2
        have hx3 : σ3 m.n = some ⟨w1.heap.size, 0, 0, 0⟩ := hF3.ext _ _ hx2
        obtain ⟨ob, hob, hor3, hlt⟩ := hM3.iter hi3 rfl hx3
        cases ob with
        | loop L3 =>
          obtain ⟨s1, s2, _⟩ := hor3
          have hg3 := run_getObj (P := P) hob
          obtain ⟨hM4, hF4, _, _, _⟩ := hM3.kill hi3 rfl hx3 (.loop { L3 with state := .exhausted })
          show ∃ jump w4, (Instr.endLoop w1.heap.size).run P w3 = .ok jump w4 ∧ _
          refine ⟨none, { w3 with heap := w3.heap.setIfInBounds w1.heap.size (.loop { L3 with state := .exhausted }) }, ?_, ?_⟩
          · have hst : (LoopState.ready == LoopState.busy) = false := rfl
            simp only [Instr.endLoop, Sem.run_bind, run_getLoop (P := P) hob, Result.andThen_ok, s1, hst, Bool.false_eq_true, if_false, run_setObj (P := P) hob (by intro a b c e; cases e), s2]
            rfl
          · refine hQ (.normal, t, _) (h2 _ (List.mem_singleton.2 rfl)) σ3 _ _ (((hF1.trans hF2).trans hF3).trans hF4) ?_ hM4 ?_
            · exact ⟨hT.size, fun i => (hT.val i).mono (((hF1.trans hF2).trans hF3).ext)⟩
            · refine Marks.mono ?_ (hF3.trans hF4)
              have hK2 := hK.mono (hF1.trans hF2)
              refine ⟨hK2.1, ?_, ?_⟩
              · show List.Pairwise _ (_ :: a.defers)
                refine List.pairwise_cons.2 ⟨fun d hd => ?_, hK2.2.1⟩
                obtain ⟨r, rfl, _, hr, _⟩ := hK.2.2 d hd
                have := (Array.getElem?_eq_some_iff.1 hr).1
                intro e
                have e2 : w.heap.size = r := by simpa using e
                omega
              · intro d hd
                rcases List.mem_cons.1 hd with rfl | hd
                · refine ⟨w.heap.size, rfl, hK.1, ?_, fun hl => ?_⟩
                  · rw [← hw2, Below.heap_alloc w1 _ _ (by omega), ← hw1]; exact heap_alloc_last w _
                  · rcases hF2.grow _ hl with h5 | h5
                    · obtain ⟨j, o, z, hj, ho, hz, hb⟩ := h5
                      obtain ⟨z', oz, hz', _, hoz, _⟩ := hM.obj j o hj ho
                      obtain rfl : z' = z := by rw [hz] at hz'; exact (Option.some.inj hz').symm
                      have := (Array.getElem?_eq_some_iff.1 hoz).1
                      omega
                    · omega
                · exact hK2.2.2 d hd
        | _ => exact hor3.elim
      · exact absurd rfl h1
  · exact absurd rfl hne
theorem evCode_wp (hE : EOK E P) (hP : P.follows .mixedOrders = true) {call : CallF} (hcall : CallOK E P w0 call) (rd : Bool) {rr : Option Nat} (hrd : rd = false → rr = none) (N B fuel : Nat) : ∀ c, CodeOK E P w0 N B rr (evCode E call rd N fuel c) c := by
  intro c
  induction c with
  | skip => intro n t m σ a w Q _ hT hM hK hQ; exact wpIn_skip (hQ (.normal, t, m) (List.mem_singleton.2 rfl) σ a w (FG.refl σ m w) hT hM hK)
  | region id ops d =>
    intro n t m σ a w Q hne hT hM hK hQ
    simp only [evCode] at hne hQ
    have h0 := bindL_ne hne
    have h1 := bindL_src hne
    cases d with
    | true => exact evDraw_wp hE hP hcall h1 hT hM (fun r hr σ' a' w' g1 g2 g3 g4 => hQ (.normal, r.1, r.2) ((h0 r hr).2 _ (List.mem_singleton.2 rfl)) σ' a' w' g1 g2 g3 (g4 ▸ hK.mono g1))
    | false =>
      refine wpIn_region ?_
      rw [List.range_eq_range', ← Array.length_toList]
      exact evOps_wp hE hcall ops.toList 0 rfl t m σ a w h1 hT hM (fun r hr σ' a' w' g1 g2 g3 g4 => hQ (.normal, r.1, r.2) ((h0 r hr).2 _ (List.mem_singleton.2 rfl)) σ' a' w' g1 g2 g3 (g4 ▸ hK.mono g1))
  | seq x y ihx ihy =>
    intro n t m σ a w Q hne hT hM hK hQ
    simp only [evCode] at hne hQ
    have h0 := bindL_ne hne
    refine wpIn_seq (ihx n t m σ a w _ (bindL_src hne) hT hM hK ?_)
    rintro ⟨e, t1, m1⟩ hr σ' a' w' hf hT' hM' hd
    obtain ⟨h1, h2⟩ := h0 _ hr
    cases e with
    | normal => exact ihy n t1 m1 σ' a' w' Q h1 hT' hM' hd (fun r hr' σ2 a2 w2 g1 g2 g3 g4 => hQ r (h2 r hr') σ2 a2 w2 (hf.trans g1) g2 g3 g4)
    | exit i => exact hQ (.exit i, t1, m1) (h2 _ (List.mem_singleton.2 rfl)) σ' a' w' hf hT' hM' hd
    | ret => exact hQ (.ret, t1, m1) (h2 _ (List.mem_singleton.2 rfl)) σ' a' w' hf hT' hM' hd
  | cond x y z ihy ihz =>
    intro n t m σ a w Q hne hT hM hK hQ
    have hv := evalT_sound hT x
    simp only [evCode] at hne hQ
    split at hne
    · rename_i hx; rw [hx] at hv hQ
      exact wpIn_cond_true (hv.simple_inv rfl) (ihy n t m σ a w Q hne hT hM hK hQ)
    · rename_i hx; rw [hx] at hv hQ
      exact wpIn_cond_false (hv.simple_inv rfl) (ihz n t m σ a w Q hne hT hM hK hQ)
    · rename_i hx; rw [hx] at hv hQ
      obtain ⟨b, hb⟩ := topB_inv hv
      obtain ⟨h1, h2, h3, h4⟩ := both_ne hne
      cases b with
      | true => exact wpIn_cond_true hb (ihy n t m σ a w Q h1 hT hM hK (fun r hr => hQ r (h3 r hr)))
      | false => exact wpIn_cond_false hb (ihz n t m σ a w Q h2 hT hM hK (fun r hr => hQ r (h4 r hr)))
    · exact absurd rfl hne
  | block id y ih =>
    intro n t m σ a w Q hne hT hM hK hQ
    simp only [evCode] at hne hQ
    have h0 := bindL_ne hne
    refine wpIn_block (ih n t m σ a w _ (bindL_src hne) hT hM hK ?_)
    rintro ⟨e, t1, m1⟩ hr σ' a' w' hf hT' hM' hd
    obtain ⟨h1, h2⟩ := h0 _ hr
    cases e with
    | normal => exact hQ (.normal, t1, m1) (h2 _ (List.mem_singleton.2 rfl)) σ' a' w' hf hT' hM' hd
    | exit i =>
      have := hQ _ (h2 _ (List.mem_singleton.2 rfl)) σ' a' w' hf hT' hM' hd
      simp only [Ex.out, Exit.inBlock]
      by_cases e : i = id
      · rw [if_pos e]
        have hb : Nat.beq id i = true := by subst e; exact Nat.beq_refl _
        simp only [hb, cond] at this
        exact this
      · rw [if_neg e]
        have hb : Nat.beq id i = false := by
          cases h : Nat.beq id i with
          | false => rfl
          | true => exact absurd (Nat.eq_of_beq_eq_true h).symm e
        simp only [hb, cond] at this
        exact this
    | ret => exact hQ (.ret, t1, m1) (h2 _ (List.mem_singleton.2 rfl)) σ' a' w' hf hT' hM' hd
  | loop y ih =>
    intro n t m σ a w Q hne hT hM hK hQ
    simp only [evCode] at hne hQ
    exact (evLoop_from ih n fuel t m σ a w Q hne hT hM hK hQ).wp
  | exit id => intro n t m σ a w Q _ hT hM hK hQ; exact wpIn_exit (hQ (.exit id, t, m) (List.mem_singleton.2 rfl) σ a w (FG.refl σ m w) hT hM hK)
  | ret => intro n t m σ a w Q _ hT hM hK hQ; exact wpIn_ret (hQ (.ret, t, m) (List.mem_singleton.2 rfl) σ a w (FG.refl σ m w) hT hM hK)
  | rangeFunc g ps as bd _ _ =>
    intro n t m σ a w Q hne hT hM hK hQ
    simp only [evCode] at hne hQ
    split at hne
    · obtain rfl := hrd rfl
      exact evRange_wp hE hcall hne hT hM hK hQ
    · exact absurd rfl hne
  | _ => intro n t m σ a w Q hne; exact absurd rfl hne
/-! ### results -/
theorem resultsA_sound (hE : EOK E P) {N : Nat} {t : T Value} {m : Mem} {σ : Sg} {a : Act} {w : World} (hT : TR σ N t a) (hM : MR E w0 σ m w) : ∀ l vs, resultsA E t m l = some vs →
    ∃ vs', (l.mapM (fun | .tmp t => pure (a.tmps.getD t undef) | .cell x t => do loadVar t (← asAddr (a.tmps.getD x undef)) : ResultVar → Sem Value)).run P w = .ok vs' w ∧ VRL σ vs vs' := by
  intro l
  induction l with
  | nil => intro vs h; simp only [resultsA] at h; cases h; exact ⟨[], rfl, VRL.nil σ⟩
  | cons r l ih =>
    intro vs h
    cases r with
    | tmp i =>
      simp only [resultsA] at h
      split at h
      · rename_i v rs hv hrs
        cases h
        obtain ⟨vs', h1, h2⟩ := ih _ hrs
        have := hT.val i
        simp only [tv, hv] at this
        refine ⟨a.tmps.getD i undef :: vs', ?_, VRL.cons this h2⟩
        simp only [List.mapM_cons, Sem.run_bind, Sem.run_pure, Result.andThen_ok, h1]
      · cases h
    | cell x ty =>
      simp only [resultsA] at h
      split at h
      · rename_i p hp
        split at h
        · rename_i v rs hv hrs
          cases h
          obtain ⟨vs', h1, h2⟩ := ih _ hrs
          have hx := hT.val x
          simp only [tv, hp] at hx
          obtain ⟨v', g1, g2⟩ := loadAt_sound hE hM hv hx
          refine ⟨v' :: vs', ?_, VRL.cons g2 h2⟩
          simp only [List.mapM_cons]
          generalize a.tmps.getD x undef = p' at hx g1 ⊢
          cases hx with
          | ptr hσ =>
            simp only [Instr.loadAt, Instr.sureAddr, Sem.run_bind, Sem.run_pure, Result.andThen_ok] at g1
            have hA : ∀ q, asAddr (.pointer (some q)) = pure q := fun _ => rfl
            simp only [hA, Sem.run_bind, Sem.run_pure, Result.andThen_ok, g1, h1]
          | refl h => simp [simple] at h
        · cases h
      · cases h
theorem tupled_sound {σ : Sg} {l l' : List Value} (h : VRL σ l l') : VR σ (tupled l) (tupled l') := by
  have key : ∀ {l l' : List Value}, VRL σ l l' → VR σ (.tuple l.toArray) (.tuple l'.toArray) := fun h => .tuple_of (by simpa using h)
  match l, l', h with
  | [], [], h => exact key h
  | [x], [y], h => exact h.head
  | x :: x2 :: l, y :: y2 :: l', h => exact key h
  | [], _ :: _, h => exact absurd h.1 (by simp)
  | _ :: _, [], h => exact absurd h.1 (by simp)
  | [_], _ :: _ :: _, h => exact absurd h.1 (by simp)
  | _ :: _ :: _, [_], h => exact absurd h.1 (by simp)
theorem results_sound (hE : EOK E P) {N : Nat} {t : T Value} {m : Mem} {σ : Sg} {a : Act} {w : World} (hT : TR σ N t a) (hM : MR E w0 σ m w) {fn : Func} {vs : List Value} (h : resultsA E t m fn.results.toList = some vs) :
    ∃ v', (results fn a.tmps).run P w = .ok v' w ∧ VR σ (tupled vs) v' := by
  obtain ⟨vs', h1, h2⟩ := resultsA_sound hE hT hM _ _ h
  refine ⟨tupled vs', ?_, tupled_sound h2⟩
  unfold results
  rw [Array.mapM_eq_mapM_toList]
  simp only [Sem.run_bind, Sem.run_map]
  erw [h1]
  simp only [Result.andThen_ok, Sem.run_pure]
  match vs' with
  | [] => rfl
  | [_] => rfl
  | _ :: _ :: _ => rfl
/-- what is asked of what is known of functions -/
def SOK (E : Env) (P : Program) (w0 : World) (S : Sums) : Prop :=
  ∀ f args m l, S f args m = some l → l ≠ [] → ∀ (σ : Sg) (w : World) (args' : Array Value), VRL σ args args'.toList → MR E w0 σ m w → Calls P f args' w (After E w0 σ m w l)
/-- the temporaries at a function's entry -/
theorem TR.enter {σ : Sg} {N : Nat} {args : List Value} {args' : Array Value} (hargs : VRL σ args args'.toList) (hle : args.length ≤ N) : TR σ N (T.ofList args) { tmps := args' ++ Array.replicate (N - args'.size) undef, defers := [] } := by
  refine ⟨?_, ?_⟩
  · have := hargs.1
    simp at this ⊢
    omega
  · intro i
    simp only [tv, T.get_ofList]
    have hl := hargs.1
    have hl' : args.length = args'.size := by simpa using hl
    rcases Nat.lt_or_ge i args.length with h | h
    · have hv := hargs.2 i h
      simp only [List.getElem?_eq_getElem h]
      have e1 : args.getD i und = args[i] := by simp [List.getD, List.getElem?_eq_getElem h]
      have h' : i < args'.size := by omega
      have e2 : (args' ++ Array.replicate (N - args'.size) undef).getD i undef = args'.toList.getD i und := by
        have h3 : (args' ++ Array.replicate (N - args'.size) undef)[i]? = args'[i]? := Array.getElem?_append_left h'
        simp only [Array.getD_eq_getD_getElem?, h3]
        simp [h']
      rw [e2, ← e1]; exact hv
    · rw [List.getElem?_eq_none h]
      have e2 : (args' ++ Array.replicate (N - args'.size) undef).getD i undef = undef := by
        simp only [Array.getD_eq_getD_getElem?]
        rw [Array.getElem?_append_right (by omega), Array.getElem?_replicate]
        split <;> rfl
      rw [e2]; exact VR.undef σ
/-- a frame leaves: its marks are taken in -/
theorem leaves_marks {F : Fence} {n : Nat} {fn : Func} {tmps : Array Value} {R : Ending → World → Prop} {B : Nat} {σ : Sg} {m : Mem} : ∀ (ds : List Deferred) (w : World), MR E w0 σ m w → Marks B σ m w ds → w0.heap.size ≤ B →
    (∀ w', MR E w0 σ m w' → w.heap.size = w'.heap.size → (∀ b, b < w.heap.size → (B ≤ b → LiveB σ m b) → w'.heap[b]? = w.heap[b]?) → LeavesInM F n P fn tmps R [] .returning w') → LeavesInM F n P fn tmps R ds .returning w := by
  intro ds
  induction ds with
  | nil => intro w hM _ _ h; exact h w hM rfl (fun _ _ _ => rfl)
  | cons d ds ih =>
    intro w hM hK hB h
    obtain ⟨r, rfl, h1, h2, h3⟩ := hK.2.2 d (List.mem_cons_self ..)
    obtain ⟨hp1, hp2⟩ := List.pairwise_cons.1 hK.2.1
    have hlt : r < w.heap.size := (Array.getElem?_eq_some_iff.1 h2).1
    have hoth : ∀ k, k ≠ r → (w.heap.setIfInBounds r (.deferred none))[k]? = w.heap[k]? := fun k hk => by simp [Ne.symm hk]
    have hM' : MR E w0 σ m { w with heap := w.heap.setIfInBounds r (.deferred none) } := hM.offstage (Nat.le_trans hB h1) h3 (by simp) hoth rfl rfl rfl
    refine ⟨by simp, .inl ⟨r, { w with heap := w.heap.setIfInBounds r (.deferred none) }, rfl, ?_, ?_⟩⟩
    · simp only [Instr.takeDeferred, Sem.run_bind, run_getObj (P := P) h2, Result.andThen_ok, run_setObj (P := P) h2 (by intro a b c e; cases e)]
      rfl
    · refine ih _ hM' ⟨by simpa using hK.1, hp2, fun d hd => ?_⟩ hB ?_
      · obtain ⟨r', rfl, g1, g2, g3⟩ := hK.2.2 d (List.mem_cons_of_mem _ hd)
        have hne : r' ≠ r := fun e => hp1 _ hd (by rw [e])
        exact ⟨r', rfl, g1, (hoth r' hne).trans g2, g3⟩
      · intro w' g1 g2 g3
        refine h w' g1 (by simpa using g2) (fun b hb hl => ?_)
        have hbr : b ≠ r := fun e => h3 (by have := hl (by omega); rwa [e] at this)
        rw [g3 b (by simpa using hb) hl]
        exact hoth b hbr
theorem evFn_ok (hE : EOK E P) (hP : P.follows .mixedOrders = true) {call : CallF} (hcall : CallOK E P w0 call) {fuel : Nat} {f : FuncId} {args : List Value} {m : Mem} (hne : evFn E call fuel f args m ≠ []) {σ : Sg} {w : World} {args' : Array Value} (hargs : VRL σ args args'.toList) (hM : MR E w0 σ m w) :
    Calls P f args' w (After E w0 σ m w (evFn E call fuel f args m)) := by
  generalize hL : evFn E call fuel f args m = L at hne ⊢
  unfold evFn at hL
  split at hL
  · exact absurd hL.symm hne
  · rename_i fn hfn
    obtain ⟨hf, _, _⟩ := hE.funcs f fn hfn
    split at hL
    · exact absurd hL.symm hne
    · rename_i c hb
      split at hL
      · exact absurd hL.symm hne
      · rename_i hle
        have hle' : args.length ≤ fn.ntmps := Nat.le_of_ble_eq_true hle
        subst hL
        have h0 := bindL_ne hne
        refine calls_of_W (r := none) (n := 0) (callsIn_of_wp_marks hf hb trivial (evCode_wp hE hP hcall false (fun _ => rfl) fn.ntmps w.heap.size fuel c 0 _ m σ _ w _ (bindL_src hne) (TR.enter hargs hle') hM (Marks.nil (Nat.le_refl _)) ?_))
        rintro ⟨e, t1, m1⟩ hr σ' a' w' hf' hT' hM' hd
        obtain ⟨h1, h2⟩ := h0 _ hr
        have out : ∀ vs, resultsA E t1 m1 fn.results.toList = some vs → (tupled vs, m1) ∈ bindL (evCode E call false fn.ntmps fuel c (T.ofList args) m) (fun
            | (.exit _, _, _) => []
            | (_, t, m) => match resultsA E t m fn.results.toList with
              | some l => [(tupled l, m)]
              | none => []) → LeavesInM (WF none) 0 P fn a'.tmps (After E w0 σ m w (bindL (evCode E call false fn.ntmps fuel c (T.ofList args) m) (fun
            | (.exit _, _, _) => []
            | (_, t, m) => match resultsA E t m fn.results.toList with
              | some l => [(tupled l, m)]
              | none => []))) a'.defers .returning w' := by
          intro vs hvs hmem
          refine leaves_marks a'.defers w' hM' hd hM.below.size (fun w'' g1 g2 g3 => ?_)
          obtain ⟨v', k1, k2⟩ := results_sound hE hT' g1 hvs
          refine ⟨v', k1, (tupled vs, m1), hmem, σ', v', rfl, ⟨hf'.ext, by have := hf'.size; omega, fun b hb hl => ?_, hf'.grow, hf'.n, hf'.old⟩, k2, g1⟩
          rw [g3 b (by have := hf'.size; omega) (fun hB => by omega)]
          exact hf'.frame b hb hl
        cases e with
        | exit i => exact absurd rfl h1
        | normal =>
          simp only at h1 h2
          split at h1
          · rename_i vs hvs
            simp only [hvs] at h2
            exact out vs hvs (h2 _ (List.mem_singleton.2 rfl))
          · exact absurd rfl h1
        | ret =>
          simp only at h1 h2
          split at h1
          · rename_i vs hvs
            simp only [hvs] at h2
            exact out vs hvs (h2 _ (List.mem_singleton.2 rfl))
          · exact absurd rfl h1
theorem setTs_TR {σ : Sg} {N : Nat} : ∀ {ps : List Tmp} {args args' : List Value} {t : T Value} {tmps : Array Value}, VRL σ args args' → TR σ N t { tmps := tmps, defers := [] } →
    TR σ N (setTs N t ps args) { tmps := (ps.zip args').foldl (fun tmps (t, a) => tmps.setIfInBounds t a) tmps, defers := [] } := by
  intro ps
  induction ps with
  | nil => intro args args' t tmps _ h; exact h
  | cons p ps ih =>
    intro args args' t tmps hv h
    cases args with
    | nil =>
      obtain rfl : args' = [] := List.eq_nil_of_length_eq_zero hv.1.symm
      exact h
    | cons v args =>
      cases args' with
      | nil => exact absurd hv.1 (by simp)
      | cons v' args' =>
        simp only [setTs, List.zip_cons_cons, List.foldl_cons]
        exact ih hv.tail (h.put (some p) hv.head)
set_option maxHeartbeats 1000000 in
theorem evYield_ok (hE : EOK E P) (hP : P.follows .mixedOrders = true) {call : CallF} (hcall : CallOK E P w0 call) {fuel i : Nat} {args : List Value} {m : Mem} (hne : evYield E call fuel i args m ≠ []) {σ : Sg} {w : World} {args' : Array Value} {x : Inf} (hx : σ i = some x) (hargs : VRL σ args args'.toList) (hM : MR E w0 σ m w) :
    ∃ f tmps as body, (Instr.yield x.b args').run P w = .ok (.round x.b f tmps as body) w ∧ ∀ r n, RoundIn (WF r) n P x.b f tmps as body w (After E w0 σ m w (evYield E call fuel i args m)) := by
  generalize hL : evYield E call fuel i args m = R at hne ⊢
  unfold evYield at hL
  split at hL
  · rename_i t N ps assign body hi
    split at hL
    · rename_i hlen
      have hlen' : args.length = ps.size := Nat.eq_of_beq_eq_true hlen
      subst hL
      obtain ⟨ob, hob, hor, hlt⟩ := hM.iter hi rfl hx
      cases ob with
      | loop L =>
        obtain ⟨s1, s2, rfl, rfl, rfl, s6, s7⟩ := hor
        have hg := run_getObj (P := P) hob
        have hsz : args'.size = L.params.size := by have := hargs.1; simp at this; omega
        refine ⟨L.fn, (L.params.zip args').foldl (fun tmps (t, a) => tmps.setIfInBounds t a) L.tmps, L.assign, L.body, ?_, fun r n => roundIn_of_wpIn trivial ?_⟩
        · simp only [Instr.yield, Sem.run_bind, run_getLoop (P := P) hob, Result.andThen_ok, hsz, ne_eq, not_true_eq_false, if_false]
          rfl
        · rw [WF_round]
          have h0 := bindL_ne hne
          have hT0 : TR σ N (setTs N t L.params.toList args) { tmps := (L.params.zip args').foldl (fun tmps (t, a) => tmps.setIfInBounds t a) L.tmps, defers := [] } := by
            have := setTs_TR (ps := L.params.toList) (N := N) hargs (t := t) (tmps := L.tmps) ⟨s6, s7⟩
            rw [← Array.foldl_toList, Array.toList_zip]
            exact this
          refine evCode_wp hE hP hcall true (rr := some x.b) (fun e => by cases e) N 0 fuel L.assign n _ m σ _ w _ (bindL_src hne) hT0 hM (Marks.nil (Nat.zero_le _)) ?_
          rintro ⟨e1, t1, m1⟩ hr1 σ1 a1 w1 hf1 hT1 hM1 hK1
          obtain ⟨h1, h2⟩ := h0 _ hr1
          unfold roundMid at h1 h2
          cases e1 with
          | exit _ => exact absurd rfl h1
          | ret => exact absurd rfl h1
          | normal =>
            simp only at h1 h2
            split at h1
            · rename_i t2 N2 ps2 as2 body2 hi1
              simp only [hi1] at h2
              have hx1 : σ1 i = some x := hf1.ext _ _ hx
              obtain ⟨ob1, hob1, hor1, hlt1⟩ := hM1.iter hi1 rfl hx1
              cases ob1 with
              | loop L1 =>
                have hor1' := hor1
                obtain ⟨q1, q2, q3, q4, q5, q6, q7⟩ := hor1
                have hg1 := run_getObj (P := P) hob1
                obtain ⟨hM2, hF2, hnl, hB, _⟩ := hM1.kill hi1 rfl hx1 (.loop { L1 with state := .busy })
                obtain ⟨w2, hw2⟩ : ∃ w2 : World, { w1 with heap := w1.heap.setIfInBounds x.b (.loop { L1 with state := .busy }) } = w2 := ⟨_, rfl⟩
                have hw2s : w2.heap.size = w1.heap.size := by rw [← hw2]; simp
                have hob2 : w2.heap[x.b]? = some (.loop { L1 with state := .busy }) := by rw [← hw2]; simp [hlt1]
                refine ⟨w2, ?_, ?_⟩
                · simp only [Instr.beginRound, Sem.run_bind, run_getLoop (P := P) hob1, Result.andThen_ok, run_setObj (P := P) hob1 (by intro a b c e; cases e), q1, hw2]
                  rfl
                · rw [hw2] at hM2 hF2
                  have h3 := bindL_ne h1
                  refine evCode_wp hE hP hcall true (rr := some x.b) (fun e => by cases e) N 0 fuel L.body n _ _ σ1 _ w2 _ (bindL_src h1) hT1 hM2 (hK1.mono hF2) ?_
                  rintro ⟨e2, t3, m2⟩ hr2 σ2 a2 w3 hf2 hT2 hM3 _
                  obtain ⟨h4, h5⟩ := h3 _ hr2
                  unfold roundEnd at h4 h5
                  cases e2 with
                  | exit _ => exact absurd rfl h4
                  | ret => exact absurd rfl h4
                  | normal =>
                    simp only at h5
                    have hx2 : σ2 i = some x := hf2.ext _ _ hx1
                    have hob3 : w3.heap[x.b]? = some (.loop { L1 with state := .busy }) := (hf2.frame x.b (by omega) hnl).trans hob2
                    have hlt3 : x.b < w3.heap.size := (Array.getElem?_eq_some_iff.1 hob3).1
                    have hnl3 : ¬ LiveB σ2 m2 x.b := fun hl => by
                      rcases hf2.grow _ hl with h6 | h6
                      · exact hnl h6
                      · omega
                    obtain ⟨w4, hw4⟩ : ∃ w4 : World, { w3 with heap := w3.heap.setIfInBounds x.b (.loop { L1 with state := .ready, pending := none }) } = w4 := ⟨_, rfl⟩
                    have hoth : ∀ k, k ≠ x.b → w4.heap[k]? = w3.heap[k]? := fun k hk => by rw [← hw4]; simp [Ne.symm hk]
                    have hw4s : w4.heap.size = w3.heap.size := by rw [← hw4]; simp
                    refine ⟨.bool true, w4, ?_, ?_⟩
                    · simp only [Instr.endRound, Sem.run_bind, run_getLoop (P := P) hob3, Result.andThen_ok, run_setObj (P := P) hob3 (by intro a b c e; cases e)]
                      rw [← hw4]
                      rfl
                    · have hM4 : MR E w0 σ2 m2 w4 := hM3.offstage hB hnl3 hw4s hoth (by rw [← hw4]) (by rw [← hw4]) (by rw [← hw4])
                      have hor4 : OR E σ2 x (.loop t2 N2 ps2 as2 body2) (.loop { L1 with state := .ready, pending := none }) := ⟨rfl, rfl, q3, q4, q5, q6, fun j => (q7 j).mono hf2.ext⟩
                      have hM5 := hM4.putBack hx2 hB hnl3 (ob := .loop { L1 with state := .ready, pending := none }) (by rw [← hw4]; simp [hlt3]) hor4
                      refine ⟨(.bool true, _), h2 _ (h5 _ (List.mem_singleton.2 rfl)), σ2, .bool true, rfl, ?_, .refl rfl, hM5⟩
                      have hlive : LiveB σ1 m1 x.b := ⟨i, _, x, hi1, rfl, hx1, rfl⟩
                      refine hf1.trans ⟨(hF2.trans hf2).ext, by have := hf2.size; omega, fun b hb hl => ?_, fun b hl => ?_, (hF2.trans hf2).n, (hF2.trans hf2).old⟩
                      · have hbx : b ≠ x.b := fun e => hl (by rw [e]; exact hlive)
                        rw [hoth b hbx]
                        exact (hF2.trans hf2).frame b hb hl
                      · obtain ⟨j, o, z, hj, ho, hz, hb⟩ := hl
                        by_cases e : i = j
                        · subst e
                          obtain rfl : z = x := by rw [hx2] at hz; exact (Option.some.inj hz).symm
                          exact .inl (by rw [← hb]; exact hlive)
                        · rw [T.get_set_ne _ _ e] at hj
                          exact (hF2.trans hf2).grow b ⟨j, o, z, hj, ho, hz, hb⟩
              | _ => exact hor1.elim
            · exact absurd rfl h1
      | _ => exact hor.elim
    · exact absurd hL.symm hne
  · exact absurd hL.symm hne
theorem evCall_ok (hE : EOK E P) (hP : P.follows .mixedOrders = true) {S : Sums} (hS : SOK E P w0 S) (fuel : Nat) : ∀ d, CallOK E P w0 (evCall E S fuel d) := by
  intro d
  induction d with
  | zero => exact ⟨fun f args m hne => absurd rfl hne, fun i args m hne => absurd rfl hne⟩
  | succ d ih =>
    refine ⟨fun f args m hne σ w args' hargs hM => ?_, fun i args m hne σ w args' x hx hargs hM => evYield_ok hE hP ih hne hx hargs hM⟩
    cases hs : S f args m with
    | some l =>
      have he : evCall E S fuel (d + 1) (.fn f) args m = l := by simp only [evCall, hs]
      rw [he] at hne ⊢
      exact hS f args m l hs hne σ w args' hargs hM
    | none =>
      have he : evCall E S fuel (d + 1) (.fn f) args m = evFn E (evCall E S fuel d) fuel f args m := by simp only [evCall, hs]
      rw [he] at hne ⊢
      exact evFn_ok hE hP ih hne hargs hM
end Go.AE
