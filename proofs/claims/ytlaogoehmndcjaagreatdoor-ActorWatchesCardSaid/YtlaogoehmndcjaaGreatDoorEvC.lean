/- YtlaogoehmndcjaaGreatDoorASCode2; YtlaogoehmndcjaaGreatDoorASEnv; YtlaogoehmndcjaaGreatDoorASTop; YtlaogoehmndcjaaGreatDoorASUse; YtlaogoehmndcjaaGreatDoorASHeap; YtlaogoehmndcjaaGreatDoorASStand; YtlaogoehmndcjaaGreatDoorASRules: in one text. -/
import Derived.Test.YtlaogoehmndcjaaGreatDoorEvB
import Derived.Test.YtlaogoehmndcjaaGreatDoorEvA
import Derived.Deep.MidRow
set_option linter.unusedVariables false
set_option linter.unusedSectionVars false
set_option linter.unusedSectionVars false
namespace Go.AS
open Go.RowKit
variable [Rho]
variable {E : Env} {P : Program} {w0 : World}
def Ex.out : Ex → Exit
  | .normal => .normal
  | .exit i => .exit i
  | .ret => .ret
def Marks (B : Nat) (σ : Sg) (m : Mem) (w : World) (ds : List Deferred) : Prop :=
  B ≤ w.heap.size ∧ ds.Pairwise (fun a b => a.target ≠ b.target) ∧ ∀ d ∈ ds, ∃ r, d = { target := .collected r, args := #[] } ∧ B ≤ r ∧ w.heap[r]? = some (.deferred (some [])) ∧ ¬ LiveB σ m r
theorem Marks.nil {B : Nat} {σ : Sg} {m : Mem} {w : World} (h : B ≤ w.heap.size) : Marks B σ m w [] := ⟨h, .nil, fun d hd => by cases hd⟩
theorem Marks.mono {B : Nat} {σ σ' : Sg} {m m' : Mem} {w w' : World} {ds : List Deferred} (h : Marks B σ m w ds) (hf : FG σ m w σ' m' w') : Marks B σ' m' w' ds := by
  refine ⟨Nat.le_trans h.1 hf.size, h.2.1, fun d hd => ?_⟩
  obtain ⟨r, h1, h2, h3, h4⟩ := h.2.2 d hd
  have hlt : r < w.heap.size := (Array.getElem?_eq_some_iff.1 h3).1
  refine ⟨r, h1, h2, (hf.frame r hlt h4).trans h3, fun hl => ?_⟩
  rcases hf.grow r hl with h5 | h5
  · exact h4 h5
  · omega
def Meets (E : Env) (w0 : World) (N B : Nat) (l : List (Ex × T Value × Mem)) (m : Mem) (σ : Sg) (w : World) (Q : Exit → Act → World → Prop) : Prop :=
  ∀ r ∈ l, ∀ σ' a' w', FG σ m w σ' r.2.2 w' → TR σ' N r.2.1 a' → MR E w0 σ' r.2.2 w' → Marks B σ' r.2.2 w' a'.defers → Q r.1.out a' w'
theorem bindL_nil {α β : Type} (f : α → List β) : bindL [] f = [] := by simp [bindL]
theorem bindL_src {α β : Type} {f : α → List β} {l : List α} (h : bindL l f ≠ []) : l ≠ [] := fun e => by rw [e, bindL_nil] at h; exact h rfl
def CodeOK (E : Env) (P : Program) (w0 : World) (N B : Nat) (rr : Option Nat) (ev : T Value → Mem → List (Ex × T Value × Mem)) (c : Code) : Prop :=
  ∀ n t m σ a w Q, ev t m ≠ [] → TR σ N t a → MR E w0 σ m w → Marks B σ m w a.defers → Meets E w0 N B (ev t m) m σ w Q → c.wpIn (WF rr) n P Q a w
def LoopFrom (rr : Option Nat) (_ : Nat) (P : Program) (c : Code) (Q : Exit → Act → World → Prop) (a : Act) (w : World) : Prop :=
  ∀ (b : Frame) (k : List Item) (cs : List Frame), b.roundOf = rr → ∃ e a' w', Q e a' w' ∧ ArrivesIn (Machine.fenced P (WF rr)) P (lone (b.atR a (.code c :: .inLoop c :: k)) cs w) b k cs e a' w'
theorem room_WF {rr : Option Nat} (n : Nat) : (WF rr).room n := fun _ h => by simp [WF, Fence.wide] at h
theorem LoopFrom.wp {rr : Option Nat} {n : Nat} {c : Code} {Q : Exit → Act → World → Prop} {a : Act} {w : World} (h : LoopFrom rr n P c Q a w) : (Code.loop c).wpIn (WF rr) n P Q a w := fun b k cs hro hb hr => by
  obtain ⟨e, a', w', hq, harr⟩ := h b k cs hro
  exact ⟨e, a', w', hq, .of_steps (.one (fenced_calm hb hr rfl) stepR_loop) harr⟩
theorem LoopFrom.round {rr : Option Nat} {n : Nat} {c : Code} {Q : Exit → Act → World → Prop} {a : Act} {w : World} (h : c.wpIn (WF rr) n P (Exit.then (LoopFrom rr n P c Q) Q) a w) : LoopFrom rr n P c Q a w := fun b k cs hro => by
  obtain ⟨e, a₁, w₁, hq, harr⟩ := h b (.inLoop c :: k) cs hro trivial (room_WF _)
  cases e with
  | normal =>
    obtain ⟨e₂, a₂, w₂, hq₂, harr₂⟩ := hq b k cs hro
    exact ⟨e₂, a₂, w₂, hq₂, .of_steps (StepsIn.trans harr (.one (fenced_calm (n := 0) trivial (room_WF _) rfl) stepR_inLoop)) harr₂⟩
  | exit id => exact ⟨_, a₁, w₁, hq, .pass (x := .inLoop c) rfl (fun _ _ => .inl (by simp)) harr⟩
  | goto l => exact ⟨_, a₁, w₁, hq, .pass (x := .inLoop c) rfl (fun _ _ => .inl (by simp)) harr⟩
  | ret => exact ⟨_, a₁, w₁, hq, .pass (x := .inLoop c) rfl (fun _ _ => .inl (by simp)) harr⟩
  | panic ch => exact ⟨_, a₁, w₁, hq, .pass (x := .inLoop c) rfl (fun _ _ => .inl (by simp)) harr⟩
  | outgrown => exact ⟨_, a₁, w₁, hq, .pass (x := .inLoop c) rfl (fun _ _ => .inl (by simp)) harr⟩
theorem evLoop_from {N B : Nat} {rr : Option Nat} {ev : T Value → Mem → List (Ex × T Value × Mem)} {c : Code} (hc : CodeOK E P w0 N B rr ev c) (fl : Nat) : ∀ n t m σ a w Q, evLoop ev n t m ≠ [] → TR σ N t a → MR E w0 σ m w → Marks B σ m w a.defers → Meets E w0 N B (evLoop ev n t m) m σ w Q → LoopFrom rr fl P c Q a w := by
  intro n
  induction n with
  | zero => intro t m σ a w Q hne; exact absurd rfl hne
  | succ n ih =>
    intro t m σ a w Q hne hT hM hK hQ
    refine LoopFrom.round ?_
    simp only [evLoop] at hne hQ
    have h0 := bindL_ne hne
    refine hc fl t m σ a w _ (bindL_src hne) hT hM hK ?_
    rintro ⟨e, t1, m1⟩ hr σ' a' w' hf hT' hM' hd
    obtain ⟨h1, h2⟩ := h0 _ hr
    cases e with
    | normal =>
      exact ih t1 m1 σ' a' w' Q h1 hT' hM' hd (fun r hr' σ2 a2 w2 g1 g2 g3 g4 => hQ r (h2 r hr') σ2 a2 w2 (hf.trans g1) g2 g3 g4)
    | exit i => exact hQ (.exit i, t1, m1) (h2 _ (List.mem_singleton.2 rfl)) σ' a' w' hf hT' hM' hd
    | ret => exact hQ (.ret, t1, m1) (h2 _ (List.mem_singleton.2 rfl)) σ' a' w' hf hT' hM' hd
theorem both_ne {α : Type} {l r : List α} (h : both l r ≠ []) : l ≠ [] ∧ r ≠ [] ∧ (∀ x ∈ l, x ∈ both l r) ∧ ∀ x ∈ r, x ∈ both l r := by
  unfold both at h ⊢
  split at h
  · exact ⟨by simp, by simp, fun x hx => List.mem_append_left _ hx, fun x hx => List.mem_append_right _ hx⟩
  · exact absurd rfl h
theorem topB_inv {σ : Sg} {v : Value} (h : VR σ (.complex .f32 1 0) v) : ∃ b, v = .bool b := by
  cases h with
  | topB b => exact ⟨b, rfl⟩
  | refl h => cases h
theorem run_getLoop {w : World} {l : Nat} {L : Loop} (h : w.heap[l]? = some (.loop L)) : (Instr.getLoop l).run P w = .ok L w := by
  simp only [Instr.getLoop, Sem.run_bind, run_getObj (P := P) h, Result.andThen_ok]
  rfl
theorem MR.aside {σ : Sg} {m : Mem} {w : World} (h : MR E w0 σ m w) (o : Obj) : MR E w0 σ m (w.alloc o) := by
  refine ⟨h.below.alloc h.below.size o, h.t0, fun i p hi hp => ?_, h.inj, h.fresh⟩
  obtain ⟨x, ob, hx, hB, hob, hor⟩ := h.obj i p hi hp
  exact ⟨x, ob, hx, hB, (Below.heap_alloc w o x.b (Array.getElem?_eq_some_iff.1 hob).1).trans hob, hor⟩
theorem FG.aside (σ : Sg) (m : Mem) (w : World) (o : Obj) : FG σ m w σ m (w.alloc o) :=
  ⟨Ext.refl σ, by simp, fun b hb _ => Below.heap_alloc w o b hb, fun _ h => .inl h, Nat.le_refl _, fun _ _ => rfl⟩
theorem MR.kill {σ : Sg} {m : Mem} {w : World} (h : MR E w0 σ m w) {i : Nat} {o : AObj} (hr : m.t.get i = some o) (ho : o.live = true) {x : Inf} (hx : σ i = some x) (ob : Obj) :
    MR E w0 σ ⟨m.n, m.t.set i .dead⟩ { w with heap := w.heap.setIfInBounds x.b ob } ∧ FG σ m w σ ⟨m.n, m.t.set i .dead⟩ { w with heap := w.heap.setIfInBounds x.b ob } ∧ ¬ LiveB σ ⟨m.n, m.t.set i .dead⟩ x.b ∧ w0.heap.size ≤ x.b ∧ x.b < w.heap.size := by
  obtain ⟨y, ob0, hy, hB, hob0, _⟩ := h.obj i o hr ho
  obtain rfl : y = x := by rw [hx] at hy; exact (Option.some.inj hy).symm
  have hlt : y.b < w.heap.size := (Array.getElem?_eq_some_iff.1 hob0).1
  have hnl : ¬ LiveB σ ⟨m.n, m.t.set i .dead⟩ y.b := by
    rintro ⟨j, p, z, hj, hp, hz, hb⟩
    by_cases e : i = j
    · subst e; rw [T.get_set_same] at hj; cases hj; cases hp
    · rw [T.get_set_ne _ _ e] at hj
      exact e (h.inj i j o p y z hr ho hj hp hx hz hb.symm)
  have hoth : ∀ k, k ≠ y.b → (w.heap.setIfInBounds y.b ob)[k]? = w.heap[k]? := fun k hk => by simp [Ne.symm hk]
  refine ⟨(h.drop i).offstage hB hnl (by simp) hoth rfl rfl rfl, ⟨Ext.refl σ, by simp, fun b _ hl => hoth b (fun e => hl ⟨i, o, y, hr, ho, hx, e.symm⟩), fun b hb => .inl hb.dead, Nat.le_refl _, fun _ _ => rfl⟩, hnl, hB, hlt⟩
theorem seqCall_spec {g : Value} {i : Nat} {f : FuncId} {args : List Value} (h : seqCall E g i = some (f, args)) : ∃ first cap fn, g = .func (.func f) first cap ∧ E.funcs.get f = some fn ∧ args = first.toList ++ [yld i] ++ cap.toList := by
  unfold seqCall at h
  split at h
  · split at h
    · rename_i fn hfn; cases h; exact ⟨_, _, fn, rfl, hfn, rfl⟩
    · cases h
  · cases h
set_option maxHeartbeats 1000000 in
theorem evRange_wp (hE : EOK E P) {call : CallF} (hcall : CallOK E P w0 call) {N B n : Nat} {g : Operand} {ps : Array Tmp} {assign body : Code} {t : T Value} {m : Mem} {σ : Sg} {a : Act} {w : World} {Q : Exit → Act → World → Prop}
    (hne : evRange E call N g ps assign body t m ≠ []) (hT : TR σ N t a) (hM : MR E w0 σ m w) (hK : Marks B σ m w a.defers) (hQ : Meets E w0 N B (evRange E call N g ps assign body t m) m σ w Q) : (Code.rangeFunc g ps assign body).wpIn (WF none) n P Q a w := by
  unfold evRange at hne hQ
  split at hne
  · rename_i f args hsc
    simp only [hsc] at hQ
    obtain ⟨first, cap, fn, hg, hfn, rfl⟩ := seqCall_spec hsc
    obtain ⟨hP, hname, bd, hbd⟩ := hE.funcs f fn hfn
    have hv := evalT_sound hT g
    rw [hg] at hv
    obtain ⟨first', cap', hv', hfst, hcap⟩ := hv.func_inv
    have hM1 := hM.aside (.deferred (some []))
    have hF1 := FG.aside σ m w (.deferred (some []))
    obtain ⟨w1, hw1⟩ : ∃ w1, w.alloc (.deferred (some [])) = w1 := ⟨_, rfl⟩
    rw [hw1] at hM1 hF1
    have hs1 : w1.heap.size = w.heap.size + 1 := by rw [← hw1]; simp
    refine wpIn_rangeFunc (fun fn0 _ => ?_)
    let L : Loop := { state := .ready, pending := none, fn := fn0, tmps := a.tmps, params := ps, assign, body, defers := w.heap.size }
    have hor : OR E σ ⟨w1.heap.size, 0, 0, 0⟩ (.loop t N ps assign body) (.loop L) := ⟨rfl, rfl, rfl, rfl, rfl, hT.size, hT.val⟩
    obtain ⟨hM2, hF2⟩ := hM1.new (id := m.n) (hM.fresh m.n (Nat.le_refl _)) (n' := m.n + 1) (by omega) (by omega) (x := ⟨w1.heap.size, 0, 0, 0⟩) rfl hor
    have hF2 := hF2 (Nat.le_refl _)
    obtain ⟨σ2, hσ2⟩ : ∃ σ2 : Sg, (fun j => if j = m.n then some (⟨w1.heap.size, 0, 0, 0⟩ : Inf) else σ j) = σ2 := ⟨_, rfl⟩
    rw [hσ2] at hM2 hF2
    have hx2 : σ2 m.n = some ⟨w1.heap.size, 0, 0, 0⟩ := by rw [← hσ2]; simp
    obtain ⟨w2, hw2⟩ : ∃ w2, w1.alloc (.loop L) = w2 := ⟨_, rfl⟩
    rw [hw2] at hM2 hF2
    have hb : ¬ fn.body = none := by rw [hbd]; simp
    have hnm : ¬ fn.name = "runtime.NumGoroutine" := by simpa using hname
    refine ⟨w1.heap.size, [{ target := .collected w.heap.size, args := #[] }], w2, { target := .fn (.func f) cap', args := first' ++ #[.func (.yield w1.heap.size) #[] #[]] }, w2, f, (first' ++ #[.func (.yield w1.heap.size) #[] #[]]) ++ cap', w2, ?_, ?_, fun _ _ => trivial, ?_, WF_depth _, callsIn_W ?_⟩
    · show (Instr.enterLoop fn0 a.tmps ps assign body none).run P w = _
      rw [← hw2, ← hw1]
      simp [Instr.enterLoop, L]
    · simp [resolve, hv', Deferred.ofValue]
      rfl
    · simp [invoke, callFunc, hP, hnm, hb]
    · have hargs : VRL σ2 (first.toList ++ [yld m.n] ++ cap.toList) ((first' ++ #[Value.func (.yield w1.heap.size) #[] #[]]) ++ cap').toList := by
        simp only [Array.toList_append]
        have he := hF1.ext.trans hF2.ext
        exact ((hfst.mono he).append (VRL.cons (.yld hx2) (VRL.nil σ2))).append (hcap.mono he)
      refine (hcall.fn f _ _ (bindL_src hne) σ2 w2 _ hargs hM2).mono ?_
      rintro e w3 ⟨q, hq, σ3, v3, rfl, hF3, _, hM3⟩
      obtain ⟨h1, h2⟩ := bindL_ne hne q hq
      unfold endA at h1 h2
      split at h1
      · rename_i t3 N3 ps3 as3 bd3 hi3
        simp only [hi3] at h2
        have hx3 : σ3 m.n = some ⟨w1.heap.size, 0, 0, 0⟩ := hF3.ext _ _ hx2
        obtain ⟨ob, hob, hor3, hlt⟩ := hM3.iter hi3 rfl hx3
        cases ob with
        | loop L3 =>
          obtain ⟨s1, s2, _⟩ := hor3
          have hg3 := run_getObj (P := P) hob
          obtain ⟨hM4, hF4, _, _, _⟩ := hM3.kill hi3 rfl hx3 (.loop { L3 with state := .exhausted })
          show ∃ jump w4, (Instr.endLoop w1.heap.size).run P w3 = .ok jump w4 ∧ _
          refine ⟨none, { w3 with heap := w3.heap.setIfInBounds w1.heap.size (.loop { L3 with state := .exhausted }) }, ?_, ?_⟩
          · have hst : (LoopState.ready == LoopState.busy) = false := rfl
            simp only [Instr.endLoop, Sem.run_bind, run_getLoop (P := P) hob, Result.andThen_ok, s1, hst, Bool.false_eq_true, if_false, run_setObj (P := P) hob (by intro a b c e; cases e), s2]
            rfl
          · refine hQ (.normal, t, _) (h2 _ (List.mem_singleton.2 rfl)) σ3 _ _ (((hF1.trans hF2).trans hF3).trans hF4) ?_ hM4 ?_
            · exact ⟨hT.size, fun i => (hT.val i).mono (((hF1.trans hF2).trans hF3).ext)⟩
            · refine Marks.mono ?_ (hF3.trans hF4)
              have hK2 := hK.mono (hF1.trans hF2)
              refine ⟨hK2.1, ?_, ?_⟩
              · show List.Pairwise _ (_ :: a.defers)
                refine List.pairwise_cons.2 ⟨fun d hd => ?_, hK2.2.1⟩
                obtain ⟨r, rfl, _, hr, _⟩ := hK.2.2 d hd
                have := (Array.getElem?_eq_some_iff.1 hr).1
                intro e
                have e2 : w.heap.size = r := by simpa using e
                omega
              · intro d hd
                rcases List.mem_cons.1 hd with rfl | hd
                · refine ⟨w.heap.size, rfl, hK.1, ?_, fun hl => ?_⟩
                  · rw [← hw2, Below.heap_alloc w1 _ _ (by omega), ← hw1]; exact heap_alloc_last w _
                  · rcases hF2.grow _ hl with h5 | h5
                    · obtain ⟨j, o, z, hj, ho, hz, hb⟩ := h5
                      obtain ⟨z', oz, hz', _, hoz, _⟩ := hM.obj j o hj ho
                      obtain rfl : z' = z := by rw [hz] at hz'; exact (Option.some.inj hz').symm
                      have := (Array.getElem?_eq_some_iff.1 hoz).1
                      omega
                    · omega
                · exact hK2.2.2 d hd
        | _ => exact hor3.elim
      · exact absurd rfl h1
  · exact absurd rfl hne
theorem evCode_wp (hE : EOK E P) (hP : P.follows .mixedOrders = true) {call : CallF} (hcall : CallOK E P w0 call) (rd : Bool) {rr : Option Nat} (hrd : rd = false → rr = none) (N B fuel : Nat) : ∀ c, CodeOK E P w0 N B rr (evCode E call rd N fuel c) c := by
  intro c
  induction c with
  | skip => intro n t m σ a w Q _ hT hM hK hQ; exact wpIn_skip (hQ (.normal, t, m) (List.mem_singleton.2 rfl) σ a w (FG.refl σ m w) hT hM hK)
  | region id ops d =>
    intro n t m σ a w Q hne hT hM hK hQ
    simp only [evCode] at hne hQ
    have h0 := bindL_ne hne
    have h1 := bindL_src hne
    cases d with
    | true => exact evDraw_wp hE hP hcall h1 hT hM (fun r hr σ' a' w' g1 g2 g3 g4 => hQ (.normal, r.1, r.2) ((h0 r hr).2 _ (List.mem_singleton.2 rfl)) σ' a' w' g1 g2 g3 (g4 ▸ hK.mono g1))
    | false =>
      refine wpIn_region ?_
      rw [List.range_eq_range', ← Array.length_toList]
      exact evOps_wp hE hcall ops.toList 0 rfl t m σ a w h1 hT hM (fun r hr σ' a' w' g1 g2 g3 g4 => hQ (.normal, r.1, r.2) ((h0 r hr).2 _ (List.mem_singleton.2 rfl)) σ' a' w' g1 g2 g3 (g4 ▸ hK.mono g1))
  | seq x y ihx ihy =>
    intro n t m σ a w Q hne hT hM hK hQ
    simp only [evCode] at hne hQ
    have h0 := bindL_ne hne
    refine wpIn_seq (ihx n t m σ a w _ (bindL_src hne) hT hM hK ?_)
    rintro ⟨e, t1, m1⟩ hr σ' a' w' hf hT' hM' hd
    obtain ⟨h1, h2⟩ := h0 _ hr
    cases e with
    | normal => exact ihy n t1 m1 σ' a' w' Q h1 hT' hM' hd (fun r hr' σ2 a2 w2 g1 g2 g3 g4 => hQ r (h2 r hr') σ2 a2 w2 (hf.trans g1) g2 g3 g4)
    | exit i => exact hQ (.exit i, t1, m1) (h2 _ (List.mem_singleton.2 rfl)) σ' a' w' hf hT' hM' hd
    | ret => exact hQ (.ret, t1, m1) (h2 _ (List.mem_singleton.2 rfl)) σ' a' w' hf hT' hM' hd
  | cond x y z ihy ihz =>
    intro n t m σ a w Q hne hT hM hK hQ
    have hv := evalT_sound hT x
    simp only [evCode] at hne hQ
    split at hne
    · rename_i hx; rw [hx] at hv hQ
      exact wpIn_cond_true (hv.simple_inv rfl) (ihy n t m σ a w Q hne hT hM hK hQ)
    · rename_i hx; rw [hx] at hv hQ
      exact wpIn_cond_false (hv.simple_inv rfl) (ihz n t m σ a w Q hne hT hM hK hQ)
    · rename_i hx; rw [hx] at hv hQ
      obtain ⟨b, hb⟩ := topB_inv hv
      obtain ⟨h1, h2, h3, h4⟩ := both_ne hne
      cases b with
      | true => exact wpIn_cond_true hb (ihy n t m σ a w Q h1 hT hM hK (fun r hr => hQ r (h3 r hr)))
      | false => exact wpIn_cond_false hb (ihz n t m σ a w Q h2 hT hM hK (fun r hr => hQ r (h4 r hr)))
    · exact absurd rfl hne
  | block id y ih =>
    intro n t m σ a w Q hne hT hM hK hQ
    simp only [evCode] at hne hQ
    have h0 := bindL_ne hne
    refine wpIn_block (ih n t m σ a w _ (bindL_src hne) hT hM hK ?_)
    rintro ⟨e, t1, m1⟩ hr σ' a' w' hf hT' hM' hd
    obtain ⟨h1, h2⟩ := h0 _ hr
    cases e with
    | normal => exact hQ (.normal, t1, m1) (h2 _ (List.mem_singleton.2 rfl)) σ' a' w' hf hT' hM' hd
    | exit i =>
      have := hQ _ (h2 _ (List.mem_singleton.2 rfl)) σ' a' w' hf hT' hM' hd
      simp only [Ex.out, Exit.inBlock]
      by_cases e : i = id
      · rw [if_pos e]
        have hb : Nat.beq id i = true := by subst e; exact Nat.beq_refl _
        simp only [hb, cond] at this
        exact this
      · rw [if_neg e]
        have hb : Nat.beq id i = false := by
          cases h : Nat.beq id i with
          | false => rfl
          | true => exact absurd (Nat.eq_of_beq_eq_true h).symm e
        simp only [hb, cond] at this
        exact this
    | ret => exact hQ (.ret, t1, m1) (h2 _ (List.mem_singleton.2 rfl)) σ' a' w' hf hT' hM' hd
  | loop y ih =>
    intro n t m σ a w Q hne hT hM hK hQ
    simp only [evCode] at hne hQ
    exact (evLoop_from ih n fuel t m σ a w Q hne hT hM hK hQ).wp
  | exit id => intro n t m σ a w Q _ hT hM hK hQ; exact wpIn_exit (hQ (.exit id, t, m) (List.mem_singleton.2 rfl) σ a w (FG.refl σ m w) hT hM hK)
  | ret => intro n t m σ a w Q _ hT hM hK hQ; exact wpIn_ret (hQ (.ret, t, m) (List.mem_singleton.2 rfl) σ a w (FG.refl σ m w) hT hM hK)
  | rangeFunc g ps as bd _ _ =>
    intro n t m σ a w Q hne hT hM hK hQ
    simp only [evCode] at hne hQ
    split at hne
    · obtain rfl := hrd rfl
      exact evRange_wp hE hcall hne hT hM hK hQ
    · exact absurd rfl hne
  | _ => intro n t m σ a w Q hne; exact absurd rfl hne
theorem resultsA_sound (hE : EOK E P) {N : Nat} {t : T Value} {m : Mem} {σ : Sg} {a : Act} {w : World} (hT : TR σ N t a) (hM : MR E w0 σ m w) : ∀ l vs, resultsA E t m l = some vs →
    ∃ vs', (l.mapM (fun | .tmp t => pure (a.tmps.getD t undef) | .cell x t => do loadVar t (← asAddr (a.tmps.getD x undef)) : ResultVar → Sem Value)).run P w = .ok vs' w ∧ VRL σ vs vs' := by
  intro l
  induction l with
  | nil => intro vs h; simp only [resultsA] at h; cases h; exact ⟨[], rfl, VRL.nil σ⟩
  | cons r l ih =>
    intro vs h
    cases r with
    | tmp i =>
      simp only [resultsA] at h
      split at h
      · rename_i v rs hv hrs
        cases h
        obtain ⟨vs', h1, h2⟩ := ih _ hrs
        have := hT.val i
        simp only [tv, hv] at this
        refine ⟨a.tmps.getD i undef :: vs', ?_, VRL.cons this h2⟩
        simp only [List.mapM_cons, Sem.run_bind, Sem.run_pure, Result.andThen_ok, h1]
      · cases h
    | cell x ty =>
      simp only [resultsA] at h
      split at h
      · rename_i p hp
        split at h
        · rename_i v rs hv hrs
          cases h
          obtain ⟨vs', h1, h2⟩ := ih _ hrs
          have hx := hT.val x
          simp only [tv, hp] at hx
          obtain ⟨v', g1, g2⟩ := loadAt_sound hE hM hv hx
          refine ⟨v' :: vs', ?_, VRL.cons g2 h2⟩
          simp only [List.mapM_cons]
          generalize a.tmps.getD x undef = p' at hx g1 ⊢
          cases hx with
          | ptr hσ =>
            simp only [Instr.loadAt, Instr.sureAddr, Sem.run_bind, Sem.run_pure, Result.andThen_ok] at g1
            have hA : ∀ q, asAddr (.pointer (some q)) = pure q := fun _ => rfl
            simp only [hA, Sem.run_bind, Sem.run_pure, Result.andThen_ok, g1, h1]
          | refl h => simp [simple] at h
        · cases h
      · cases h
theorem tupled_sound {σ : Sg} {l l' : List Value} (h : VRL σ l l') : VR σ (tupled l) (tupled l') := by
  have key : ∀ {l l' : List Value}, VRL σ l l' → VR σ (.tuple l.toArray) (.tuple l'.toArray) := fun h => .tuple_of (by simpa using h)
  match l, l', h with
  | [], [], h => exact key h
  | [x], [y], h => exact h.head
  | x :: x2 :: l, y :: y2 :: l', h => exact key h
  | [], _ :: _, h => exact absurd h.1 (by simp)
  | _ :: _, [], h => exact absurd h.1 (by simp)
  | [_], _ :: _ :: _, h => exact absurd h.1 (by simp)
  | _ :: _ :: _, [_], h => exact absurd h.1 (by simp)
theorem results_sound (hE : EOK E P) {N : Nat} {t : T Value} {m : Mem} {σ : Sg} {a : Act} {w : World} (hT : TR σ N t a) (hM : MR E w0 σ m w) {fn : Func} {vs : List Value} (h : resultsA E t m fn.results.toList = some vs) :
    ∃ v', (results fn a.tmps).run P w = .ok v' w ∧ VR σ (tupled vs) v' := by
  obtain ⟨vs', h1, h2⟩ := resultsA_sound hE hT hM _ _ h
  refine ⟨tupled vs', ?_, tupled_sound h2⟩
  unfold results
  rw [Array.mapM_eq_mapM_toList]
  simp only [Sem.run_bind, Sem.run_map]
  erw [h1]
  simp only [Result.andThen_ok, Sem.run_pure]
  match vs' with
  | [] => rfl
  | [_] => rfl
  | _ :: _ :: _ => rfl
def SOK (E : Env) (P : Program) (w0 : World) (S : Sums) : Prop :=
  ∀ f args m l, S f args m = some l → l ≠ [] → ∀ (σ : Sg) (w : World) (args' : Array Value), VRL σ args args'.toList → MR E w0 σ m w → Calls P f args' w (After E w0 σ m w l)
theorem TR.enter {σ : Sg} {N : Nat} {args : List Value} {args' : Array Value} (hargs : VRL σ args args'.toList) (hle : args.length ≤ N) : TR σ N (T.ofList args) { tmps := args' ++ Array.replicate (N - args'.size) undef, defers := [] } := by
  refine ⟨?_, ?_⟩
  · have := hargs.1
    simp at this ⊢
    omega
  · intro i
    simp only [tv, T.get_ofList]
    have hl := hargs.1
    have hl' : args.length = args'.size := by simpa using hl
    rcases Nat.lt_or_ge i args.length with h | h
    · have hv := hargs.2 i h
      simp only [List.getElem?_eq_getElem h]
      have e1 : args.getD i und = args[i] := by simp [List.getD, List.getElem?_eq_getElem h]
      have h' : i < args'.size := by omega
      have e2 : (args' ++ Array.replicate (N - args'.size) undef).getD i undef = args'.toList.getD i und := by
        have h3 : (args' ++ Array.replicate (N - args'.size) undef)[i]? = args'[i]? := Array.getElem?_append_left h'
        simp only [Array.getD_eq_getD_getElem?, h3]
        simp [h']
      rw [e2, ← e1]; exact hv
    · rw [List.getElem?_eq_none h]
      have e2 : (args' ++ Array.replicate (N - args'.size) undef).getD i undef = undef := by
        simp only [Array.getD_eq_getD_getElem?]
        rw [Array.getElem?_append_right (by omega), Array.getElem?_replicate]
        split <;> rfl
      rw [e2]; exact VR.undef σ
theorem leaves_marks {F : Fence} {n : Nat} {fn : Func} {tmps : Array Value} {R : Ending → World → Prop} {B : Nat} {σ : Sg} {m : Mem} : ∀ (ds : List Deferred) (w : World), MR E w0 σ m w → Marks B σ m w ds → w0.heap.size ≤ B →
    (∀ w', MR E w0 σ m w' → w.heap.size = w'.heap.size → (∀ b, b < w.heap.size → (B ≤ b → LiveB σ m b) → w'.heap[b]? = w.heap[b]?) → LeavesInM F n P fn tmps R [] .returning w') → LeavesInM F n P fn tmps R ds .returning w := by
  intro ds
  induction ds with
  | nil => intro w hM _ _ h; exact h w hM rfl (fun _ _ _ => rfl)
  | cons d ds ih =>
    intro w hM hK hB h
    obtain ⟨r, rfl, h1, h2, h3⟩ := hK.2.2 d (List.mem_cons_self ..)
    obtain ⟨hp1, hp2⟩ := List.pairwise_cons.1 hK.2.1
    have hlt : r < w.heap.size := (Array.getElem?_eq_some_iff.1 h2).1
    have hoth : ∀ k, k ≠ r → (w.heap.setIfInBounds r (.deferred none))[k]? = w.heap[k]? := fun k hk => by simp [Ne.symm hk]
    have hM' : MR E w0 σ m { w with heap := w.heap.setIfInBounds r (.deferred none) } := hM.offstage (Nat.le_trans hB h1) h3 (by simp) hoth rfl rfl rfl
    refine ⟨by simp, .inl ⟨r, { w with heap := w.heap.setIfInBounds r (.deferred none) }, rfl, ?_, ?_⟩⟩
    · simp only [Instr.takeDeferred, Sem.run_bind, run_getObj (P := P) h2, Result.andThen_ok, run_setObj (P := P) h2 (by intro a b c e; cases e)]
      rfl
    · refine ih _ hM' ⟨by simpa using hK.1, hp2, fun d hd => ?_⟩ hB ?_
      · obtain ⟨r', rfl, g1, g2, g3⟩ := hK.2.2 d (List.mem_cons_of_mem _ hd)
        have hne : r' ≠ r := fun e => hp1 _ hd (by rw [e])
        exact ⟨r', rfl, g1, (hoth r' hne).trans g2, g3⟩
      · intro w' g1 g2 g3
        refine h w' g1 (by simpa using g2) (fun b hb hl => ?_)
        have hbr : b ≠ r := fun e => h3 (by have := hl (by omega); rwa [e] at this)
        rw [g3 b (by simpa using hb) hl]
        exact hoth b hbr
theorem evFn_ok (hE : EOK E P) (hP : P.follows .mixedOrders = true) {call : CallF} (hcall : CallOK E P w0 call) {fuel : Nat} {f : FuncId} {args : List Value} {m : Mem} (hne : evFn E call fuel f args m ≠ []) {σ : Sg} {w : World} {args' : Array Value} (hargs : VRL σ args args'.toList) (hM : MR E w0 σ m w) :
    Calls P f args' w (After E w0 σ m w (evFn E call fuel f args m)) := by
  generalize hL : evFn E call fuel f args m = L at hne ⊢
  unfold evFn at hL
  split at hL
  · exact absurd hL.symm hne
  · rename_i fn hfn
    obtain ⟨hf, _, _⟩ := hE.funcs f fn hfn
    split at hL
    · exact absurd hL.symm hne
    · rename_i c hb
      split at hL
      · exact absurd hL.symm hne
      · rename_i hle
        have hle' : args.length ≤ fn.ntmps := Nat.le_of_ble_eq_true hle
        subst hL
        have h0 := bindL_ne hne
        refine calls_of_W (r := none) (n := 0) (callsIn_of_wp_marks hf hb trivial (evCode_wp hE hP hcall false (fun _ => rfl) fn.ntmps w.heap.size fuel c 0 _ m σ _ w _ (bindL_src hne) (TR.enter hargs hle') hM (Marks.nil (Nat.le_refl _)) ?_))
        rintro ⟨e, t1, m1⟩ hr σ' a' w' hf' hT' hM' hd
        obtain ⟨h1, h2⟩ := h0 _ hr
        have out : ∀ vs, resultsA E t1 m1 fn.results.toList = some vs → (tupled vs, m1) ∈ bindL (evCode E call false fn.ntmps fuel c (T.ofList args) m) (fun
            | (.exit _, _, _) => []
            | (_, t, m) => match resultsA E t m fn.results.toList with
              | some l => [(tupled l, m)]
              | none => []) → LeavesInM (WF none) 0 P fn a'.tmps (After E w0 σ m w (bindL (evCode E call false fn.ntmps fuel c (T.ofList args) m) (fun
            | (.exit _, _, _) => []
            | (_, t, m) => match resultsA E t m fn.results.toList with
              | some l => [(tupled l, m)]
              | none => []))) a'.defers .returning w' := by
          intro vs hvs hmem
          refine leaves_marks a'.defers w' hM' hd hM.below.size (fun w'' g1 g2 g3 => ?_)
          obtain ⟨v', k1, k2⟩ := results_sound hE hT' g1 hvs
          refine ⟨v', k1, (tupled vs, m1), hmem, σ', v', rfl, ⟨hf'.ext, by have := hf'.size; omega, fun b hb hl => ?_, hf'.grow, hf'.n, hf'.old⟩, k2, g1⟩
          rw [g3 b (by have := hf'.size; omega) (fun hB => by omega)]
          exact hf'.frame b hb hl
        cases e with
        | exit i => exact absurd rfl h1
        | normal =>
          simp only at h1 h2
          split at h1
          · rename_i vs hvs
            simp only [hvs] at h2
            exact out vs hvs (h2 _ (List.mem_singleton.2 rfl))
          · exact absurd rfl h1
        | ret =>
          simp only at h1 h2
          split at h1
          · rename_i vs hvs
            simp only [hvs] at h2
            exact out vs hvs (h2 _ (List.mem_singleton.2 rfl))
          · exact absurd rfl h1
theorem setTs_TR {σ : Sg} {N : Nat} : ∀ {ps : List Tmp} {args args' : List Value} {t : T Value} {tmps : Array Value}, VRL σ args args' → TR σ N t { tmps := tmps, defers := [] } →
    TR σ N (setTs N t ps args) { tmps := (ps.zip args').foldl (fun tmps (t, a) => tmps.setIfInBounds t a) tmps, defers := [] } := by
  intro ps
  induction ps with
  | nil => intro args args' t tmps _ h; exact h
  | cons p ps ih =>
    intro args args' t tmps hv h
    cases args with
    | nil =>
      obtain rfl : args' = [] := List.eq_nil_of_length_eq_zero hv.1.symm
      exact h
    | cons v args =>
      cases args' with
      | nil => exact absurd hv.1 (by simp)
      | cons v' args' =>
        simp only [setTs, List.zip_cons_cons, List.foldl_cons]
        exact ih hv.tail (h.put (some p) hv.head)
set_option maxHeartbeats 1000000 in
theorem evYield_ok (hE : EOK E P) (hP : P.follows .mixedOrders = true) {call : CallF} (hcall : CallOK E P w0 call) {fuel i : Nat} {args : List Value} {m : Mem} (hne : evYield E call fuel i args m ≠ []) {σ : Sg} {w : World} {args' : Array Value} {x : Inf} (hx : σ i = some x) (hargs : VRL σ args args'.toList) (hM : MR E w0 σ m w) :
    ∃ f tmps as body, (Instr.yield x.b args').run P w = .ok (.round x.b f tmps as body) w ∧ ∀ r n, RoundIn (WF r) n P x.b f tmps as body w (After E w0 σ m w (evYield E call fuel i args m)) := by
  generalize hL : evYield E call fuel i args m = R at hne ⊢
  unfold evYield at hL
  split at hL
  · rename_i t N ps assign body hi
    split at hL
    · rename_i hlen
      have hlen' : args.length = ps.size := Nat.eq_of_beq_eq_true hlen
      subst hL
      obtain ⟨ob, hob, hor, hlt⟩ := hM.iter hi rfl hx
      cases ob with
      | loop L =>
        obtain ⟨s1, s2, rfl, rfl, rfl, s6, s7⟩ := hor
        have hg := run_getObj (P := P) hob
        have hsz : args'.size = L.params.size := by have := hargs.1; simp at this; omega
        refine ⟨L.fn, (L.params.zip args').foldl (fun tmps (t, a) => tmps.setIfInBounds t a) L.tmps, L.assign, L.body, ?_, fun r n => roundIn_of_wpIn trivial ?_⟩
        · simp only [Instr.yield, Sem.run_bind, run_getLoop (P := P) hob, Result.andThen_ok, hsz, ne_eq, not_true_eq_false, if_false]
          rfl
        · rw [WF_round]
          have h0 := bindL_ne hne
          have hT0 : TR σ N (setTs N t L.params.toList args) { tmps := (L.params.zip args').foldl (fun tmps (t, a) => tmps.setIfInBounds t a) L.tmps, defers := [] } := by
            have := setTs_TR (ps := L.params.toList) (N := N) hargs (t := t) (tmps := L.tmps) ⟨s6, s7⟩
            rw [← Array.foldl_toList, Array.toList_zip]
            exact this
          refine evCode_wp hE hP hcall true (rr := some x.b) (fun e => by cases e) N 0 fuel L.assign n _ m σ _ w _ (bindL_src hne) hT0 hM (Marks.nil (Nat.zero_le _)) ?_
          rintro ⟨e1, t1, m1⟩ hr1 σ1 a1 w1 hf1 hT1 hM1 hK1
          obtain ⟨h1, h2⟩ := h0 _ hr1
          unfold roundMid at h1 h2
          cases e1 with
          | exit _ => exact absurd rfl h1
          | ret => exact absurd rfl h1
          | normal =>
            simp only at h1 h2
            split at h1
            · rename_i t2 N2 ps2 as2 body2 hi1
              simp only [hi1] at h2
              have hx1 : σ1 i = some x := hf1.ext _ _ hx
              obtain ⟨ob1, hob1, hor1, hlt1⟩ := hM1.iter hi1 rfl hx1
              cases ob1 with
              | loop L1 =>
                have hor1' := hor1
                obtain ⟨q1, q2, q3, q4, q5, q6, q7⟩ := hor1
                have hg1 := run_getObj (P := P) hob1
                obtain ⟨hM2, hF2, hnl, hB, _⟩ := hM1.kill hi1 rfl hx1 (.loop { L1 with state := .busy })
                obtain ⟨w2, hw2⟩ : ∃ w2 : World, { w1 with heap := w1.heap.setIfInBounds x.b (.loop { L1 with state := .busy }) } = w2 := ⟨_, rfl⟩
                have hw2s : w2.heap.size = w1.heap.size := by rw [← hw2]; simp
                have hob2 : w2.heap[x.b]? = some (.loop { L1 with state := .busy }) := by rw [← hw2]; simp [hlt1]
                refine ⟨w2, ?_, ?_⟩
                · simp only [Instr.beginRound, Sem.run_bind, run_getLoop (P := P) hob1, Result.andThen_ok, run_setObj (P := P) hob1 (by intro a b c e; cases e), q1, hw2]
                  rfl
                · rw [hw2] at hM2 hF2
                  have h3 := bindL_ne h1
                  refine evCode_wp hE hP hcall true (rr := some x.b) (fun e => by cases e) N 0 fuel L.body n _ _ σ1 _ w2 _ (bindL_src h1) hT1 hM2 (hK1.mono hF2) ?_
                  rintro ⟨e2, t3, m2⟩ hr2 σ2 a2 w3 hf2 hT2 hM3 _
                  obtain ⟨h4, h5⟩ := h3 _ hr2
                  unfold roundEnd at h4 h5
                  cases e2 with
                  | exit _ => exact absurd rfl h4
                  | ret => exact absurd rfl h4
                  | normal =>
                    simp only at h5
                    have hx2 : σ2 i = some x := hf2.ext _ _ hx1
                    have hob3 : w3.heap[x.b]? = some (.loop { L1 with state := .busy }) := (hf2.frame x.b (by omega) hnl).trans hob2
                    have hlt3 : x.b < w3.heap.size := (Array.getElem?_eq_some_iff.1 hob3).1
                    have hnl3 : ¬ LiveB σ2 m2 x.b := fun hl => by
                      rcases hf2.grow _ hl with h6 | h6
                      · exact hnl h6
                      · omega
                    obtain ⟨w4, hw4⟩ : ∃ w4 : World, { w3 with heap := w3.heap.setIfInBounds x.b (.loop { L1 with state := .ready, pending := none }) } = w4 := ⟨_, rfl⟩
                    have hoth : ∀ k, k ≠ x.b → w4.heap[k]? = w3.heap[k]? := fun k hk => by rw [← hw4]; simp [Ne.symm hk]
                    have hw4s : w4.heap.size = w3.heap.size := by rw [← hw4]; simp
                    refine ⟨.bool true, w4, ?_, ?_⟩
                    · simp only [Instr.endRound, Sem.run_bind, run_getLoop (P := P) hob3, Result.andThen_ok, run_setObj (P := P) hob3 (by intro a b c e; cases e)]
                      rw [← hw4]
                      rfl
                    · have hM4 : MR E w0 σ2 m2 w4 := hM3.offstage hB hnl3 hw4s hoth (by rw [← hw4]) (by rw [← hw4]) (by rw [← hw4])
                      have hor4 : OR E σ2 x (.loop t2 N2 ps2 as2 body2) (.loop { L1 with state := .ready, pending := none }) := ⟨rfl, rfl, q3, q4, q5, q6, fun j => (q7 j).mono hf2.ext⟩
                      have hM5 := hM4.putBack hx2 hB hnl3 (ob := .loop { L1 with state := .ready, pending := none }) (by rw [← hw4]; simp [hlt3]) hor4
                      refine ⟨(.bool true, _), h2 _ (h5 _ (List.mem_singleton.2 rfl)), σ2, .bool true, rfl, ?_, .refl rfl, hM5⟩
                      have hlive : LiveB σ1 m1 x.b := ⟨i, _, x, hi1, rfl, hx1, rfl⟩
                      refine hf1.trans ⟨(hF2.trans hf2).ext, by have := hf2.size; omega, fun b hb hl => ?_, fun b hl => ?_, (hF2.trans hf2).n, (hF2.trans hf2).old⟩
                      · have hbx : b ≠ x.b := fun e => hl (by rw [e]; exact hlive)
                        rw [hoth b hbx]
                        exact (hF2.trans hf2).frame b hb hl
                      · obtain ⟨j, o, z, hj, ho, hz, hb⟩ := hl
                        by_cases e : i = j
                        · subst e
                          obtain rfl : z = x := by rw [hx2] at hz; exact (Option.some.inj hz).symm
                          exact .inl (by rw [← hb]; exact hlive)
                        · rw [T.get_set_ne _ _ e] at hj
                          exact (hF2.trans hf2).grow b ⟨j, o, z, hj, ho, hz, hb⟩
              | _ => exact hor1.elim
            · exact absurd rfl h1
      | _ => exact hor.elim
    · exact absurd hL.symm hne
  · exact absurd hL.symm hne
theorem evCall_ok (hE : EOK E P) (hP : P.follows .mixedOrders = true) {S : Sums} (hS : SOK E P w0 S) (fuel : Nat) : ∀ d, CallOK E P w0 (evCall E S fuel d) := by
  intro d
  induction d with
  | zero => exact ⟨fun f args m hne => absurd rfl hne, fun i args m hne => absurd rfl hne⟩
  | succ d ih =>
    refine ⟨fun f args m hne σ w args' hargs hM => ?_, fun i args m hne σ w args' x hx hargs hM => evYield_ok hE hP ih hne hx hargs hM⟩
    cases hs : S f args m with
    | some l =>
      have he : evCall E S fuel (d + 1) (.fn f) args m = l := by simp only [evCall, hs]
      rw [he] at hne ⊢
      exact hS f args m l hs hne σ w args' hargs hM
    | none =>
      have he : evCall E S fuel (d + 1) (.fn f) args m = evFn E (evCall E S fuel d) fuel f args m := by simp only [evCall, hs]
      rw [he] at hne ⊢
      exact evFn_ok hE hP ih hne hargs hM
end Go.AS
set_option linter.unusedSectionVars false
namespace Go.AS
noncomputable section
def mkTI (P : Program) (t : TypeId) : Option TI :=
  match P.info? t, P.underlying t with
  | some i, some d => match i.zero with
    | some z => match Nat.beq z.cells.toList.length i.size, allSimple z.cells.toList, (match z with | .agg _ => agg? d | _ => !agg? d) with
      | true, true, true => some ⟨d, i.size, i.bytes, z.cells.toList⟩
      | _, _, _ => none
    | none => none
  | _, _ => none
def fillT {α : Type} (f : Nat → Option α) : Nat → Nat → T α → T α
  | 0, _, t => t
  | n + 1, i, t => match f i with
    | some x => fillT f n (i + 1) (t.set i x)
    | none => fillT f n (i + 1) t
def mkFn (P : Program) (f : FuncId) : Option Func :=
  match P.funcs[f]? with
  | some fn => match fn.body, fn.name == "runtime.NumGoroutine" with
    | some _, false => some fn
    | _, _ => none
  | none => none
def atomicName (n : String) : String := "sync" ++ String.singleton (Char.ofNat 47) ++ "atomic." ++ n
def raceName (n : String) : String := "internal" ++ String.singleton (Char.ofNat 47) ++ "race." ++ n
def cmpName : String := "internal" ++ String.singleton (Char.ofNat 47) ++ "bytealg.abigen_runtime_cmpstring"
def extNamed (n : String) : Option Xtn :=
  if n = atomicName "AddInt64" then some (.add .i64)
  else if n = atomicName "AddUint64" then some (.add .u64)
  else if n = atomicName "AddInt32" then some (.add .i32)
  else if n = atomicName "LoadUint64" then some (.load .u64)
  else if n = atomicName "LoadInt64" then some (.load .i64)
  else if n = atomicName "LoadUint32" then some (.load .u32)
  else if n = atomicName "StoreUint32" then some .store
  else if n = atomicName "CompareAndSwapUint64" then some (.cas .u64)
  else if n = atomicName "CompareAndSwapInt64" then some (.cas .i64)
  else if n = atomicName "CompareAndSwapInt32" then some (.cas .i32)
  else if n = cmpName then some .cmps
  else if n = raceName "Disable" then some (.nop .disable)
  else if n = raceName "Enable" then some (.nop .enable)
  else if n = raceName "Acquire" then some (.markd .acquire)
  else if n = raceName "ReleaseMerge" then some (.markd .releaseMerge)
  else none
def mkExt (P : Program) (f : FuncId) : Option Xtn :=
  match P.funcs[f]? with
  | some fn => match fn.body, (Extern.findNext fn).isNone, fn.name == "runtime.NumGoroutine" with
    | none, true, false => extNamed fn.name
    | _, _, _ => none
  | none => none
def mkEnv (P : Program) : Env := ⟨P, fillT (mkTI P) P.types.size 0 .nil, fillT (mkFn P) P.funcs.size 0 .nil, fillT (mkExt P) P.funcs.size 0 .nil, [], fun _ => True⟩
end
end Go.AS
set_option linter.unusedSectionVars false
namespace Go.AS
open Go.RowKit
variable [Rho]
theorem fillT_inv {α : Type} (f : Nat → Option α) : ∀ n i t, (∀ j x, t.get j = some x → f j = some x) → ∀ j x, (fillT f n i t).get j = some x → f j = some x := by
  intro n
  induction n with
  | zero => intro i t h j x hj; exact h j x hj
  | succ n ih =>
    intro i t h j x hj
    simp only [fillT] at hj
    split at hj
    · rename_i y hy
      refine ih (i + 1) (t.set i y) (fun k z hk => ?_) j x hj
      rw [T.get_set] at hk
      split at hk
      · rename_i e; subst e; cases hk; exact hy
      · exact h k z hk
    · exact ih (i + 1) t h j x hj
theorem find_of {fn : Func} {n : String} {e : Array Value → Sem Value} (hn : fn.name = n) (h1 : Extern.allGenericRows.lookup n = none) (h2 : Extern.allTypedRows.lookup n = none) (h3 : Extern.allRows.lookup n = some e) : Extern.find fn = some e := by
  unfold Extern.find
  simp only [hn, h1, h2, h3]
  rfl
theorem extNamed_find {fn : Func} {x : Xtn} (h : extNamed fn.name = some x) : Extern.find fn = some x.impl := by
  unfold extNamed at h
  by_cases e : fn.name = atomicName "AddInt64"
  · rw [if_pos e] at h; cases h; exact find_of e (by kernel_rfl) (by kernel_rfl) (by kernel_rfl)
  rw [if_neg e] at h; clear e
  by_cases e : fn.name = atomicName "AddUint64"
  · rw [if_pos e] at h; cases h; exact find_of e (by kernel_rfl) (by kernel_rfl) (by kernel_rfl)
  rw [if_neg e] at h; clear e
  by_cases e : fn.name = atomicName "AddInt32"
  · rw [if_pos e] at h; cases h; exact find_of e (by kernel_rfl) (by kernel_rfl) (by kernel_rfl)
  rw [if_neg e] at h; clear e
  by_cases e : fn.name = atomicName "LoadUint64"
  · rw [if_pos e] at h; cases h; exact find_of e (by kernel_rfl) (by kernel_rfl) (by kernel_rfl)
  rw [if_neg e] at h; clear e
  by_cases e : fn.name = atomicName "LoadInt64"
  · rw [if_pos e] at h; cases h; exact find_of e (by kernel_rfl) (by kernel_rfl) (by kernel_rfl)
  rw [if_neg e] at h; clear e
  by_cases e : fn.name = atomicName "LoadUint32"
  · rw [if_pos e] at h; cases h; exact find_of e (by kernel_rfl) (by kernel_rfl) (by kernel_rfl)
  rw [if_neg e] at h; clear e
  by_cases e : fn.name = atomicName "StoreUint32"
  · rw [if_pos e] at h; cases h; exact find_of e (by kernel_rfl) (by kernel_rfl) (by kernel_rfl)
  rw [if_neg e] at h; clear e
  by_cases e : fn.name = atomicName "CompareAndSwapUint64"
  · rw [if_pos e] at h; cases h; exact find_of e (by kernel_rfl) (by kernel_rfl) (by kernel_rfl)
  rw [if_neg e] at h; clear e
  by_cases e : fn.name = atomicName "CompareAndSwapInt64"
  · rw [if_pos e] at h; cases h; exact find_of e (by kernel_rfl) (by kernel_rfl) (by kernel_rfl)
  rw [if_neg e] at h; clear e
  by_cases e : fn.name = atomicName "CompareAndSwapInt32"
  · rw [if_pos e] at h; cases h; exact find_of e (by kernel_rfl) (by kernel_rfl) (by kernel_rfl)
  rw [if_neg e] at h; clear e
  by_cases e : fn.name = cmpName
  · rw [if_pos e] at h; cases h; exact find_of e (by kernel_rfl) (by kernel_rfl) (by kernel_rfl)
  rw [if_neg e] at h; clear e
  by_cases e : fn.name = raceName "Disable"
  · rw [if_pos e] at h; cases h; exact find_of e (by kernel_rfl) (by kernel_rfl) (by kernel_rfl)
  rw [if_neg e] at h; clear e
  by_cases e : fn.name = raceName "Enable"
  · rw [if_pos e] at h; cases h; exact find_of e (by kernel_rfl) (by kernel_rfl) (by kernel_rfl)
  rw [if_neg e] at h; clear e
  by_cases e : fn.name = raceName "Acquire"
  · rw [if_pos e] at h; cases h; exact find_of e (by kernel_rfl) (by kernel_rfl) (by kernel_rfl)
  rw [if_neg e] at h; clear e
  by_cases e : fn.name = raceName "ReleaseMerge"
  · rw [if_pos e] at h; cases h; exact find_of e (by kernel_rfl) (by kernel_rfl) (by kernel_rfl)
  rw [if_neg e] at h; clear e
  cases h
theorem mkEnv_ok (P : Program) : EOK (mkEnv P) P where
  prog := rfl
  rules := fun r hr => by cases hr
  types := fun t ti h => by
    have h1 : mkTI P t = some ti := fillT_inv (mkTI P) _ _ _ (fun j x hj => by rw [T.get_nil] at hj; cases hj) t ti h
    unfold mkTI at h1
    split at h1
    · rename_i i d hi hd
      split at h1
      · rename_i z hz
        split at h1
        · rename_i a1 a2 a3
          cases h1
          have e1 := Nat.eq_of_beq_eq_true a1
          refine ⟨hd, i, z, hi, rfl, rfl, hz, rfl, e1, allSimple_spec a2, fun hg => ?_, fun hg => ?_⟩
          · simp only at hg
            cases z with
            | agg vs => simp only at a3; rw [a3] at hg; cases hg
            | _ => simp only [Value.cells]
          · simp only at hg
            cases z with
            | agg vs => simp [Value.cells]
            | _ => simp only at a3; rw [hg] at a3; cases a3
        · cases h1
      · cases h1
    · cases h1
  funcs := fun f fn h => by
    have h1 : mkFn P f = some fn := fillT_inv (mkFn P) _ _ _ (fun j x hj => by rw [T.get_nil] at hj; cases hj) f fn h
    unfold mkFn at h1
    split at h1
    · rename_i fn' hf
      split at h1
      · rename_i c hc hn
        cases h1
        exact ⟨hf, hn, c, hc⟩
      · cases h1
    · cases h1
  exts := fun f x h => by
    have h1 : mkExt P f = some x := fillT_inv (mkExt P) _ _ _ (fun j y hj => by rw [T.get_nil] at hj; cases hj) f x h
    unfold mkExt at h1
    split at h1
    · rename_i fn hf
      split at h1
      · rename_i hb hx hn
        exact ⟨fn, hf, hn, hb, by simpa using hx, extNamed_find h1⟩
      · cases h1
    · cases h1
def allTrue : List (Value × Mem) → Bool
  | [] => true
  | (.bool true, _) :: l => allTrue l
  | _ :: _ => false
theorem allTrue_spec : ∀ {l}, allTrue l = true → ∀ r ∈ l, r.1 = .bool true := by
  intro l
  induction l with
  | nil => intro _ r hr; cases hr
  | cons x l ih =>
    intro h r hr
    unfold allTrue at h
    split at h
    · rename_i e
      cases e
    · rename_i e
      cases e
      cases hr with
      | head => rfl
      | tail _ hm => exact ih h r hm
    · cases h
def isTrue (l : List (Value × Mem)) : Bool :=
  match l with
  | [] => false
  | x :: l => allTrue (x :: l)
def noSums : Sums := fun _ _ _ => none
theorem noSums_ok (E : Env) (P : Program) (w0 : World) : SOK E P w0 noSums := fun _ _ _ _ h => by cases h
theorem MR.start (E : Env) (w : World) (hT : E.Tw w) : MR E w (fun _ => none) ⟨0, .nil⟩ w :=
  { below := Below.refl _ w
    t0 := hT
    obj := fun i o hg => by simp only [T.get_nil] at hg; cases hg
    inj := fun i j o p x y hi => by simp only [T.get_nil] at hi; cases hi
    fresh := fun i _ => rfl }
theorem ae_true_with {P : Program} (hP : P.follows .mixedOrders = true) {S : Sums} {fuel d : Nat} {f : FuncId} {args : List Value} {args' : Array Value} (hargs : VRL (fun _ => none) args args'.toList) (h : isTrue (evCall (mkEnv P) S fuel d (.fn f) args ⟨0, .nil⟩) = true) (w : World) (hS : SOK (mkEnv P) P w S) :
    Calls P f args' w fun e w' => e = .returned (.bool true) ∧ Below w.heap.size w w' := by
  have hne : evCall (mkEnv P) S fuel d (.fn f) args ⟨0, .nil⟩ ≠ [] := fun e => by rw [e] at h; cases h
  refine ((evCall_ok (w0 := w) (mkEnv_ok P) hP hS fuel d).fn f args ⟨0, .nil⟩ hne _ w args' hargs (MR.start _ w trivial)).mono ?_
  rintro e w' ⟨r, hr, σ', v', rfl, hf, hv, hm⟩
  have ht : r.1 = .bool true := by
    cases hl : evCall (mkEnv P) S fuel d (.fn f) args ⟨0, .nil⟩ with
    | nil => exact absurd hl hne
    | cons x l => rw [hl] at h hr; exact allTrue_spec h r hr
  rw [ht] at hv
  exact ⟨congrArg _ (hv.simple_inv rfl), hm.below⟩
theorem ae_true {P : Program} (hP : P.follows .mixedOrders = true) {fuel d : Nat} {f : FuncId} {args : List Value} {args' : Array Value} (hargs : VRL (fun _ => none) args args'.toList) (h : isTrue (evCall (mkEnv P) noSums fuel d (.fn f) args ⟨0, .nil⟩) = true) (w : World) :
    Calls P f args' w fun e w' => e = .returned (.bool true) ∧ Below w.heap.size w w' := ae_true_with hP hargs h w (noSums_ok _ _ _)
end Go.AS
set_option linter.unusedSectionVars false
namespace Go.AS
open Go.RowKit
variable [Rho]
def conc : Value → Value
  | .complex .f32 30 i => Rho.D i
  | v => v
def okC : Value → Prop
  | .complex .f32 30 i => (Rho.D i).oneCell' = true
  | v => simple v = true
theorem VR.conc {σ : Sg} {a v : Value} (h : VR σ a v) (ha : okC a) : v = AS.conc a := by
  cases h with
  | sym h => rfl
  | refl hs => cases a <;> first | rfl | (simp [simple] at hs; done)
  | topB b => simp [okC, simple, AS.topB] at ha
  | topI k n => simp [okC, simple, AS.topI] at ha
  | topS a n c => simp [okC, simple, AS.topS] at ha
  | topStr s => simp [okC, simple, AS.topStr] at ha
  | topE a c => simp [okC, simple, AS.topE] at ha
  | yld h => simp [okC, simple, AS.yld] at ha
  | any v' => simp [okC, simple, bad] at ha
  | _ => simp [okC, simple] at ha
theorem VR.of_conc {σ : Sg} {a : Value} (ha : okC a) : VR σ a (AS.conc a) := by
  unfold okC at ha
  split at ha
  · exact .sym ha
  · rename_i h
    have : AS.conc a = a := by unfold AS.conc; split <;> first | rfl | (rename_i i; exact absurd rfl (h i))
    rw [this]
    exact .refl ha
theorem VRL.conc {σ : Sg} : ∀ {l l' : List Value}, VRL σ l l' → (∀ a ∈ l, okC a) → l' = l.map AS.conc
  | [], l', h, _ => List.eq_nil_of_length_eq_zero h.1.symm
  | a :: l, [], h, _ => absurd h.1 (by simp)
  | a :: l, b :: l', h, ha => by
    rw [h.head.conc (ha a (List.mem_cons_self ..)), VRL.conc h.tail (fun x hx => ha x (List.mem_cons_of_mem _ hx))]
    rfl
theorem VRL.of_conc {σ : Sg} : ∀ {l : List Value}, (∀ a ∈ l, okC a) → VRL σ l (l.map AS.conc)
  | [], _ => VRL.nil σ
  | a :: l, ha => VRL.cons (VR.of_conc (ha a (List.mem_cons_self ..))) (VRL.of_conc fun x hx => ha x (List.mem_cons_of_mem _ hx))
variable {E : Env} {P : Program}
def RuleOK (P : Program) (Tw : World → Prop) (r : Rule) : Prop := ∀ o : Oper, opKey o = some r.key → ∀ (σ : Sg) (ρ' : Operand → Value), VRL σ r.args (o.op.operands.toList.map ρ') → ∀ w, Tw w → ∃ v', (execOp ρ' o).run P w = .ok (.value v') w ∧ VR σ r.res v'
theorem bcode_inj {a b : BinOp} (h : bcode a = bcode b) : a = b := by cases a <;> cases b <;> first | rfl | (simp [bcode] at h)
theorem ucode_inj {a b : UnOp} (h : ucode a = ucode b) : a = b := by cases a <;> cases b <;> first | rfl | (simp [ucode] at h)
theorem bcode_ge (a : BinOp) : 10 ≤ bcode a ∧ bcode a ≤ 26 := by cases a <;> simp [bcode]
theorem ucode_ge (a : UnOp) : 30 ≤ ucode a ∧ ucode a ≤ 33 := by cases a <;> simp [ucode]
theorem key_bin {o : Oper} {op : BinOp} {t u : Nat} (h : opKey o = some (bcode op, t, u)) : ∃ x y, o.op = .binOp op t x y u := by
  have hb := bcode_ge op
  unfold opKey at h
  split at h
  · rename_i op' t' x y u' ho
    simp only [Option.some.injEq, Prod.mk.injEq] at h
    obtain ⟨h1, rfl, rfl⟩ := h
    obtain rfl := bcode_inj h1
    exact ⟨x, y, ho⟩
  · rename_i op' t' x ho
    simp only [Option.some.injEq, Prod.mk.injEq] at h
    have := ucode_ge op'; omega
  · simp only [Option.some.injEq, Prod.mk.injEq] at h; omega
  · simp only [Option.some.injEq, Prod.mk.injEq] at h; omega
  · simp only [Option.some.injEq, Prod.mk.injEq] at h; omega
  · simp only [Option.some.injEq, Prod.mk.injEq] at h; omega
  · simp only [Option.some.injEq, Prod.mk.injEq] at h; omega
  · simp only [Option.some.injEq, Prod.mk.injEq] at h; omega
  · simp only [Option.some.injEq, Prod.mk.injEq] at h; omega
  · simp only [Option.some.injEq, Prod.mk.injEq] at h; omega
  · simp only [Option.some.injEq, Prod.mk.injEq] at h; omega
  · split at h <;> first | (simp only [Option.some.injEq, Prod.mk.injEq] at h; omega) | cases h
  · cases h
theorem key_un {o : Oper} {op : UnOp} {t u : Nat} (h : opKey o = some (ucode op, t, u)) : ∃ x, o.op = .unOp op t x := by
  have hb := ucode_ge op
  unfold opKey at h
  split at h
  · rename_i op' t' x y u' ho
    simp only [Option.some.injEq, Prod.mk.injEq] at h
    have := bcode_ge op'; omega
  · rename_i op' t' x ho
    simp only [Option.some.injEq, Prod.mk.injEq] at h
    obtain ⟨h1, rfl, _⟩ := h
    obtain rfl := ucode_inj h1
    exact ⟨x, ho⟩
  · simp only [Option.some.injEq, Prod.mk.injEq] at h; omega
  · simp only [Option.some.injEq, Prod.mk.injEq] at h; omega
  · simp only [Option.some.injEq, Prod.mk.injEq] at h; omega
  · simp only [Option.some.injEq, Prod.mk.injEq] at h; omega
  · simp only [Option.some.injEq, Prod.mk.injEq] at h; omega
  · simp only [Option.some.injEq, Prod.mk.injEq] at h; omega
  · simp only [Option.some.injEq, Prod.mk.injEq] at h; omega
  · simp only [Option.some.injEq, Prod.mk.injEq] at h; omega
  · simp only [Option.some.injEq, Prod.mk.injEq] at h; omega
  · split at h <;> first | (simp only [Option.some.injEq, Prod.mk.injEq] at h; omega) | cases h
  · cases h
theorem key_conv {o : Oper} {a b : Nat} (h : opKey o = some (1, a, b)) : ∃ x, o.op = .convert a b x := by
  unfold opKey at h
  split at h
  · rename_i op' t' x y u' ho
    simp only [Option.some.injEq, Prod.mk.injEq] at h
    have := bcode_ge op'; omega
  · rename_i op' t' x ho
    simp only [Option.some.injEq, Prod.mk.injEq] at h
    have := ucode_ge op'; omega
  · rename_i a' b' x ho
    simp only [Option.some.injEq, Prod.mk.injEq] at h
    obtain ⟨_, rfl, rfl⟩ := h
    exact ⟨x, ho⟩
  · simp only [Option.some.injEq, Prod.mk.injEq] at h; omega
  · simp only [Option.some.injEq, Prod.mk.injEq] at h; omega
  · simp only [Option.some.injEq, Prod.mk.injEq] at h; omega
  · simp only [Option.some.injEq, Prod.mk.injEq] at h; omega
  · simp only [Option.some.injEq, Prod.mk.injEq] at h; omega
  · simp only [Option.some.injEq, Prod.mk.injEq] at h; omega
  · simp only [Option.some.injEq, Prod.mk.injEq] at h; omega
  · simp only [Option.some.injEq, Prod.mk.injEq] at h; omega
  · split at h <;> first | (simp only [Option.some.injEq, Prod.mk.injEq] at h; omega) | cases h
  · cases h
theorem key_len {o : Oper} {a b : Nat} (h : opKey o = some (4, a, b)) : ∃ c, o.op = .call c ∧ headT c.argTypes.toList = a ∧ o.type = b ∧ c.callee = .builtin .len := by
  unfold opKey at h
  split at h
  · rename_i op' t' x y u' ho
    simp only [Option.some.injEq, Prod.mk.injEq] at h
    have := bcode_ge op'; omega
  · rename_i op' t' x ho
    simp only [Option.some.injEq, Prod.mk.injEq] at h
    have := ucode_ge op'; omega
  · simp only [Option.some.injEq, Prod.mk.injEq] at h; omega
  · simp only [Option.some.injEq, Prod.mk.injEq] at h; omega
  · simp only [Option.some.injEq, Prod.mk.injEq] at h; omega
  · simp only [Option.some.injEq, Prod.mk.injEq] at h; omega
  · simp only [Option.some.injEq, Prod.mk.injEq] at h; omega
  · simp only [Option.some.injEq, Prod.mk.injEq] at h; omega
  · simp only [Option.some.injEq, Prod.mk.injEq] at h; omega
  · simp only [Option.some.injEq, Prod.mk.injEq] at h; omega
  · simp only [Option.some.injEq, Prod.mk.injEq] at h; omega
  · rename_i c ho
    split at h
    · rename_i hc
      simp only [Option.some.injEq, Prod.mk.injEq, true_and] at h
      exact ⟨c, ho, h.1, h.2, hc⟩
    all_goals first | (simp only [Option.some.injEq, Prod.mk.injEq] at h; omega) | cases h
  · cases h
theorem rule_bin {Tw : World → Prop} (hE : EOK E P) {op : BinOp} {t u : TypeId} {a b r : Value} (ha : okC a) (hb : okC b) (hr : okC r) (hsa : simple (conc a) = true) (hsb : simple (conc b) = true) (hn : conc a ≠ .nilIface) (h : binop E op t (conc a) (conc b) = some (conc r)) (hs : simple (conc r) = true) :
    RuleOK P Tw ⟨(bcode op, t, u), [a, b], r⟩ := by
  intro o hk σ ρ' hv w _
  obtain ⟨x, y, ho⟩ := key_bin hk
  have hc := hv.conc (by intro z hz; simp at hz; rcases hz with rfl | rfl <;> assumption)
  rw [ho] at hc
  simp only [Op.operands, List.map_cons, List.map_nil, List.cons.injEq, and_true] at hc
  obtain ⟨hx, hy⟩ := hc
  have hb : binopC E op t (isConst x || isConst y) (conc a) (conc b) = some (conc r) := by
    unfold binopC
    split
    · rename_i e _ ; exact absurd e hn
    · exact h
  obtain ⟨v', hrun, hvr⟩ := binopC_sound (P := P) (σ := fun _ => none) (ox := x) (oy := y) hE hb (.refl hsa) (.refl hsb) w
  obtain rfl := hvr.simple_inv hs
  refine ⟨conc r, ?_, VR.of_conc hr⟩
  have : execOp ρ' o = (do pure (.value (← (do eqGuard op t x y (ρ' x) (ρ' y); Go.binOp op t (ρ' x) (ρ' y))))) := by simp [execOp, ho]
  rw [this, show ρ' x = conc a from hx, show ρ' y = conc b from hy]
  simp only [Sem.run_bind] at hrun ⊢
  rw [hrun]
  rfl
theorem rule_conv {Tw : World → Prop} (hE : EOK E P) (hET : ∀ w, E.Tw w) {s d : TypeId} {a r : Value} {j k : IntKind} {n n' : Int} (ha : okC a) (hr : okC r) (hca : conc a = .int j n) (hcr : conc r = .int k n') (ht : ∃ ts td, E.types.get s = some ts ∧ E.types.get d = some td ∧ td.desc = .int k) (h : k.wrap n = n') :
    RuleOK P Tw ⟨(1, s, d), [a], r⟩ := by
  intro o hk σ ρ' hv w _
  obtain ⟨x, ho⟩ := key_conv hk
  have hc := hv.conc (by intro z hz; simp at hz; subst hz; assumption)
  rw [ho] at hc
  simp only [Op.operands, List.map_cons, List.map_nil, List.cons.injEq, and_true] at hc
  obtain ⟨ts, td, h1, h2, h3⟩ := ht
  have hcv : convertA E s d (.int j n) ⟨0, .nil⟩ = some (.val (.int k n')) := by
    unfold convertA
    rw [h1, h2]
    simp only [h3, h]
  obtain ⟨nx, v', hrun, hnx, hvr⟩ := convert_sound (P := P) (σ := fun _ => none) hE (MR.start E w (hET w)) (w := w) hcv (.refl rfl)
  obtain rfl := hvr.simple_inv rfl
  refine ⟨conc r, ?_, VR.of_conc hr⟩
  rw [hcr, show execOp ρ' o = (do pure (.value (← convert s d (ρ' x)))) by simp [execOp, ho], show ρ' x = .int j n from hc.trans hca, hrun]
  cases nx <;> first | (simp only [nextVal, Option.some.injEq] at hnx; subst hnx; rfl) | (simp only [nextVal, Option.some.injEq] at hnx; cases hnx) | (simp [nextVal] at hnx)
theorem bin_add {E : Env} {t : TypeId} {k : IntKind} {a b r : Int} (h : k.wrap (a + b) = r) : binop E .add t (.int k a) (.int k b) = some (.int k r) := by subst h; cases k <;> rfl
theorem bin_sub {E : Env} {t : TypeId} {k : IntKind} {a b r : Int} (h : k.wrap (a - b) = r) : binop E .sub t (.int k a) (.int k b) = some (.int k r) := by subst h; cases k <;> rfl
theorem bin_mul {E : Env} {t : TypeId} {k : IntKind} {a b r : Int} (h : k.wrap (a * b) = r) : binop E .mul t (.int k a) (.int k b) = some (.int k r) := by subst h; cases k <;> rfl
theorem bin_lss {E : Env} {t : TypeId} {k : IntKind} {a b : Int} {r : Bool} (h : decide (a < b) = r) : binop E .lss t (.int k a) (.int k b) = some (.bool r) := by subst h; cases k <;> rfl
theorem bin_leq {E : Env} {t : TypeId} {k : IntKind} {a b : Int} {r : Bool} (h : decide (a ≤ b) = r) : binop E .leq t (.int k a) (.int k b) = some (.bool r) := by subst h; cases k <;> rfl
theorem bin_gtr {E : Env} {t : TypeId} {k : IntKind} {a b : Int} {r : Bool} (h : decide (a > b) = r) : binop E .gtr t (.int k a) (.int k b) = some (.bool r) := by subst h; cases k <;> rfl
theorem bin_geq {E : Env} {t : TypeId} {k : IntKind} {a b : Int} {r : Bool} (h : decide (a ≥ b) = r) : binop E .geq t (.int k a) (.int k b) = some (.bool r) := by subst h; cases k <;> rfl
theorem bin_eql {E : Env} {t : TypeId} {k : IntKind} {a b : Int} {r : Bool} (h : (a == b) = r) : binop E .eql t (.int k a) (.int k b) = some (.bool r) := by subst h; cases k <;> rfl
theorem bin_neq {E : Env} {t : TypeId} {k : IntKind} {a b : Int} {r : Bool} (h : (a != b) = r) : binop E .neq t (.int k a) (.int k b) = some (.bool r) := by subst h; cases k <;> rfl
theorem bin_quo {E : Env} {t : TypeId} {k : IntKind} {a b r : Int} (hb : b ≠ 0) (h : k.wrap (a.tdiv b) = r) : binop E .quo t (.int k a) (.int k b) = some (.int k r) := by
  subst h
  cases k <;> (show (if b = 0 then none else _) = _; rw [if_neg hb])
theorem bin_rem {E : Env} {t : TypeId} {k : IntKind} {a b r : Int} (hb : b ≠ 0) (h : a.tmod b = r) : binop E .rem t (.int k a) (.int k b) = some (.int k r) := by
  subst h
  cases k <;> (show (if b = 0 then none else _) = _; rw [if_neg hb])
theorem bin_shr {E : Env} {t : TypeId} {k j : IntKind} {a b r : Int} (hb : 0 ≤ b) (h : a.fdiv (2 ^ (min b.toNat k.bits)) = r) : binop E .shr t (.int k a) (.int j b) = some (.int k r) := by
  subst h
  show (if b < 0 then none else _) = _
  rw [if_neg (by omega)]
theorem bin_shl {E : Env} {t : TypeId} {k j : IntKind} {a b r : Int} (hb : 0 ≤ b) (h : k.wrap (a * 2 ^ (min b.toNat k.bits)) = r) : binop E .shl t (.int k a) (.int j b) = some (.int k r) := by
  subst h
  show (if b < 0 then none else _) = _
  rw [if_neg (by omega)]
abbrev PureL := List (FuncId × List Value × Value)
def pureS : PureL → Sums
  | [], _, _, _ => none
  | (g, as, v) :: l, f, args, m => match Nat.beq g f with
    | true => match veqL 30 args as with
      | true => some [(v, m)]
      | false => pureS l f args m
    | false => pureS l f args m
def PureOK (P : Program) (Tw : World → Prop) (p : FuncId × List Value × Value) : Prop := ∀ (σ : Sg) (args' : Array Value), VRL σ p.2.1 args'.toList → ∀ w, Tw w → Calls P p.1 args' w fun e w' => ∃ v', e = .returned v' ∧ VR σ p.2.2 v' ∧ Below w.heap.size w w'
theorem MR.grown {E : Env} {w0 w w' : World} {σ : Sg} {m : Mem} (h : MR E w0 σ m w) (hb : Below w.heap.size w w') : MR E w0 σ m w' ∧ FG σ m w σ m w' := by
  have hk : ∀ {b : Nat} {o : Obj}, w.heap[b]? = some o → w'.heap[b]? = some o := fun {b o} ho => (hb.block b (Array.getElem?_eq_some_iff.1 ho).1).trans ho
  refine ⟨⟨h.below.trans (hb.mono h.below.size), h.t0, fun i o hi hl => ?_, h.inj, h.fresh⟩, ⟨Ext.refl σ, hb.size, fun b hb' _ => hb.block b hb', fun b hl => .inl hl, Nat.le_refl _, fun _ _ => rfl⟩⟩
  obtain ⟨x, ob, hx, hB, hob, hor⟩ := h.obj i o hi hl
  exact ⟨x, ob, hx, hB, hk hob, hor⟩
theorem pureS_ok {E : Env} {P : Program} {Tw : World → Prop} {w0 : World} {l : PureL} (hT : ∀ σ m w, MR E w0 σ m w → Tw w) (h : ∀ p ∈ l, PureOK P Tw p) : SOK E P w0 (pureS l) := by
  induction l with
  | nil => intro f args m r hs; cases hs
  | cons p l ih =>
    intro f args m r hs hne σ w args' hv hM
    have ih' := ih (fun q hq => h q (List.mem_cons_of_mem _ hq)) f args m r
    obtain ⟨g, as, v⟩ := p
    unfold pureS at hs
    split at hs
    · rename_i hg
      split at hs
      · rename_i ha
        cases hs
        have hg' := Nat.eq_of_beq_eq_true hg
        have ha' := (veq_sound 30).2 _ _ ha
        subst hg' ha'
        refine (h _ (List.mem_cons_self ..) σ args' hv w (hT σ m w hM)).mono ?_
        rintro e w' ⟨v', rfl, hvr, hb⟩
        obtain ⟨hM', hF⟩ := hM.grown hb
        exact ⟨_, List.mem_cons_self .., σ, v', rfl, hF, hvr, hM'⟩
      · exact ih' hs hne σ w args' hv hM
    · exact ih' hs hne σ w args' hv hM
theorem pure_of {P : Program} {Tw : World → Prop} {f : FuncId} {as : List Value} {v : Value} (ha : ∀ a ∈ as, okC a) (hv : okC v) (h : ∀ w, Tw w → Calls P f (as.map conc).toArray w fun e w' => e = .returned (conc v) ∧ Below w.heap.size w w') : PureOK P Tw (f, as, v) := by
  intro σ args' hl w hT
  have := hl.conc ha
  have e : args' = (as.map conc).toArray := Array.ext' (by simpa using this)
  subst e
  refine (h w hT).mono ?_
  rintro e w' ⟨rfl, hb⟩
  exact ⟨_, rfl, VR.of_conc hv, hb⟩
end Go.AS
set_option linter.unusedSectionVars false
namespace Go.AS
open Go.RowKit
noncomputable section
variable [Rho]
def At (w : World) (b sh : Nat) (e : TypeId) (l : List Value) : Prop :=
  ∃ C fz, w.heap[b]? = some (.cells C e fz) ∧ NF fz C.size ∧ sh + l.length ≤ C.size ∧ ∀ j, j < l.length → C[sh + j]? = l[j]?
omit [Rho] in
theorem At.lt {w : World} {b sh : Nat} {e : TypeId} {l : List Value} (h : At w b sh e l) : b < w.heap.size := by
  obtain ⟨C, fz, hC, _⟩ := h
  exact (Array.getElem?_eq_some_iff.1 hC).1
omit [Rho] in
theorem At.keep {w w' : World} {b sh : Nat} {e : TypeId} {l : List Value} (h : At w b sh e l) (hk : w'.heap[b]? = w.heap[b]?) : At w' b sh e l := by
  obtain ⟨C, fz, hC, hr⟩ := h
  exact ⟨C, fz, hk.trans hC, hr⟩
omit [Rho] in
theorem At.below {w w' : World} {b sh s : Nat} {e : TypeId} {l : List Value} (h : At w b sh e l) (hs : b < s) (hk : Below s w w') : At w' b sh e l := h.keep (hk.block b hs)
omit [Rho] in
theorem At.cell {w : World} {b sh : Nat} {e : TypeId} {l : List Value} (h : At w b sh e l) (j : Nat) (v : Value) (hv : l[j]? = some v) : w.cell? ⟨b, sh + j, none⟩ = some v := by
  obtain ⟨C, fz, hC, _, _, hj⟩ := h
  have hlt : j < l.length := (List.getElem?_eq_some_iff.1 hv).1
  simp only [World.cell?, hC]
  simp [hj j hlt, hv]
omit [Rho] in
theorem At.frozen {w : World} {b sh : Nat} {e : TypeId} {l : List Value} (h : At w b sh e l) (j : Nat) (hlt : j < l.length) : w.frozen? ⟨b, sh + j, none⟩ = false := by
  obtain ⟨C, fz, hC, hf, hs, hj⟩ := h
  simp only [World.frozen?, hC]
  rcases hf with h | h
  · simp [h]
    try omega
  · simp
    try omega
omit [Rho] in
theorem At.of_block {w : World} {b : Nat} {C : Array Value} {e : TypeId} (h : w.heap[b]? = some (.cells C e (0, 0))) : At w b 0 e C.toList :=
  ⟨C, (0, 0), h, .inl rfl, by simp, fun j _ => by simp⟩
abbrev Pls := List (Nat × Nat × List Value)
def SgB (σ : Sg) (B : Pls) : Prop := ∀ (i : Nat) q, B[i]? = some q → ∃ x, σ i = some x ∧ x.b = q.1 ∧ x.sh = q.2.1
def memA (A : List (TypeId × List Value)) : Mem := ⟨A.length, T.ofList (A.map fun p => newRow p.1 p.2)⟩
theorem memA_get (A : List (TypeId × List Value)) (i : Nat) : (memA A).t.get i = (A[i]?).map fun p => newRow p.1 p.2 := by
  show (T.ofList _).get i = _
  rw [T.get_ofList, List.getElem?_map]
structure InitOK (E : Env) (w : World) (A : List (TypeId × List Value)) (B : Pls) : Prop where
  len : A.length = B.length
  types : (A.all fun p => (E.types.get p.1).isSome) = true
  at_ : ∀ (i : Nat) p q, A[i]? = some p → B[i]? = some q → At w q.1 q.2.1 p.1 q.2.2 ∧ p.2.length = q.2.2.length
  dist : ∀ (i j : Nat) q r, B[i]? = some q → B[j]? = some r → q.1 = r.1 → i = j
  rel : ∀ σ, SgB σ B → ∀ (i : Nat) p q, A[i]? = some p → B[i]? = some q → VRL σ p.2 q.2.2
def bare (n : Nat) (w : World) : World := { w with heap := w.heap.extract 0 n }
omit [Rho] in
theorem bare_below (n : Nat) (w : World) : Below (bare n w).heap.size (bare n w) w := by
  refine ⟨rfl, rfl, rfl, ?_, fun k hk => ?_⟩
  · show (w.heap.extract 0 n).size ≤ _
    simp only [Array.size_extract]; omega
  · have hk' : k < min n w.heap.size := by have : k < (w.heap.extract 0 n).size := hk; simpa [Array.size_extract] using this
    show w.heap[k]? = (w.heap.extract 0 n)[k]?
    rw [Array.getElem?_extract]
    simp; omega
theorem init {E : Env} {w : World} {n0 : Nat} {A : List (TypeId × List Value)} {B : Pls} (hT : E.Tw (bare n0 w)) (hlow : ∀ q ∈ B, n0 ≤ q.1) (h : InitOK E w A B) : ∃ σ, SgB σ B ∧ MR E (bare n0 w) σ (memA A) w := by
  classical
  let bsz : Nat → Nat := fun b => match w.heap[b]? with | some (.cells C _ _) => C.size | _ => 0
  let ts : TypeId → Nat := fun e => match E.types.get e with | some ti => ti.size | none => 0
  let σ : Sg := fun i => match A[i]?, B[i]? with | some p, some q => some ⟨q.1, q.2.1, bsz q.1 - q.2.1, ts p.1⟩ | _, _ => none
  have hσ : ∀ (i : Nat) p q, A[i]? = some p → B[i]? = some q → σ i = some ⟨q.1, q.2.1, bsz q.1 - q.2.1, ts p.1⟩ := fun i p q hp hq => by simp only [σ, hp, hq]
  have hpair : ∀ (i : Nat) q, B[i]? = some q → ∃ p, A[i]? = some p := fun i q hq => by
    have := (List.getElem?_eq_some_iff.1 hq).1
    exact ⟨A[i]'(by rw [h.len]; exact this), List.getElem?_eq_getElem _⟩
  have hpair2 : ∀ (i : Nat) p, A[i]? = some p → ∃ q, B[i]? = some q := fun i p hp => by
    have := (List.getElem?_eq_some_iff.1 hp).1
    exact ⟨B[i]'(by rw [← h.len]; exact this), List.getElem?_eq_getElem _⟩
  have hB : SgB σ B := fun i q hq => by
    obtain ⟨p, hp⟩ := hpair i q hq
    exact ⟨_, hσ i p q hp hq, rfl, rfl⟩
  refine ⟨σ, hB, ?_⟩
  have hget : ∀ (i : Nat) o, (memA A).t.get i = some o → ∃ p q, A[i]? = some p ∧ B[i]? = some q ∧ o = newRow p.1 p.2 := fun i o ho => by
    rw [memA_get] at ho
    cases hp : A[i]? with
    | none => rw [hp] at ho; cases ho
    | some p =>
      rw [hp] at ho
      obtain ⟨q, hq⟩ := hpair2 i p hp
      exact ⟨p, q, rfl, hq, (Option.some.inj ho).symm⟩
  refine ⟨bare_below n0 w, hT, fun i o ho _ => ?_, fun i j o o' x y hi _ hj _ hx hy hxy => ?_, fun i hi => ?_⟩
  · obtain ⟨p, q, hp, hq, rfl⟩ := hget i o ho
    obtain ⟨⟨C, fz, hC, hf, hs, hj⟩, hl⟩ := h.at_ i p q hp hq
    have hr := h.rel σ hB i p q hp hq
    have hbs : bsz q.1 = C.size := by simp only [bsz, hC]
    have hty : ∃ ti, E.types.get p.1 = some ti ∧ ts p.1 = ti.size := by
      have := List.all_eq_true.1 h.types p (List.mem_of_getElem? hp)
      obtain ⟨ti, hti⟩ := Option.isSome_iff_exists.1 this
      exact ⟨ti, hti, by simp only [ts, hti]⟩
    refine ⟨_, _, hσ i p q hp hq, Nat.le_trans (by show (w.heap.extract 0 n0).size ≤ n0; simp only [Array.size_extract]; omega) (hlow q (List.mem_of_getElem? hq)), hC, ?_⟩
    refine ⟨rfl, hf, ?_, ?_, hty, fun j hjl => ?_⟩
    · show q.2.1 + (bsz q.1 - q.2.1) = C.size
      rw [hbs]; omega
    · show p.2.length ≤ bsz q.1 - q.2.1
      rw [hbs]; omega
    · have h1 : p.2[j]? = some (p.2[j]'hjl) := List.getElem?_eq_getElem hjl
      obtain ⟨v', hv', hvr⟩ := hr.getElem? h1
      refine ⟨_, v', ?_, ?_, hvr⟩
      · rw [T.get_ofList, h1]
      · show C[q.2.1 + j]? = _
        rw [hj j (by omega), hv']
  · obtain ⟨p, q, hp, hq, rfl⟩ := hget i o hi
    obtain ⟨p', q', hp', hq', rfl⟩ := hget j o' hj
    rw [hσ i p q hp hq] at hx
    rw [hσ j p' q' hp' hq'] at hy
    cases hx; cases hy
    exact h.dist i j q q' hq hq' hxy
  · show (match A[i]?, B[i]? with | some p, some q => some (⟨q.1, q.2.1, bsz q.1 - q.2.1, ts p.1⟩ : Inf) | _, _ => none) = none
    rw [List.getElem?_eq_none (show A.length ≤ i from hi)]
def pick1 (m : Mem) (i : Nat) : Option (TypeId × List Value) :=
  match m.t.get i with
  | some (.row cells n e) => match cells.getL n 0 with
    | some l => some (e, l)
    | none => none
  | _ => none
def stay (m : Mem) : Nat → Bool
  | 0 => true
  | n + 1 => match m.t.get n with
    | some o => cond o.live (stay m n) false
    | none => false
theorem stay_spec {m : Mem} : ∀ {n}, stay m n = true → ∀ j, j < n → ∃ o, m.t.get j = some o ∧ o.live = true
  | 0, _, j, hj => absurd hj (Nat.not_lt_zero _)
  | n + 1, h, j, hj => by
    unfold stay at h
    split at h
    · rename_i o ho
      cases hl : o.live with
      | false => rw [hl] at h; cases h
      | true =>
        rw [hl] at h
        rcases Nat.lt_or_ge j n with h1 | h1
        · exact stay_spec h j h1
        · obtain rfl : j = n := by omega
          exact ⟨o, ho, hl⟩
    · cases h
def outS (n : Nat) (l : List (Value × Mem)) (ids : List Nat) : List (Value × Bool × List (Option (TypeId × List Value))) := l.map fun r => (r.1, stay r.2 n, ids.map (pick1 r.2))
structure Left (B : Pls) (w w' : World) : Prop where
  os : w'.os = w.os
  tape : w'.tape = w.tape
  output : w'.output = w.output
  size : w.heap.size ≤ w'.heap.size
  block : ∀ b, b < w.heap.size → (∀ q ∈ B, q.1 ≠ b) → w'.heap[b]? = w.heap[b]?
def Lies (σ : Sg) (w : World) (i : Nat) (e : TypeId) (l : List Value) : Prop := ∃ x l', σ i = some x ∧ At w x.b x.sh e l' ∧ VRL σ l l'
structure Ran (B : Pls) (ids : List Nat) (picks : List (Option (TypeId × List Value))) (v : Value) (w : World) (v' : Value) (σ : Sg) (w' : World) : Prop where
  sg : SgB σ B
  val : VR σ v v'
  left : Left B w w'
  lies : ∀ (k i : Nat) e l, ids[k]? = some i → picks[k]? = some (some (e, l)) → Lies σ w' i e l
  fresh : ∀ (k i : Nat) e l x, ids[k]? = some i → picks[k]? = some (some (e, l)) → B.length ≤ i → σ i = some x → w.heap.size ≤ x.b
  inj : ∀ (k i k' i' : Nat) e l e' l' x y, ids[k]? = some i → picks[k]? = some (some (e, l)) → ids[k']? = some i' → picks[k']? = some (some (e', l')) → σ i = some x → σ i' = some y → x.b = y.b → i = i'
theorem pick1_spec {m : Mem} {i : Nat} {e : TypeId} {l : List Value} (h : pick1 m i = some (e, l)) : ∃ cells n, m.t.get i = some (.row cells n e) ∧ cells.getL n 0 = some l := by
  unfold pick1 at h
  split at h
  · rename_i cells n e' hg
    split at h
    · rename_i l' hl
      cases h
      exact ⟨cells, n, hg, hl⟩
    · cases h
  · cases h
theorem run_sym {P : Program} (hP : P.follows .mixedOrders = true) {E : Env} (hE : EOK E P) {Tw : World → Prop} (hET : ∀ w0, E.Tw w0 ↔ ∀ w', Below w0.heap.size w0 w' → Tw w') {n0 : Nat} {S : Sums} (hS : ∀ w0, (∀ w', Below w0.heap.size w0 w' → Tw w') → SOK E P w0 S) {fuel d : Nat} {f : FuncId} {args : List Value} {A : List (TypeId × List Value)} {ids : List Nat} {v : Value} {picks : List (Option (TypeId × List Value))}
    (hrun : outS A.length (evCall E S fuel d (.fn f) args (memA A)) ids = [(v, true, picks)]) {B : Pls} {w : World} (hT : ∀ w', Below (bare n0 w).heap.size (bare n0 w) w' → Tw w') (hlow : ∀ q ∈ B, n0 ≤ q.1) (hI : InitOK E w A B) {args' : Array Value} (hargs : ∀ σ, SgB σ B → VRL σ args args'.toList) :
    Calls P f args' w fun e w' => ∃ v' σ, e = .returned v' ∧ Ran B ids picks v w v' σ w' := by
  obtain ⟨σ, hB, hM⟩ := init ((hET _).2 hT) hlow hI
  obtain ⟨r, hev⟩ : ∃ r, evCall E S fuel d (.fn f) args (memA A) = [r] := by
    generalize evCall E S fuel d (.fn f) args (memA A) = L at hrun
    match L, hrun with
    | [r], _ => exact ⟨r, rfl⟩
    | [], h => simp [outS] at h
    | a :: b :: c, h => simp [outS] at h
  rw [hev] at hrun
  simp only [outS, List.map_cons, List.map_nil, List.cons.injEq, and_true, Prod.mk.injEq] at hrun
  obtain ⟨rfl, hst, rfl⟩ := hrun
  have hne : evCall E S fuel d (.fn f) args (memA A) ≠ [] := by rw [hev]; simp
  refine ((evCall_ok hE hP (hS _ hT) fuel d).fn f args (memA A) hne σ w args' (hargs σ hB) hM).mono ?_
  rintro e w' ⟨r', hr', σ', v', rfl, hf, hv, hm⟩
  rw [hev] at hr'
  obtain rfl : r' = r := by simpa using hr'
  have hpk : ∀ (k i : Nat) e l, ids[k]? = some i → (ids.map (pick1 r'.2))[k]? = some (some (e, l)) → pick1 r'.2 i = some (e, l) := fun k i e l hk hp => by
    rw [List.getElem?_map, hk] at hp
    exact Option.some.inj hp
  have hsg : SgB σ' B := fun i q hq => by
    obtain ⟨x, hx, h1, h2⟩ := hB i q hq
    exact ⟨x, hf.ext i x hx, h1, h2⟩
  have hlive : ∀ b, LiveB σ (memA A) b → ∃ q ∈ B, q.1 = b := fun b hl => by
    obtain ⟨i, o, x, hg, _, hx, rfl⟩ := hl
    have hi : i < A.length := by
      rw [memA_get] at hg
      cases hA : A[i]? with
      | none => rw [hA] at hg; cases hg
      | some p => exact (List.getElem?_eq_some_iff.1 hA).1
    obtain ⟨q, hq⟩ : ∃ q, B[i]? = some q := ⟨B[i]'(by rw [← hI.len]; exact hi), List.getElem?_eq_getElem _⟩
    obtain ⟨y, hy, h1, _⟩ := hB i q hq
    rw [hx] at hy
    cases hy
    exact ⟨q, List.mem_of_getElem? hq, h1.symm⟩
  refine ⟨v', σ', rfl, hsg, hv, ⟨hm.below.os.trans hM.below.os.symm, hm.below.tape.trans hM.below.tape.symm, hm.below.output.trans hM.below.output.symm, hf.size, fun b hb hn => hf.frame b hb (fun hl => ?_)⟩, fun k i e l hk hp => ?_, fun k i e l x hk hp hi hx => ?_, fun k i k' i' e l e' l' x y hk hp hk' hp' hx hy hxy => ?_⟩
  · obtain ⟨q, hq, rfl⟩ := hlive b hl
    exact hn q hq rfl
  · obtain ⟨cells, n, hg, hl⟩ := pick1_spec (hpk k i e l hk hp)
    obtain ⟨x, ob, hx, _, hob, hor⟩ := hm.obj i _ hg rfl
    obtain ⟨C, fz, _, hC, hnf, hsz, hn, _, hc⟩ := hm.row hg hx
    obtain ⟨h1, h2⟩ := T.getL_spec hl
    refine ⟨x, (C.toList.drop x.sh).take n, hx, ⟨C, fz, hC, hnf, ?_, fun j hj => ?_⟩, ?_⟩
    · simp; omega
    · simp at hj
      rw [List.getElem?_take, if_pos (by omega), List.getElem?_drop]
      simp
    · refine VRL.of_getElem? (by rw [h1]; simp; omega) (fun j u u' hu hu' => ?_)
      have hj : j < n := by have := (List.getElem?_eq_some_iff.1 hu).1; omega
      obtain ⟨a, a', ha, ha', hr⟩ := hc j hj
      have := h2 j hj
      rw [Nat.zero_add] at this
      rw [this, hu] at ha
      rw [List.getElem?_take, if_pos hj, List.getElem?_drop] at hu'
      rw [← Array.getElem?_toList] at ha'
      rw [ha'] at hu'
      cases ha; cases hu'
      exact hr
  · obtain ⟨cells, n, hg, hl⟩ := pick1_spec (hpk k i e l hk hp)
    rcases hf.grow x.b ⟨i, _, x, hg, rfl, hx, rfl⟩ with h | h
    · obtain ⟨j, o, y, hgj, hlv, hy, hyb⟩ := h
      have hj : j < A.length := by
        rw [memA_get] at hgj
        cases hA : A[j]? with
        | none => rw [hA] at hgj; cases hgj
        | some p => exact (List.getElem?_eq_some_iff.1 hA).1
      exfalso
      obtain ⟨o', hg', hl'⟩ := stay_spec hst j hj
      have := hm.inj i j _ _ x y hg rfl hg' hl' hx (hf.ext j y hy) hyb.symm
      subst this
      rw [hI.len] at hj; omega
    · exact h
  · obtain ⟨cells, n, hg, hl⟩ := pick1_spec (hpk k i e l hk hp)
    obtain ⟨cells', n', hg', hl'⟩ := pick1_spec (hpk k' i' e' l' hk' hp')
    exact hm.inj i i' _ _ x y hg rfl hg' rfl hx hy hxy
end
end Go.AS
set_option linter.unusedSectionVars false
namespace Go.AS
open Go.RowKit
noncomputable section
def mapA (f : Value → Value) (c : Array Value) : Array Value := (c.toList.map f).toArray
theorem mapA_eq (f : Value → Value) (c : Array Value) : mapA f c = c.map f := by unfold mapA; apply Array.ext'; simp
def img (D : Nat → Value) (τ : Nat → Nat × Nat) : Nat → Value → Value
  | 0, v => v
  | n + 1, v => match v with
    | .complex .f32 30 i => D i
    | .pointer (some ⟨i, o, none⟩) => .pointer (some ⟨(τ i).1, (τ i).2 + o, none⟩)
    | .func fn f c => .func fn (mapA (img D τ n) f) (mapA (img D τ n) c)
    | .agg c => .agg (mapA (img D τ n) c)
    | .tuple c => .tuple (mapA (img D τ n) c)
    | .iface t v => .iface t (img D τ n v)
    | v => v
def okI : Nat → Value → Bool
  | 0, _ => false
  | n + 1, v => match v with
    | .complex .f32 30 _ => true
    | .pointer (some ⟨_, _, none⟩) => true
    | .func _ f c => f.toList.all (okI n) && c.toList.all (okI n)
    | .agg c => c.toList.all (okI n)
    | .tuple c => c.toList.all (okI n)
    | .iface _ v => okI n v
    | v => simple v
def posOfSg (σ : Sg) (i : Nat) : Nat × Nat := match σ i with | some x => (x.b, x.sh) | none => (0, 0)
section
variable [Rho]
theorem arr_img {σ : Sg} {n : Nat} (ih : ∀ v v', VR σ v v' → okI n v = true → v' = img Rho.D (posOfSg σ) n v) {c c' : Array Value} (hc : c.size = c'.size) (hc' : ∀ i, i < c.size → VR σ (c.getD i und) (c'.getD i und)) (ho : c.toList.all (okI n) = true) : c' = mapA (img Rho.D (posOfSg σ) n) c := by
  rw [mapA_eq]
  apply Array.ext
  · simp [hc]
  · intro i h1 h2
    have hi : i < c.size := by rw [hc]; exact h1
    have := hc' i hi
    simp only [Array.getD, hi, h1, dif_pos] at this
    have hm := List.all_eq_true.1 ho c[i] (by simp)
    rw [Array.getElem_map]
    exact ih _ _ this hm
theorem img_of : ∀ (n : Nat) {σ : Sg} (v v' : Value), VR σ v v' → okI n v = true → v' = img Rho.D (posOfSg σ) n v := by
  intro n
  induction n with
  | zero => intro σ v v' _ h; cases h
  | succ n ih =>
    intro σ v v' h ho
    cases h with
    | sym h => rfl
    | any v' => simp [okI, simple, bad] at ho
    | topB b => simp [okI, simple, AS.topB] at ho
    | topI k m => simp [okI, simple, AS.topI] at ho
    | topS a m c => simp [okI, simple, AS.topS] at ho
    | topStr s => simp [okI, simple, AS.topStr] at ho
    | topE a c => simp [okI, simple, AS.topE] at ho
    | yld h => simp [okI, simple, AS.yld] at ho
    | refl hs => cases v <;> first
        | rfl
        | (simp [simple] at hs; done)
        | (rename_i a; cases a with
           | none => rfl
           | some a => simp [simple] at hs)
        | (rename_i a _ _; cases a with
           | none => rfl
           | some a => simp [simple] at hs)
    | ptr h => simp only [img, posOfSg, h]
    | slice h _ _ => simp [okI, simple] at ho
    | map h => simp [okI, simple] at ho
    | func hf hf' hc hc' =>
      simp only [okI, Bool.and_eq_true] at ho
      simp only [img]
      rw [arr_img (fun v v' => ih v v') hf hf' ho.1, arr_img (fun v v' => ih v v') hc hc' ho.2]
    | agg hc hc' =>
      simp only [okI] at ho
      simp only [img]
      rw [arr_img (fun v v' => ih v v') hc hc' ho]
    | tuple hc hc' =>
      simp only [okI] at ho
      simp only [img]
      rw [arr_img (fun v v' => ih v v') hc hc' ho]
    | iface h =>
      simp only [okI] at ho
      simp only [img]
      rw [ih _ _ h ho]
end
def within (n k : Nat) : Nat → Value → Bool
  | 0, _ => false
  | d + 1, v => match v with
    | .complex .f32 30 i => Nat.blt i n
    | .pointer (some ⟨i, _, none⟩) => Nat.blt i k
    | .func _ f c => f.toList.all (within n k d) && c.toList.all (within n k d)
    | .agg c => c.toList.all (within n k d)
    | .tuple c => c.toList.all (within n k d)
    | .iface _ v => within n k d v
    | v => simple v
section
variable [Rho]
theorem arr_vr {σ : Sg} {n k d : Nat} {τ : Nat → Nat × Nat} (ih : ∀ v, within n k d v = true → VR σ v (img Rho.D τ d v)) {c : Array Value} (h : c.toList.all (within n k d) = true) : c.size = (mapA (img Rho.D τ d) c).size ∧ ∀ i, i < c.size → VR σ (c.getD i und) ((mapA (img Rho.D τ d) c).getD i und) := by
  rw [mapA_eq]
  refine ⟨by simp, fun i hi => ?_⟩
  have hm := List.all_eq_true.1 h c[i] (by simp)
  have := ih _ hm
  simpa [Array.getD, hi] using this
theorem img_vr {σ : Sg} {n k : Nat} {τ : Nat → Nat × Nat} (hD : ∀ i, i < n → (Rho.D i).oneCell' = true) (hτ : ∀ i, i < k → ∃ x, σ i = some x ∧ x.b = (τ i).1 ∧ x.sh = (τ i).2) : ∀ (d : Nat) (v : Value), within n k d v = true → VR σ v (img Rho.D τ d v) := by
  intro d
  induction d with
  | zero => intro v h; cases h
  | succ d ih =>
    intro v h
    unfold within at h
    split at h
    · rename_i i
      exact .sym (hD i (by simpa [Nat.blt_eq] using h))
    · rename_i i o
      obtain ⟨x, hx, h1, h2⟩ := hτ i (by simpa [Nat.blt_eq] using h)
      have := VR.ptr (o := o) hx
      rw [h1, h2] at this
      exact this
    · rename_i fn f c
      simp only [Bool.and_eq_true] at h
      obtain ⟨a1, a2⟩ := arr_vr ih h.1
      obtain ⟨b1, b2⟩ := arr_vr ih h.2
      exact .func a1 a2 b1 b2
    · rename_i c
      obtain ⟨a1, a2⟩ := arr_vr ih h
      exact .agg a1 a2
    · rename_i c
      obtain ⟨a1, a2⟩ := arr_vr ih h
      exact .tuple a1 a2
    · rename_i t u
      exact .iface (ih u h)
    · rename_i h1 h2 h3 h4 h5 h6
      have : img Rho.D τ (d + 1) v = v := by
        unfold img
        split <;> first | rfl | (rename_i e; first | exact absurd rfl (h1 _) | exact absurd rfl (h2 _ _) | exact absurd rfl (h3 _ _ _) | exact absurd rfl (h4 _) | exact absurd rfl (h5 _) | exact absurd rfl (h6 _ _)) | exact absurd rfl (h1 _) | exact absurd rfl (h2 _ _) | exact absurd rfl (h3 _ _ _) | exact absurd rfl (h4 _) | exact absurd rfl (h5 _) | exact absurd rfl (h6 _ _)
      rw [this]
      exact .refl h
end
def fillL {α : Type} (f : Nat → Option α) : List Nat → T α → T α
  | [], t => t
  | i :: l, t => match f i with
    | some x => fillL f l (t.set i x)
    | none => fillL f l t
theorem fillL_inv {α : Type} (f : Nat → Option α) : ∀ (l : List Nat) (t : T α), (∀ j x, t.get j = some x → f j = some x) → ∀ j x, (fillL f l t).get j = some x → f j = some x := by
  intro l
  induction l with
  | nil => intro t h j x hj; exact h j x hj
  | cons i l ih =>
    intro t h j x hj
    simp only [fillL] at hj
    split at hj
    · rename_i y hy
      refine ih (t.set i y) (fun k z hk => ?_) j x hj
      rw [T.get_set] at hk
      split at hk
      · rename_i e; subst e; cases hk; exact hy
      · exact h k z hk
    · exact ih t h j x hj
def mkEnvS (P : Program) (fs ts : List Nat) (rs : List Rule) (Tw : World → Prop := fun _ => True) : Env := ⟨P, fillL (mkTI P) ts .nil, fillL (mkFn P) fs .nil, fillL (mkExt P) fs .nil, rs, fun w0 => ∀ w', Below w0.heap.size w0 w' → Tw w'⟩
theorem types_of [Rho] (P : Program) {t : Nat} {ti : TI} (h1 : mkTI P t = some ti) : P.underlying t = some ti.desc ∧ ∃ i z, P.info? t = some i ∧ i.size = ti.size ∧ i.bytes = ti.bytes ∧ i.zero = some z ∧ z.cells.toList = ti.zero ∧ ti.zero.length = ti.size ∧ (∀ v ∈ ti.zero, simple v = true) ∧ (agg? ti.desc = false → ti.zero = [z]) ∧ (agg? ti.desc = true → z = .agg ti.zero.toArray) := by
  unfold mkTI at h1
  split at h1
  · rename_i i d hi hd
    split at h1
    · rename_i z hz
      split at h1
      · rename_i a1 a2 a3
        cases h1
        have e1 := Nat.eq_of_beq_eq_true a1
        refine ⟨hd, i, z, hi, rfl, rfl, hz, rfl, e1, allSimple_spec a2, fun hg => ?_, fun hg => ?_⟩
        · simp only at hg
          cases z with
          | agg vs => simp only at a3; rw [a3] at hg; cases hg
          | _ => simp only [Value.cells]
        · simp only at hg
          cases z with
          | agg vs => simp [Value.cells]
          | _ => simp only at a3; rw [hg] at a3; cases a3
      · cases h1
    · cases h1
  · cases h1
theorem mkEnvS_ok [Rho] {P : Program} {fs ts : List Nat} {rs : List Rule} {Tw : World → Prop} (hr : ∀ r ∈ rs, RuleOK P Tw r) : EOK (mkEnvS P fs ts rs Tw) P where
  prog := rfl
  types := fun t ti h => types_of P (fillL_inv (mkTI P) _ _ (fun j x hj => by rw [T.get_nil] at hj; cases hj) t ti h)
  funcs := fun f fn h => by
    have h1 : mkFn P f = some fn := fillL_inv (mkFn P) _ _ (fun j x hj => by rw [T.get_nil] at hj; cases hj) f fn h
    unfold mkFn at h1
    split at h1
    · rename_i fn' hf
      split at h1
      · rename_i c hc hn
        cases h1
        exact ⟨hf, hn, c, hc⟩
      · cases h1
    · cases h1
  exts := fun f x h => by
    have h1 : mkExt P f = some x := fillL_inv (mkExt P) _ _ (fun j y hj => by rw [T.get_nil] at hj; cases hj) f x h
    unfold mkExt at h1
    split at h1
    · rename_i fn hf
      split at h1
      · rename_i hb hx hn
        exact ⟨fn, hf, hn, hb, by simpa using hx, extNamed_find h1⟩
      · cases h1
    · cases h1
  rules := fun r hm o hk σ ρ' hv w0 w hT hb => hr r hm o hk σ ρ' hv w (hT w hb)
abbrev DP : Nat := 5
abbrev im (D : Nat → Value) (τ : Nat → Nat × Nat) (v : Value) : Value := img D τ DP v
abbrev Shp := List (TypeId × List Value)
structure Stands (w : World) (D : Nat → Value) (A : Shp) (τ : Nat → Nat × Nat) : Prop where
  at_ : ∀ (i : Nat) p, A[i]? = some p → At w (τ i).1 (τ i).2 p.1 (p.2.map (im D τ))
  dist : ∀ i j, i < A.length → j < A.length → (τ i).1 = (τ j).1 → i = j
  low : ∀ i, i < A.length → 1 ≤ (τ i).1
theorem Stands.lt {w : World} {D : Nat → Value} {A : Shp} {τ : Nat → Nat × Nat} (h : Stands w D A τ) {i : Nat} (hi : i < A.length) : (τ i).1 < w.heap.size :=
  (h.at_ i _ (List.getElem?_eq_getElem hi)).lt
theorem Stands.keep {w w' : World} {D : Nat → Value} {A : Shp} {τ : Nat → Nat × Nat} (h : Stands w D A τ) (hk : ∀ i, i < A.length → w'.heap[(τ i).1]? = w.heap[(τ i).1]?) : Stands w' D A τ :=
  ⟨fun i p hp => (h.at_ i p hp).keep (hk i (List.getElem?_eq_some_iff.1 hp).1), h.dist, h.low⟩
theorem Stands.below {w w' : World} {D : Nat → Value} {A : Shp} {τ : Nat → Nat × Nat} (h : Stands w D A τ) (hb : Below w.heap.size w w') : Stands w' D A τ :=
  h.keep fun _ hi => hb.block _ (h.lt hi)
def shpOK (n : Nat) (A : Shp) : Bool := A.all fun p => p.2.all (within n A.length DP)
structure After' (A : Shp) (τ : Nat → Nat × Nat) (D : Nat → Value) (ids : List Nat) (picks : List (Option (TypeId × List Value))) (w : World) (τ' : Nat → Nat × Nat) (w' : World) : Prop where
  old : ∀ i, i < A.length → τ' i = τ i
  left : w'.os = w.os ∧ w'.tape = w.tape ∧ w'.output = w.output ∧ w.heap.size ≤ w'.heap.size
  block : ∀ b, b < w.heap.size → (∀ i, i < A.length → (τ i).1 ≠ b) → w'.heap[b]? = w.heap[b]?
  at_ : ∀ (k i : Nat) e l, ids[k]? = some i → picks[k]? = some (some (e, l)) → (l.all (okI DP)) = true → At w' (τ' i).1 (τ' i).2 e (l.map (im D τ'))
  fresh : ∀ (k i : Nat) e l, ids[k]? = some i → picks[k]? = some (some (e, l)) → A.length ≤ i → w.heap.size ≤ (τ' i).1
  inj : ∀ (k i k' i' : Nat) e l e' l', ids[k]? = some i → picks[k]? = some (some (e, l)) → ids[k']? = some i' → picks[k']? = some (some (e', l')) → (τ' i).1 = (τ' i').1 → i = i'
theorem runShapeS {P : Program} (hP : P.follows .mixedOrders = true) {fs ts : List Nat} {Tw : World → Prop} (D : Nat → Value) {n : Nat} (hD : ((List.range n).all fun i => (D i).oneCell') = true) {rules : List Rule} (hr : letI : Rho := ⟨D⟩; ∀ r ∈ rules, RuleOK P Tw r) {n0 : Nat} {S : Sums} (hSO : letI : Rho := ⟨D⟩; ∀ w0, (∀ w', Below w0.heap.size w0 w' → Tw w') → SOK (mkEnvS P fs ts rules Tw) P w0 S) {fuel d : Nat} {f : FuncId} {args : List Value} {A : Shp} {ids : List Nat} {v : Value} {picks : List (Option (TypeId × List Value))}
    (hA : shpOK n A = true) (hargsOK : (args.all (within n A.length DP)) = true) (htys : (A.all fun p => ((mkEnvS P fs ts rules Tw).types.get p.1).isSome) = true) (hv : okI DP v = true)
    (hrun : outS A.length (evCall (mkEnvS P fs ts rules Tw) S fuel d (.fn f) args (memA A)) ids = [(v, true, picks)]) {w : World} {τ : Nat → Nat × Nat} (hT : ∀ w', Below (bare n0 w).heap.size (bare n0 w) w' → Tw w') (hlow : ∀ i, i < A.length → n0 ≤ (τ i).1) (hS : Stands w D A τ) :
    Calls P f (args.map (im D τ)).toArray w fun e w' => ∃ τ', e = .returned (im D τ' v) ∧ After' A τ D ids picks w τ' w' := by
  letI : Rho := ⟨D⟩
  have hDi : ∀ i, i < n → (Rho.D i).oneCell' = true := fun i hi => List.all_eq_true.1 hD i (List.mem_range.2 hi)
  let B : Pls := (List.range A.length).map fun i => ((τ i).1, (τ i).2, ((A[i]?.map (·.2)).getD []).map (im D τ))
  have hB : ∀ (i : Nat) q, B[i]? = some q → ∃ p, A[i]? = some p ∧ q = ((τ i).1, (τ i).2, p.2.map (im D τ)) := fun i q hq => by
    have hi : i < A.length := by
      have := (List.getElem?_eq_some_iff.1 hq).1
      simpa [B] using this
    refine ⟨A[i], List.getElem?_eq_getElem hi, ?_⟩
    simp only [B, List.getElem?_map, List.getElem?_range hi, Option.map_some, Option.some.injEq, List.getElem?_eq_getElem hi, Option.getD_some] at hq
    exact hq.symm
  have hBlen : B.length = A.length := by simp [B]
  have hsg : ∀ {σ : Sg}, SgB σ B → ∀ i, i < A.length → ∃ x, σ i = some x ∧ x.b = (τ i).1 ∧ x.sh = (τ i).2 := fun {σ} h i hi => by
    obtain ⟨q, hq⟩ : ∃ q, B[i]? = some q := ⟨B[i]'(by rw [hBlen]; exact hi), List.getElem?_eq_getElem _⟩
    obtain ⟨x, hx, h1, h2⟩ := h i q hq
    obtain ⟨p, _, rfl⟩ := hB i q hq
    exact ⟨x, hx, h1, h2⟩
  have hrel : ∀ {σ : Sg}, SgB σ B → ∀ l : List Value, l.all (within n A.length DP) = true → VRL σ l (l.map (im D τ)) := fun {σ} h l => by
    induction l with
    | nil => intro _; exact VRL.nil σ
    | cons a l ih =>
      intro hl
      simp only [List.all_cons, Bool.and_eq_true] at hl
      exact VRL.cons (img_vr hDi (hsg h) DP a hl.1) (ih hl.2)
  have hI : InitOK (mkEnvS P fs ts rules Tw) w A B :=
    { len := hBlen.symm
      types := htys
      at_ := fun i p q hp hq => by
        obtain ⟨p', hp', rfl⟩ := hB i q hq
        rw [hp] at hp'; cases hp'
        exact ⟨hS.at_ i p hp, by simp⟩
      dist := fun i j q r hq hr h => by
        have hi : i < A.length := by rw [← hBlen]; exact (List.getElem?_eq_some_iff.1 hq).1
        have hj : j < A.length := by rw [← hBlen]; exact (List.getElem?_eq_some_iff.1 hr).1
        obtain ⟨_, _, rfl⟩ := hB i q hq
        obtain ⟨_, _, rfl⟩ := hB j r hr
        exact hS.dist i j hi hj h
      rel := fun σ hσ i p q hp hq => by
        obtain ⟨p', hp', rfl⟩ := hB i q hq
        rw [hp] at hp'; cases hp'
        exact hrel hσ p.2 (List.all_eq_true.1 hA p (List.mem_of_getElem? hp)) }
  refine (run_sym hP (mkEnvS_ok hr) (fun _ => Iff.rfl) hSO hrun hT (fun q hq => by
    obtain ⟨i, hi⟩ := List.getElem?_of_mem hq
    have hlt : i < A.length := by rw [← hBlen]; exact (List.getElem?_eq_some_iff.1 hi).1
    obtain ⟨_, _, rfl⟩ := hB i q hi
    exact hlow i hlt) hI (args' := (args.map (im D τ)).toArray) (fun σ hσ => by simpa using hrel hσ args hargsOK)).mono ?_
  rintro e w' ⟨v', σ', rfl, hR⟩
  have hpos : ∀ i x, σ' i = some x → posOfSg σ' i = (x.b, x.sh) := fun i x hx => by unfold posOfSg; rw [hx]
  have himg : ∀ {l l' : List Value}, VRL σ' l l' → l.all (okI DP) = true → l' = l.map (im D (posOfSg σ')) := fun {l} => by
    induction l with
    | nil => intro l' h _; exact List.eq_nil_of_length_eq_zero h.1.symm
    | cons a l ih =>
      intro l' h ho
      simp only [List.all_cons, Bool.and_eq_true] at ho
      cases l' with
      | nil => exact absurd h.1 (by simp)
      | cons b l' =>
        rw [img_of DP a b h.head ho.1, ih h.tail ho.2]
        rfl
  refine ⟨posOfSg σ', by rw [img_of DP v v' hR.val hv]; rfl, ?_⟩
  refine ⟨fun i hi => ?_, ⟨hR.left.os, hR.left.tape, hR.left.output, hR.left.size⟩, fun b hb hn => hR.left.block b hb (fun q hq e => ?_), fun k i e l hk hpk ho => ?_, fun k i e l hk hpk hi => ?_, fun k i k' i' e l e' l' hk hpk hk' hpk' hxy => ?_⟩
  · obtain ⟨x, hx, h1, h2⟩ := hsg hR.sg i hi
    rw [hpos i x hx, h1, h2]
  · obtain ⟨i, hi⟩ := List.getElem?_of_mem hq
    have hlt : i < A.length := by rw [← hBlen]; exact (List.getElem?_eq_some_iff.1 hi).1
    obtain ⟨_, _, rfl⟩ := hB i q hi
    exact hn i hlt e
  · obtain ⟨x, l', hx, hat, hvr⟩ := hR.lies k i e l hk hpk
    rw [hpos i x hx, ← himg hvr ho]
    exact hat
  · obtain ⟨x, l', hx, hat, hvr⟩ := hR.lies k i e l hk hpk
    rw [hpos i x hx]
    exact hR.fresh k i e l x hk hpk (by rw [hBlen]; exact hi) hx
  · obtain ⟨x, _, hx, _, _⟩ := hR.lies k i e l hk hpk
    obtain ⟨y, _, hy, _, _⟩ := hR.lies k' i' e' l' hk' hpk'
    rw [hpos i x hx, hpos i' y hy] at hxy
    exact hR.inj k i k' i' e l e' l' x y hk hpk hk' hpk' hx hy hxy
theorem runShape {P : Program} (hP : P.follows .mixedOrders = true) {fs ts : List Nat} {Tw : World → Prop} (D : Nat → Value) {n : Nat} (hD : ((List.range n).all fun i => (D i).oneCell') = true) {rules : List Rule} (hr : letI : Rho := ⟨D⟩; ∀ r ∈ rules, RuleOK P Tw r) {n0 : Nat} {pl : PureL} (hp : letI : Rho := ⟨D⟩; ∀ p ∈ pl, PureOK P Tw p) {fuel d : Nat} {f : FuncId} {args : List Value} {A : Shp} {ids : List Nat} {v : Value} {picks : List (Option (TypeId × List Value))}
    (hA : shpOK n A = true) (hargsOK : (args.all (within n A.length DP)) = true) (htys : (A.all fun p => ((mkEnvS P fs ts rules Tw).types.get p.1).isSome) = true) (hv : okI DP v = true)
    (hrun : outS A.length (evCall (mkEnvS P fs ts rules Tw) (pureS pl) fuel d (.fn f) args (memA A)) ids = [(v, true, picks)]) {w : World} {τ : Nat → Nat × Nat} (hT : ∀ w', Below (bare n0 w).heap.size (bare n0 w) w' → Tw w') (hlow : ∀ i, i < A.length → n0 ≤ (τ i).1) (hS : Stands w D A τ) :
    Calls P f (args.map (im D τ)).toArray w fun e w' => ∃ τ', e = .returned (im D τ' v) ∧ After' A τ D ids picks w τ' w' :=
  letI : Rho := ⟨D⟩
  runShapeS hP D hD hr (fun _ hT0 => pureS_ok (fun _ _ _ h => hT0 _ h.below) hp) hA hargsOK htys hv hrun hT hlow hS
theorem After'.stands {A : Shp} {τ : Nat → Nat × Nat} {D D' : Nat → Value} {ids : List Nat} {pk A' : Shp} {w w' : World} {τ' : Nat → Nat × Nat} (h : After' A τ D ids (pk.map some) w τ' w')
    (hlow : ∀ i, i < A.length → 1 ≤ (τ i).1) (hsz : 1 ≤ w.heap.size) (hok : (pk.all fun p => p.2.all (okI DP)) = true) (hnd : ids.Nodup) (hlen : ids.length = pk.length) (hmap : pk.map (fun p => (p.1, p.2.map (im D τ'))) = A'.map (fun p => (p.1, p.2.map (im D' fun k => τ' (ids.getD k 0))))) :
    Stands w' D' A' (fun k => τ' (ids.getD k 0)) := by
  have hl : pk.length = A'.length := by have := congrArg List.length hmap; simpa using this
  have hid : ∀ k, k < A'.length → ∃ i e l, ids[k]? = some i ∧ ids.getD k 0 = i ∧ pk[k]? = some (e, l) ∧ (pk.map some)[k]? = some (some (e, l)) := fun k hk => by
    have h1 : k < ids.length := by omega
    have h2 : k < pk.length := by omega
    refine ⟨ids[k], pk[k].1, pk[k].2, List.getElem?_eq_getElem h1, by simp [List.getD, h1], List.getElem?_eq_getElem h2, ?_⟩
    rw [List.getElem?_map, List.getElem?_eq_getElem h2]
    rfl
  refine ⟨fun k p hp => ?_, fun k j hk hj hkj => ?_, fun k hk => ?_⟩
  · have hk := (List.getElem?_eq_some_iff.1 hp).1
    obtain ⟨i, e, l, h1, h2, h3, h4⟩ := hid k hk
    have hat := h.at_ k i e l h1 h4 (List.all_eq_true.1 hok _ (List.mem_of_getElem? h3))
    have hm : (pk.map (fun p => (p.1, p.2.map (im D τ'))))[k]? = (A'.map (fun p => (p.1, p.2.map (im D' fun k => τ' (ids.getD k 0)))))[k]? := by rw [hmap]
    rw [List.getElem?_map, List.getElem?_map, h3, hp] at hm
    simp only [Option.map_some, Option.some.injEq, Prod.mk.injEq] at hm
    show At w' (τ' (ids.getD k 0)).1 (τ' (ids.getD k 0)).2 p.1 _
    rw [h2, ← hm.1, ← hm.2]
    exact hat
  · obtain ⟨i, e, l, h1, h2, h3, h4⟩ := hid k hk
    obtain ⟨i', e', l', h1', h2', h3', h4'⟩ := hid j hj
    have hkj' : (τ' (ids.getD k 0)).1 = (τ' (ids.getD j 0)).1 := hkj
    rw [h2, h2'] at hkj'
    have := h.inj k i j i' e l e' l' h1 h4 h1' h4' hkj'
    subst this
    exact (List.getElem?_inj (by omega) hnd).1 (h1.trans h1'.symm)
  · obtain ⟨i, e, l, h1, h2, h3, h4⟩ := hid k hk
    show 1 ≤ (τ' (ids.getD k 0)).1
    rw [h2]
    rcases Nat.lt_or_ge i A.length with h5 | h5
    · rw [h.old i h5]; exact hlow i h5
    · exact Nat.le_trans hsz (h.fresh k i e l h1 h4 h5)
theorem allR_nil {P : Program} {Tw : World → Prop} [Rho] : ∀ r ∈ ([] : List Rule), RuleOK P Tw r := fun _ h => by cases h
theorem allR_cons {P : Program} {Tw : World → Prop} [Rho] {r : Rule} {l : List Rule} (h : RuleOK P Tw r) (hl : ∀ s ∈ l, RuleOK P Tw s) : ∀ s ∈ r :: l, RuleOK P Tw s := fun s hs => by
  rcases List.mem_cons.1 hs with rfl | hs
  · exact h
  · exact hl s hs
theorem allP_nil {P : Program} {Tw : World → Prop} [Rho] : ∀ r ∈ ([] : PureL), PureOK P Tw r := fun _ h => by cases h
theorem allP_cons {P : Program} {Tw : World → Prop} [Rho] {r : FuncId × List Value × Value} {l : PureL} (h : PureOK P Tw r) (hl : ∀ s ∈ l, PureOK P Tw s) : ∀ s ∈ r :: l, PureOK P Tw s := fun s hs => by
  rcases List.mem_cons.1 hs with rfl | hs
  · exact h
  · exact hl s hs
theorem wrap_i64s {n : Int} (h0 : -9223372036854775808 ≤ n) (h1 : n ≤ 9223372036854775807) : IntKind.i64.wrap n = n := by
  rw [IntKind.wrap_i64]; omega
def okB [Rho] : Value → Bool
  | .complex .f32 30 i => (Rho.D i).oneCell'
  | v => simple v
theorem okB_ok [Rho] {v : Value} (h : okB v = true) : okC v := by
  unfold okB at h
  unfold okC
  split
  · exact h
  · rename_i h2
    split at h
    · exact absurd rfl (h2 _)
    · exact h
theorem rint {P : Program} {Tw : World → Prop} [Rho] (op : BinOp) {t u : TypeId} {a b r v : Value} {j k : IntKind} {x y : Int} (h0 : (okB a && okB b && okB r) = true) (hca : conc a = .int j x) (hcb : conc b = .int k y) (hcr : conc r = v) (h : binop (mkEnvS P [] [] []) op t (.int j x) (.int k y) = some v) (hs : simple v = true) :
    RuleOK P Tw ⟨(bcode op, t, u), [a, b], r⟩ := by
  simp only [Bool.and_eq_true] at h0
  exact rule_bin (mkEnvS_ok (Tw := fun _ => True) allR_nil) (okB_ok h0.1.1) (okB_ok h0.1.2) (okB_ok h0.2) (by rw [hca]; rfl) (by rw [hcb]; rfl) (by rw [hca]; exact fun h => by cases h) (by rw [hca, hcb, hcr]; exact h) (by rw [hcr]; exact hs)
theorem rconv {P : Program} {Tw : World → Prop} [Rho] {s d : TypeId} {a r : Value} {j k : IntKind} {n n' : Int} (h0 : (okB a && okB r) = true) (hca : conc a = .int j n) (hcr : conc r = .int k n') (ht : (match mkTI P s, mkTI P d with | some _, some td => (match td.desc with | .int k' => sameKind k' k | _ => false) | _, _ => false) = true) (h : k.wrap n = n') :
    RuleOK P Tw ⟨(1, s, d), [a], r⟩ := by
  simp only [Bool.and_eq_true] at h0
  refine rule_conv (E := mkEnvS P [] [s, d] []) (mkEnvS_ok (Tw := fun _ => True) allR_nil) (fun _ _ _ => trivial) (okB_ok h0.1) (okB_ok h0.2) hca hcr ?_ h
  split at ht
  · rename_i ts td h1 h2
    split at ht
    · rename_i k' hd
      have := kcode_inj ht
      subst this
      have g : ∀ q, (mkEnvS P [] [s, d] []).types.get q = (fillL (mkTI P) [s, d] .nil).get q := fun _ => rfl
      refine ⟨ts, td, ?_, ?_, hd⟩
      · rw [g]; simp only [fillL, h1, h2, T.get_set]
        by_cases e : d = s
        · subst e; rw [if_pos rfl, ← h2, h1]
        · simp [e]
      · rw [g]; simp [fillL, h1, h2, T.get_set]
    · cases ht
  · cases ht
theorem img_any {D : Nat → Value} {n : Nat} {τ τ2 : Nat → Nat × Nat} : ∀ (d : Nat) (v : Value), within n 0 d v = true → img D τ d v = img D τ2 d v := by
  intro d
  induction d with
  | zero => intro v h; cases h
  | succ d ih =>
    have arr : ∀ c : Array Value, c.toList.all (within n 0 d) = true → mapA (img D τ d) c = mapA (img D τ2 d) c := fun c h => by
      unfold mapA
      rw [List.map_congr_left fun x hx => ih x (List.all_eq_true.1 h x hx)]
    intro v h
    unfold within at h
    split at h
    · rfl
    · simp at h
    · simp only [Bool.and_eq_true] at h
      simp only [img, arr _ h.1, arr _ h.2]
    · simp only [img, arr _ h]
    · simp only [img, arr _ h]
    · simp only [img, ih _ h]
    · rename_i h1 h2 h3 h4 h5 h6
      unfold img
      split <;> first | rfl | exact absurd rfl (h1 _) | exact absurd rfl (h2 _ _) | exact absurd rfl (h3 _ _ _) | exact absurd rfl (h4 _) | exact absurd rfl (h5 _) | exact absurd rfl (h6 _ _)
theorem okI_of : ∀ (d : Nat) {n k : Nat} (v : Value), within n k d v = true → okI d v = true := by
  intro d
  induction d with
  | zero => intro n k v h; cases h
  | succ d ih =>
    have arr : ∀ {n k : Nat} (c : Array Value), c.toList.all (within n k d) = true → c.toList.all (okI d) = true := fun {n k} c h => List.all_eq_true.2 fun x hx => ih x (List.all_eq_true.1 h x hx)
    intro n k v h
    unfold within at h
    split at h
    · rfl
    · rfl
    · simp only [Bool.and_eq_true] at h
      simp only [okI, arr _ h.1, arr _ h.2, Bool.and_self]
    · simp only [okI, arr _ h]
    · simp only [okI, arr _ h]
    · simp only [okI, ih _ h]
    · rename_i h1 h2 h3 h4 h5 h6
      unfold okI
      split <;> first | rfl | exact h | exact absurd rfl (h1 _) | exact absurd rfl (h2 _ _) | exact absurd rfl (h3 _ _ _) | exact absurd rfl (h4 _) | exact absurd rfl (h5 _) | exact absurd rfl (h6 _ _)
theorem img_list [Rho] {σ : Sg} {d : Nat} : ∀ {l l' : List Value}, VRL σ l l' → l.all (okI d) = true → l' = l.map (img Rho.D (posOfSg σ) d)
  | [], l', h, _ => List.eq_nil_of_length_eq_zero h.1.symm
  | a :: l, [], h, _ => absurd h.1 (by simp)
  | a :: l, b :: l', h, ho => by
    simp only [List.all_cons, Bool.and_eq_true] at ho
    rw [img_of d a b h.head ho.1, img_list h.tail ho.2]
    rfl
abbrev noTau : Nat → Nat × Nat := fun _ => (0, 0)
theorem pimg {P : Program} {Tw : World → Prop} {D : Nat → Value} {n : Nat} (hD : ((List.range n).all fun i => (D i).oneCell') = true) {f : FuncId} {as : List Value} {v : Value} (h0 : (as.all (within n 0 DP) && within n 0 DP v) = true) {args : Array Value} {r : Value} (ha : (as.map (im D noTau)).toArray = args) (hr : im D noTau v = r)
    (h : ∀ w, Tw w → Calls P f args w fun e w' => e = .returned r ∧ Below w.heap.size w w') : letI : Rho := ⟨D⟩; PureOK P Tw (f, as, v) := by
  letI : Rho := ⟨D⟩
  simp only [Bool.and_eq_true] at h0
  intro σ args' hl w hT
  have e1 := img_list (d := DP) hl (List.all_eq_true.2 fun x hx => okI_of DP x (List.all_eq_true.1 h0.1 x hx))
  have e2 : as.map (img Rho.D (posOfSg σ) DP) = as.map (im D noTau) := List.map_congr_left fun x hx => img_any (n := n) DP x (List.all_eq_true.1 h0.1 x hx)
  have e3 : args' = args := by rw [← ha]; exact Array.ext' (by rw [e1]; simpa using e2)
  rw [e3]
  refine (h w hT).mono ?_
  rintro e w' ⟨rfl, hb⟩
  refine ⟨r, rfl, ?_, hb⟩
  rw [← hr]
  exact img_vr (n := n) (k := 0) (fun i hi => List.all_eq_true.1 hD i (List.mem_range.2 hi)) (fun i hi => absurd hi (Nat.not_lt_zero _)) DP v h0.2
def dl (L : List Value) : Nat → Value := fun i => L.getD i .nilIface
theorem img_ext {D D2 : Nat → Value} {n k : Nat} {τ : Nat → Nat × Nat} (h : ∀ i, i < n → D i = D2 i) : ∀ (d : Nat) (v : Value), within n k d v = true → img D τ d v = img D2 τ d v := by
  intro d
  induction d with
  | zero => intro v h; cases h
  | succ d ih =>
    have arr : ∀ c : Array Value, c.toList.all (within n k d) = true → mapA (img D τ d) c = mapA (img D2 τ d) c := fun c h => by
      unfold mapA
      rw [List.map_congr_left fun x hx => ih x (List.all_eq_true.1 h x hx)]
    intro v hv
    unfold within at hv
    split at hv
    · rename_i i
      exact h i (by simpa [Nat.blt_eq] using hv)
    · rfl
    · simp only [Bool.and_eq_true] at hv
      simp only [img, arr _ hv.1, arr _ hv.2]
    · simp only [img, arr _ hv]
    · simp only [img, arr _ hv]
    · simp only [img, ih _ hv]
    · rename_i h1 h2 h3 h4 h5 h6
      unfold img
      split <;> first | rfl | exact absurd rfl (h1 _) | exact absurd rfl (h2 _ _) | exact absurd rfl (h3 _ _ _) | exact absurd rfl (h4 _) | exact absurd rfl (h5 _) | exact absurd rfl (h6 _ _)
theorem Stands.more {w : World} {L : List Value} {A : Shp} {τ : Nat → Nat × Nat} (h : Stands w (dl L) A τ) (hA : shpOK L.length A = true) (X : List Value) : Stands w (dl (L ++ X)) A τ := by
  refine ⟨fun i p hp => ?_, h.dist, h.low⟩
  have he : p.2.map (im (dl (L ++ X)) τ) = p.2.map (im (dl L) τ) := List.map_congr_left fun x hx =>
    (img_ext (n := L.length) (k := A.length) (fun i hi => by simp only [dl, List.getD]; rw [List.getElem?_append_left hi]) DP x (List.all_eq_true.1 (List.all_eq_true.1 hA p (List.mem_of_getElem? hp)) x hx)).symm
  rw [he]
  exact h.at_ i p hp
structure Moved (A : Shp) (τ : Nat → Nat × Nat) (w : World) (A' : Shp) (τ' : Nat → Nat × Nat) (w' : World) : Prop where
  os : w'.os = w.os
  tape : w'.tape = w.tape
  output : w'.output = w.output
  size : w.heap.size ≤ w'.heap.size
  block : ∀ b, b < w.heap.size → (∀ i, i < A.length → (τ i).1 ≠ b) → w'.heap[b]? = w.heap[b]?
  new : ∀ i, i < A'.length → (∃ j, j < A.length ∧ (τ' i).1 = (τ j).1) ∨ w.heap.size ≤ (τ' i).1
theorem After'.moved {A : Shp} {τ : Nat → Nat × Nat} {D : Nat → Value} {ids : List Nat} {pk A' : Shp} {w w' : World} {τ' : Nat → Nat × Nat} (h : After' A τ D ids (pk.map some) w τ' w') (hl1 : ids.length = pk.length) (hl2 : A'.length = pk.length) :
    Moved A τ w A' (fun k => τ' (ids.getD k 0)) w' := by
  refine ⟨h.left.1, h.left.2.1, h.left.2.2.1, h.left.2.2.2, h.block, fun k hk => ?_⟩
  have h1 : k < ids.length := by omega
  have h2 : k < pk.length := by omega
  have e : ids.getD k 0 = ids[k] := by simp [List.getD, h1]
  rw [e]
  rcases Nat.lt_or_ge ids[k] A.length with h3 | h3
  · exact .inl ⟨ids[k], h3, by rw [h.old _ h3]⟩
  · refine .inr (h.fresh k ids[k] pk[k].1 pk[k].2 (List.getElem?_eq_getElem h1) ?_ h3)
    rw [List.getElem?_map, List.getElem?_eq_getElem h2]; rfl
theorem bin_or [Rho] {E : Env} {t : TypeId} {k : IntKind} {a b r : Int} (h : bits .or k a b = r) : binop E .or t (.int k a) (.int k b) = some (.int k r) := by subst h; cases k <;> rfl
theorem bin_and [Rho] {E : Env} {t : TypeId} {k : IntKind} {a b r : Int} (h : bits .and k a b = r) : binop E .and t (.int k a) (.int k b) = some (.int k r) := by subst h; cases k <;> rfl
theorem bin_xor [Rho] {E : Env} {t : TypeId} {k : IntKind} {a b r : Int} (h : bits .xor k a b = r) : binop E .xor t (.int k a) (.int k b) = some (.int k r) := by subst h; cases k <;> rfl
theorem bin_andNot [Rho] {E : Env} {t : TypeId} {k : IntKind} {a b r : Int} (h : bits .andNot k a b = r) : binop E .andNot t (.int k a) (.int k b) = some (.int k r) := by subst h; cases k <;> rfl
theorem rneg {P : Program} {Tw : World → Prop} [Rho] {t u : TypeId} {a r : Value} {k : IntKind} {n n' : Int} (h0 : (okB a && okB r) = true) (hca : conc a = .int k n) (hcr : conc r = .int k n') (h : k.wrap (0 - n) = n') :
    RuleOK P Tw ⟨(30, t, u), [a], r⟩ := by
  simp only [Bool.and_eq_true] at h0
  intro o hk σ ρ' hv w _
  obtain ⟨x, ho⟩ := key_un (op := .neg) hk
  have hc := hv.conc (by intro z hz; simp at hz; subst hz; exact okB_ok h0.1)
  rw [ho] at hc
  simp only [Op.operands, List.map_cons, List.map_nil, List.cons.injEq, and_true] at hc
  refine ⟨conc r, ?_, VR.of_conc (okB_ok h0.2)⟩
  have e : execOp ρ' o = (do pure (.value (← Op.unary .neg (ρ' x)))) := by simp [execOp, ho]
  rw [e, show ρ' x = .int k n from hc.trans hca, hcr, ← h]
  rfl
theorem stands_nil (w : World) (D : Nat → Value) : Stands w D [] noTau := ⟨fun i p h => by simp at h, fun i j h => absurd h (Nat.not_lt_zero _), fun i h => absurd h (Nat.not_lt_zero _)⟩
theorem runPure {P : Program} (hP : P.follows .mixedOrders = true) {fs ts : List Nat} {Tw : World → Prop} (D : Nat → Value) {n : Nat} (hD : ((List.range n).all fun i => (D i).oneCell') = true) {rules : List Rule} (hr : letI : Rho := ⟨D⟩; ∀ r ∈ rules, RuleOK P Tw r) {pl : PureL} (hp : letI : Rho := ⟨D⟩; ∀ p ∈ pl, PureOK P Tw p) {fuel d : Nat} {f : FuncId} {args : List Value} {v : Value}
    (hargsOK : (args.all (within n 0 DP)) = true) (hv : within n 0 DP v = true)
    (hrun : outS 0 (evCall (mkEnvS P fs ts rules Tw) (pureS pl) fuel d (.fn f) args (memA [])) [] = [(v, true, [])]) {args' : Array Value} {r : Value} (ha : (args.map (im D noTau)).toArray = args') (hr' : im D noTau v = r) (w : World) (hT : ∀ w', Below w.heap.size w w' → Tw w') :
    Calls P f args' w fun e w' => e = .returned r ∧ Below w.heap.size w w' := by
  have eb : bare w.heap.size w = w := by simp [bare]
  have key := runShape hP D hD hr hp (A := []) (by rfl) hargsOK (by rfl) (okI_of DP v hv) hrun (n0 := w.heap.size) (w := w) (fun w' hb => hT w' (by rw [eb] at hb; exact hb)) (fun i hi => absurd hi (Nat.not_lt_zero _)) (stands_nil w D)
  rw [ha] at key
  refine key.mono ?_
  rintro e w' ⟨τ', rfl, h⟩
  refine ⟨?_, h.left.1, h.left.2.1, h.left.2.2.1, h.left.2.2.2, fun b hb => h.block b hb (fun i hi => absurd hi (Nat.not_lt_zero _))⟩
  rw [← hr']
  exact congrArg _ (img_any DP v hv)
theorem key_mm [Rho] {o : Oper} {mx : Bool} {a b : Nat} (h : opKey o = some (cond mx 7 6, a, b)) : ∃ c, o.op = .call c ∧ c.callee = .builtin (cond mx .max .min) := by
  have hk : cond mx 7 6 = 6 ∨ cond mx 7 6 = 7 := by cases mx <;> simp
  unfold opKey at h
  split at h
  · rename_i op' t' x y u' ho
    simp only [Option.some.injEq, Prod.mk.injEq] at h
    have := bcode_ge op'; omega
  · rename_i op' t' x ho
    simp only [Option.some.injEq, Prod.mk.injEq] at h
    have := ucode_ge op'; omega
  · simp only [Option.some.injEq, Prod.mk.injEq] at h; omega
  · simp only [Option.some.injEq, Prod.mk.injEq] at h; omega
  · simp only [Option.some.injEq, Prod.mk.injEq] at h; omega
  · simp only [Option.some.injEq, Prod.mk.injEq] at h; omega
  · simp only [Option.some.injEq, Prod.mk.injEq] at h; omega
  · simp only [Option.some.injEq, Prod.mk.injEq] at h; omega
  · simp only [Option.some.injEq, Prod.mk.injEq] at h; omega
  · simp only [Option.some.injEq, Prod.mk.injEq] at h; omega
  · simp only [Option.some.injEq, Prod.mk.injEq] at h; omega
  · rename_i c ho
    split at h <;> first
      | (cases mx <;> simp only [Option.some.injEq, Prod.mk.injEq, cond] at h <;> first | omega | exact ⟨c, ho, by assumption⟩)
      | cases h
  · cases h
theorem rmm {P : Program} {Tw : World → Prop} [Rho] (mx : Bool) {t u : TypeId} {a b r : Value} {k : IntKind} {x y z : Int} (h0 : (okB a && okB b && okB r) = true) (hca : conc a = .int k x) (hcb : conc b = .int k y) (hcr : conc r = .int k z) (h : cond mx (if y > x then y else x) (if y < x then y else x) = z) :
    RuleOK P Tw ⟨(cond mx 7 6, t, u), [a, b], r⟩ := by
  simp only [Bool.and_eq_true] at h0
  intro o hk σ ρ' hv w _
  obtain ⟨c, ho, hc⟩ := key_mm hk
  have hcc := hv.conc (by intro z hz; simp at hz; rcases hz with rfl | rfl <;> first | exact okB_ok h0.1.1 | exact okB_ok h0.1.2)
  rw [ho] at hcc
  have hops : c.operands = c.args := by cases mx <;> simp [Call.operands, hc]
  simp only [Op.operands, hops] at hcc
  obtain ⟨ox, oy, hargs⟩ : ∃ ox oy, c.args.toList = [ox, oy] := by
    match hl : c.args.toList, hcc with
    | [ox, oy], _ => exact ⟨ox, oy, rfl⟩
    | [], h => simp at h
    | [_], h => simp at h
    | _ :: _ :: _ :: _, h => simp at h
  rw [hargs] at hcc
  simp only [List.map_cons, List.map_nil, List.cons.injEq, and_true] at hcc
  classical
  have hx : ρ' ox = .int k x := hcc.1.trans hca
  have hy : ρ' oy = .int k y := hcc.2.trans hcb
  let ρ : Operand → Value := fun q => if q = ox ∨ q = oy then ρ' q else bad
  have hρ : ∀ q, VR (fun _ => none : Sg) (ρ q) (ρ' q) := fun q => by
    by_cases e : q = ox ∨ q = oy
    · simp only [ρ, if_pos e]
      rcases e with rfl | rfl
      · rw [hx]; exact .refl rfl
      · rw [hy]; exact .refl rfl
    · simp only [ρ, if_neg e]; exact .any _
  have hρx : ρ ox = .int k x := by simp only [ρ, true_or, if_true]; exact hx
  have hρy : ρ oy = .int k y := by simp only [ρ, or_true, if_true]; exact hy
  have hsk : sameKind k k = true := by cases k <;> rfl
  have hev : evOp0 (mkEnvS P [] [] []) ρ o ⟨0, .nil⟩ = [.val (.int k z)] := by
    unfold evOp0
    rw [ho]
    simp only [callA, hc]
    cases mx <;> simp only [cond, hargs, hρx, hρy, minmax, hsk, valO] at h ⊢ <;> rw [h]
  obtain ⟨out, hmem, hout⟩ := evOp0_sound (mkEnvS_ok (P := P) (fs := []) (ts := []) (Tw := fun _ => True) allR_nil) (MR.start _ w (fun _ _ => trivial)) hρ o (by rw [hev]; simp)
  rw [hev] at hmem
  obtain rfl : out = .val (.int k z) := by simpa using hmem
  obtain ⟨nx, v', hrun, hnx, hvr⟩ := hout
  obtain rfl := hvr.simple_inv rfl
  refine ⟨conc r, ?_, VR.of_conc (okB_ok h0.2)⟩
  rw [hcr, hrun]
  cases nx <;> first | (simp only [nextVal, Option.some.injEq] at hnx; subst hnx; rfl) | (simp only [nextVal, Option.some.injEq] at hnx; cases hnx) | (simp [nextVal] at hnx)
end
end Go.AS
set_option linter.unusedSectionVars false
namespace Go.AS
open Go.RowKit
theorem key_load [Rho] {o : Oper} {t u : Nat} (h : opKey o = some (40, t, u)) : ∃ x, o.op = .load t x := by
  unfold opKey at h
  split at h
  · rename_i op' t' x y u' ho
    simp only [Option.some.injEq, Prod.mk.injEq] at h
    have := bcode_ge op'; omega
  · rename_i op' t' x ho
    simp only [Option.some.injEq, Prod.mk.injEq] at h
    have := ucode_ge op'; omega
  all_goals first
    | (rename_i t' x ho; simp only [Option.some.injEq, Prod.mk.injEq] at h; obtain ⟨_, rfl, _⟩ := h; exact ⟨_, ho⟩)
    | (simp only [Option.some.injEq, Prod.mk.injEq] at h; omega)
    | (split at h <;> first | (simp only [Option.some.injEq, Prod.mk.injEq] at h; omega) | cases h)
    | cases h
theorem key_index [Rho] {o : Oper} {t u : Nat} (h : opKey o = some (41, t, u)) : ∃ x i, o.op = .indexAddr t x i := by
  unfold opKey at h
  split at h
  · rename_i op' t' x y u' ho
    simp only [Option.some.injEq, Prod.mk.injEq] at h
    have := bcode_ge op'; omega
  · rename_i op' t' x ho
    simp only [Option.some.injEq, Prod.mk.injEq] at h
    have := ucode_ge op'; omega
  all_goals first
    | (rename_i t' x i ho; simp only [Option.some.injEq, Prod.mk.injEq] at h; obtain ⟨_, rfl, _⟩ := h; exact ⟨_, _, ho⟩)
    | (simp only [Option.some.injEq, Prod.mk.injEq] at h; omega)
    | (split at h <;> first | (simp only [Option.some.injEq, Prod.mk.injEq] at h; omega) | cases h)
    | cases h
theorem key_nil [Rho] {o : Oper} {t u : Nat} (h : opKey o = some (45, t, u)) : ∃ x, o.op = .nilCheck x := by
  unfold opKey at h
  split at h
  · rename_i op' t' x y u' ho
    simp only [Option.some.injEq, Prod.mk.injEq] at h
    have := bcode_ge op'; omega
  · rename_i op' t' x ho
    simp only [Option.some.injEq, Prod.mk.injEq] at h
    have := ucode_ge op'; omega
  all_goals first
    | (rename_i x ho; simp only [Option.some.injEq, Prod.mk.injEq] at h; exact ⟨_, ho⟩)
    | (simp only [Option.some.injEq, Prod.mk.injEq] at h; omega)
    | (split at h <;> first | (simp only [Option.some.injEq, Prod.mk.injEq] at h; omega) | cases h)
    | cases h
theorem key_slice [Rho] {o : Oper} {t u : Nat} (h : opKey o = some (3, t, u)) : ∃ x l h' m, o.op = .slice t x l h' m ∧ mcode l h' m = u := by
  unfold opKey at h
  split at h
  · rename_i op' t' x y u' ho
    simp only [Option.some.injEq, Prod.mk.injEq] at h
    have := bcode_ge op'; omega
  · rename_i op' t' x ho
    simp only [Option.some.injEq, Prod.mk.injEq] at h
    have := ucode_ge op'; omega
  all_goals first
    | (rename_i t' x l h' m ho; simp only [Option.some.injEq, Prod.mk.injEq] at h; obtain ⟨_, rfl, h2⟩ := h; exact ⟨_, _, _, _, ho, h2⟩)
    | (simp only [Option.some.injEq, Prod.mk.injEq] at h; omega)
    | (split at h <;> first | (simp only [Option.some.injEq, Prod.mk.injEq] at h; omega) | cases h)
    | cases h
variable {P : Program} {Tw : World → Prop} [Rho]
theorem vr_flat {n : Nat} (hD : ((List.range n).all fun i => (Rho.D i).oneCell') = true) {r v : Value} (h : within n 0 DP r = true) (hv : im Rho.D noTau r = v) (σ : Sg) : VR σ r v := by
  rw [← hv]
  exact img_vr (fun i hi => List.all_eq_true.1 hD i (List.mem_range.2 hi)) (fun i hi => absurd hi (Nat.not_lt_zero _)) _ _ h
theorem rload {n : Nat} (hD : ((List.range n).all fun i => (Rho.D i).oneCell') = true) {t : TypeId} {a r v : Value} {p : Addr} (h0 : (okB a && within n 0 DP r) = true) (hca : conc a = .pointer (some p)) (hv : im Rho.D noTau r = v) (h : ∀ w, Tw w → (loadVar t p).run P w = .ok v w) : RuleOK P Tw ⟨(40, t, 0), [a], r⟩ := by
  simp only [Bool.and_eq_true] at h0
  intro o hk σ ρ' hvl w hT
  obtain ⟨x, ho⟩ := key_load hk
  have hc := hvl.conc (by intro z hz; simp at hz; subst hz; exact okB_ok h0.1)
  rw [ho] at hc
  simp only [Op.operands, List.map_cons, List.map_nil, List.cons.injEq, and_true] at hc
  refine ⟨v, ?_, vr_flat hD h0.2 hv σ⟩
  have : execOp ρ' o = (do pure (.value (← Instr.loadAt t (ρ' x)))) := by simp [execOp, ho]
  rw [this, show ρ' x = .pointer (some p) from hc.trans hca]
  simp [Instr.loadAt, Instr.sureAddr, h w hT]
theorem rindex {t e : TypeId} {ie : TypeInfo} (hu : P.underlying t = some (.slice e)) (hi : P.info? e = some ie) {a b r : Value} {ad : Addr} {n c : Nat} {k : IntKind} {j : Int} (h0 : (okB a && okB b && okB r) = true) (hca : conc a = .slice (some ad) n c) (hcb : conc b = .int k j) (hcr : conc r = .pointer (some (ad.add (j.toNat * ie.size)))) (hj : 0 ≤ j ∧ j < n) : RuleOK P Tw ⟨(41, t, 0), [a, b], r⟩ := by
  simp only [Bool.and_eq_true] at h0
  intro o hk σ ρ' hvl w hT
  obtain ⟨x, i, ho⟩ := key_index hk
  have hc := hvl.conc (by intro z hz; simp at hz; rcases hz with rfl | rfl <;> first | exact okB_ok h0.1.1 | exact okB_ok h0.1.2)
  rw [ho] at hc
  simp only [Op.operands, List.map_cons, List.map_nil, List.cons.injEq, and_true] at hc
  refine ⟨conc r, ?_, VR.of_conc (okB_ok h0.2)⟩
  have : execOp ρ' o = (do pure (.value (← Instr.indexAt t (ρ' x) (ρ' i)))) := by simp [execOp, ho]
  rw [this, show ρ' x = _ from hc.1.trans hca, show ρ' i = _ from hc.2.trans hcb, hcr]
  simp [Instr.indexAt, asIntOf, run_underlying hu, sizeOf, typeInfo, hi, hj]
theorem rlen {t u e : TypeId} (ht0 : t ≠ 0) (hu : P.underlying t = some (.slice e)) {a r : Value} {ad : Option Addr} {n c : Nat} (h0 : (okB a && okB r) = true) (hca : conc a = .slice ad n c) (hcr : conc r = .int .i64 n) : RuleOK P Tw ⟨(4, t, u), [a], r⟩ := by
  simp only [Bool.and_eq_true] at h0
  intro o hk σ ρ' hvl w hT
  obtain ⟨c', ho, ht, _, hcl⟩ := key_len hk
  have hcc := hvl.conc (by intro z hz; simp at hz; subst hz; exact okB_ok h0.1)
  rw [ho] at hcc
  have hops : c'.operands = c'.args := by simp [Call.operands, hcl]
  simp only [Op.operands, hops] at hcc
  obtain ⟨ox, hargs⟩ : ∃ ox, c'.args.toList = [ox] := by
    match hl : c'.args.toList, hcc with
    | [ox], _ => exact ⟨ox, rfl⟩
    | [], h => simp at h
    | _ :: _ :: _, h => simp at h
  rw [hargs] at hcc
  simp only [List.map_cons, List.map_nil, List.cons.injEq, and_true] at hcc
  have hx : ρ' ox = .slice ad n c := hcc.trans hca
  refine ⟨conc r, ?_, VR.of_conc (okB_ok h0.2)⟩
  rw [hcr]
  have hmap : c'.args.map ρ' = #[.slice ad n c] := by
    apply Array.ext'
    simp [hargs, hx]
  obtain ⟨tl, htl⟩ : ∃ tl, c'.argTypes.toList = t :: tl := by
    cases hl : c'.argTypes.toList with
    | nil => rw [hl] at ht; exact absurd ht.symm ht0
    | cons x l => rw [hl] at ht; exact ⟨l, by rw [show x = t from ht]⟩
  have hts : c'.argTypes[0]? = some t := by
    rw [← Array.getElem?_toList, htl]; rfl
  have e1 : execOp ρ' o = (do let d ← resolve ρ' c' o.type; invoke d.target d.args) := by simp [execOp, ho]
  rw [e1]
  simp only [resolve, hcl, Sem.run_bind, Sem.run_pure, Result.andThen_ok, invoke, builtin]
  simp [hmap, Builtin.len_, hts, run_underlying hu, goInt]
theorem rnil {t u : Nat} {a : Value} {p : Addr} (h0 : okB a = true) (hca : conc a = .pointer (some p)) : RuleOK P Tw ⟨(45, t, u), [a], a⟩ := by
  intro o hk σ ρ' hvl w hT
  obtain ⟨x, ho⟩ := key_nil hk
  have hc := hvl.conc (by intro z hz; simp at hz; subst hz; exact okB_ok h0)
  rw [ho] at hc
  simp only [Op.operands, List.map_cons, List.map_nil, List.cons.injEq, and_true] at hc
  refine ⟨conc a, ?_, VR.of_conc (okB_ok h0)⟩
  have hx : ρ' x = .pointer (some p) := hc.trans hca
  have : execOp ρ' o = pure (.value (ρ' x)) := by simp [execOp, ho, hx]
  rw [this, hca, hx]; rfl
theorem rslice3 {t e : TypeId} {ie : TypeInfo} (hu : P.underlying t = some (.slice e)) (hi : P.info? e = some ie) {a b c r : Value} {ad : Option Addr} {n cp l h : Nat} {k k2 : IntKind} (h0 : (okB a && okB b && okB c && okB r) = true) (hca : conc a = .slice ad n cp) (hcb : conc b = .int k l) (hcc : conc c = .int k2 h) (hcr : conc r = .slice (if cp = l then ad else ad.map (·.add (l * ie.size))) (h - l) (cp - l)) (hl : l ≤ h) (hh : h ≤ cp) : RuleOK P Tw ⟨(3, t, 3), [a, b, c], r⟩ := by
  simp only [Bool.and_eq_true] at h0
  intro o hk σ ρ' hvl w hT
  obtain ⟨x, lo, hi', mx, ho, hm⟩ := key_slice hk
  have hc := hvl.conc (by intro z hz; simp at hz; rcases hz with rfl | rfl | rfl <;> first | exact okB_ok h0.1.1.1 | exact okB_ok h0.1.1.2 | exact okB_ok h0.1.2)
  rw [ho] at hc
  cases lo <;> cases hi' <;> cases mx <;> simp [mcode] at hm
  simp [Op.operands] at hc
  refine ⟨conc r, ?_, VR.of_conc (okB_ok h0.2)⟩
  have hb := run_bounds (P := P) (isS := true) (len := n) (cap := cp) (mx := none) (hi := some (.int k2 h)) (lo := some (.int k l)) (.inl ⟨rfl, rfl⟩) (.inr ⟨k2, rfl, hh⟩) (fun h => by cases h) (.inr ⟨k, rfl, hl⟩) w
  have hs := run_sliceAt hu hi (a := ad) hb
  rw [hcr]
  have : execOp ρ' o = (do pure (.value (← Instr.sliceAt t (.slice ad n cp) (some (.int k l)) (some (.int k2 h)) none))) := by simp [execOp, ho, hc.1.trans hca, hc.2.1.trans hcb, hc.2.2.trans hcc]
  rw [this]
  simp only [Sem.run_bind, hs]; rfl
theorem rslice1 {t e : TypeId} {ie : TypeInfo} (hu : P.underlying t = some (.slice e)) (hi : P.info? e = some ie) {a b r : Value} {ad : Option Addr} {n cp l : Nat} {k : IntKind} (h0 : (okB a && okB b && okB r) = true) (hca : conc a = .slice ad n cp) (hcb : conc b = .int k l) (hcr : conc r = .slice (if cp = l then ad else ad.map (·.add (l * ie.size))) (n - l) (cp - l)) (hl : l ≤ n) (hn : n ≤ cp) : RuleOK P Tw ⟨(3, t, 1), [a, b], r⟩ := by
  simp only [Bool.and_eq_true] at h0
  intro o hk σ ρ' hvl w hT
  obtain ⟨x, lo, hi', mx, ho, hm⟩ := key_slice hk
  have hc := hvl.conc (by intro z hz; simp at hz; rcases hz with rfl | rfl <;> first | exact okB_ok h0.1.1 | exact okB_ok h0.1.2)
  rw [ho] at hc
  cases lo <;> cases hi' <;> cases mx <;> simp [mcode] at hm
  simp [Op.operands] at hc
  refine ⟨conc r, ?_, VR.of_conc (okB_ok h0.2)⟩
  have hb := run_bounds (P := P) (isS := true) (len := n) (cap := cp) (mx := none) (hi := none) (lo := some (.int k l)) (.inl ⟨rfl, rfl⟩) (.inl ⟨rfl, rfl⟩) (fun _ => rfl) (.inr ⟨k, rfl, hl⟩) w
  have hs := run_sliceAt hu hi (a := ad) hb
  rw [hcr]
  have : execOp ρ' o = (do pure (.value (← Instr.sliceAt t (.slice ad n cp) (some (.int k l)) none none))) := by simp [execOp, ho, hc.1.trans hca, hc.2.trans hcb]
  rw [this]
  simp only [Sem.run_bind, hs]; rfl
theorem rslice2 {t e : TypeId} {ie : TypeInfo} (hu : P.underlying t = some (.slice e)) (hi : P.info? e = some ie) {a c r : Value} {ad : Option Addr} {n cp h : Nat} {k2 : IntKind} (h0 : (okB a && okB c && okB r) = true) (hca : conc a = .slice ad n cp) (hcc : conc c = .int k2 h) (hcr : conc r = .slice (if cp = 0 then ad else ad.map (·.add (0 * ie.size))) (h - 0) (cp - 0)) (hh : h ≤ cp) : RuleOK P Tw ⟨(3, t, 2), [a, c], r⟩ := by
  simp only [Bool.and_eq_true] at h0
  intro o hk σ ρ' hvl w hT
  obtain ⟨x, lo, hi', mx, ho, hm⟩ := key_slice hk
  have hc := hvl.conc (by intro z hz; simp at hz; rcases hz with rfl | rfl <;> first | exact okB_ok h0.1.1 | exact okB_ok h0.1.2)
  rw [ho] at hc
  cases lo <;> cases hi' <;> cases mx <;> simp [mcode] at hm
  simp [Op.operands] at hc
  refine ⟨conc r, ?_, VR.of_conc (okB_ok h0.2)⟩
  have hb := run_bounds (P := P) (isS := true) (len := n) (cap := cp) (mx := none) (hi := some (.int k2 h)) (lo := none) (.inl ⟨rfl, rfl⟩) (.inr ⟨k2, rfl, hh⟩) (fun h => by cases h) (.inl ⟨rfl, rfl⟩) w
  have hs := run_sliceAt hu hi (a := ad) hb
  rw [hcr]
  have : execOp ρ' o = (do pure (.value (← Instr.sliceAt t (.slice ad n cp) none (some (.int k2 h)) none))) := by simp [execOp, ho, hc.1.trans hca, hc.2.trans hcc]
  rw [this]
  simp only [Sem.run_bind, hs]; rfl
structure Rd where
  f : FuncId
  args : List Value
  reads : List (Nat × Nat × List Value)
  res : Value
noncomputable def rdIn (m : Mem) (q : Nat × Nat × List Value) : Bool := match m.t.get q.1 with
  | some (.row cells n _) => match Nat.ble (q.2.1 + q.2.2.length) n with
    | true => match cells.getL q.2.2.length q.2.1 with
      | some l => veqL 30 l q.2.2
      | none => false
    | false => false
  | _ => false
noncomputable def rdsIn (m : Mem) : List (Nat × Nat × List Value) → Bool
  | [] => true
  | q :: l => match rdIn m q with
    | true => rdsIn m l
    | false => false
noncomputable def rdS : List Rd → Sums → Sums
  | [], S, f, args, m => S f args m
  | r :: l, S, f, args, m => match Nat.beq r.f f with
    | true => match veqL 30 args r.args with
      | true => match rdsIn m r.reads with
        | true => some [(r.res, m)]
        | false => rdS l S f args m
      | false => rdS l S f args m
    | false => rdS l S f args m
def RdOK (P : Program) (Tw : World → Prop) (r : Rd) : Prop := ∀ (σ : Sg) (args' : Array Value), VRL σ r.args args'.toList → ∀ w, Tw w → (∀ q ∈ r.reads, ∃ x l', σ q.1 = some x ∧ VRL σ q.2.2 l' ∧ w.rangeAt x.b (x.sh + q.2.1) l') →
  Calls P r.f args' w fun e w' => ∃ v', e = .returned v' ∧ VR σ r.res v' ∧ Below w.heap.size w w'
theorem rdIn_sound {E : Env} {w0 w : World} {σ : Sg} {m : Mem} (h : MR E w0 σ m w) {q : Nat × Nat × List Value} (hq : rdIn m q = true) : ∃ x l', σ q.1 = some x ∧ VRL σ q.2.2 l' ∧ w.rangeAt x.b (x.sh + q.2.1) l' := by
  obtain ⟨b, o, l0⟩ := q
  unfold rdIn at hq
  split at hq
  · rename_i cells n e hg
    split at hq
    · rename_i hle
      have hle := Nat.le_of_ble_eq_true hle
      split at hq
      · rename_i l hl
        have hl0 := (veq_sound 30).2 _ _ hq
        subst hl0
        obtain ⟨x, ob, hx, _, _, _⟩ := h.obj b _ hg rfl
        obtain ⟨C, fz, _, hC, hnf, hsz, hn, _, hc⟩ := h.row hg hx
        obtain ⟨h1, h2⟩ := T.getL_spec hl
        simp only at hle
        refine ⟨x, (C.toList.drop (x.sh + o)).take l.length, hx, ?_, ?_⟩
        · refine VRL.of_getElem? (by simp; omega) (fun j u u' hu hu' => ?_)
          have hj : j < l.length := (List.getElem?_eq_some_iff.1 hu).1
          obtain ⟨a, a', ha, ha', hr⟩ := hc (o + j) (by omega)
          have := h2 j hj
          rw [this, hu] at ha
          rw [List.getElem?_take, if_pos hj, List.getElem?_drop] at hu'
          rw [← Array.getElem?_toList] at ha'
          rw [show x.sh + (o + j) = x.sh + o + j by omega, hu'] at ha'
          cases ha; cases ha'
          exact hr
        · intro j v hv
          have hj : j < l.length := by
            have := (List.getElem?_eq_some_iff.1 hv).1
            simp at this; omega
          rw [List.getElem?_take, if_pos hj, List.getElem?_drop] at hv
          simp only [World.cell?, hC]
          rw [← Array.getElem?_toList]
          exact hv
      · cases hq
    · cases hq
  · cases hq
theorem rdsIn_sound {E : Env} {w0 w : World} {σ : Sg} {m : Mem} (h : MR E w0 σ m w) : ∀ {l : List (Nat × Nat × List Value)}, rdsIn m l = true → ∀ q ∈ l, ∃ x l', σ q.1 = some x ∧ VRL σ q.2.2 l' ∧ w.rangeAt x.b (x.sh + q.2.1) l' := by
  intro l
  induction l with
  | nil => intro _ q hq; cases hq
  | cons p l ih =>
    intro hl q hq
    unfold rdsIn at hl
    split at hl
    · rename_i hp
      rcases List.mem_cons.1 hq with rfl | hq
      · exact rdIn_sound h hp
      · exact ih hl q hq
    · cases hl
theorem rdS_ok {E : Env} {w0 : World} {l : List Rd} {S : Sums} (hT : ∀ σ m w, MR E w0 σ m w → Tw w) (h : ∀ r ∈ l, RdOK P Tw r) (hS : SOK E P w0 S) : SOK E P w0 (rdS l S) := by
  induction l with
  | nil => exact hS
  | cons p l ih =>
    intro f args m r hs hne σ w args' hv hM
    have ih' := ih (fun q hq => h q (List.mem_cons_of_mem _ hq)) f args m r
    unfold rdS at hs
    split at hs
    · rename_i hg
      split at hs
      · rename_i ha
        split at hs
        · rename_i hrd
          cases hs
          have hg' := Nat.eq_of_beq_eq_true hg
          have ha' := (veq_sound 30).2 _ _ ha
          subst hg' ha'
          refine (h _ (List.mem_cons_self ..) σ args' hv w (hT σ m w hM) (rdsIn_sound hM hrd)).mono ?_
          rintro e w' ⟨v', rfl, hvr, hb⟩
          obtain ⟨hM', hF⟩ := hM.grown hb
          exact ⟨_, List.mem_cons_self .., σ, v', rfl, hF, hvr, hM'⟩
        · exact ih' hs hne σ w args' hv hM
      · exact ih' hs hne σ w args' hv hM
    · exact ih' hs hne σ w args' hv hM
theorem sums_ok {E : Env} {rd : List Rd} {pl : PureL} (hET : ∀ w0, E.Tw w0 → ∀ w', Below w0.heap.size w0 w' → Tw w') (h : ∀ r ∈ rd, RdOK P Tw r) (hp : ∀ p ∈ pl, PureOK P Tw p) (w0 : World) : SOK E P w0 (rdS rd (pureS pl)) :=
  rdS_ok (fun _ _ _ hM => hET _ hM.t0 _ hM.below) h (pureS_ok (fun _ _ _ hM => hET _ hM.t0 _ hM.below) hp)
theorem allD_nil : ∀ r ∈ ([] : List Rd), RdOK P Tw r := fun _ h => by cases h
theorem allD_cons {r : Rd} {l : List Rd} (h : RdOK P Tw r) (hl : ∀ s ∈ l, RdOK P Tw s) : ∀ s ∈ r :: l, RdOK P Tw s := fun s hs => by
  rcases List.mem_cons.1 hs with rfl | hs
  · exact h
  · exact hl s hs
theorem rd_slice {f : FuncId} {b o n c : Nat} {cells cells' : List Value} {v v' : Value} (hc : cells.all okB = true) (hv : okB v = true) (ec : cells.map conc = cells') (ev : conc v = v') (h : ∀ bb oo cap w, Tw w → w.rangeAt bb oo cells' → Calls P f #[.slice (some ⟨bb, oo, none⟩) n cap] w fun e w' => e = .returned v' ∧ Below w.heap.size w w') : RdOK P Tw ⟨f, [.slice (some ⟨b, o, none⟩) n c], [(b, o, cells)], v⟩ := by
  subst ec ev
  intro σ args' hl w hT hr
  obtain ⟨x, l', hx, hvl, hrg⟩ := hr _ (List.mem_cons_self ..)
  have e1 := hvl.conc (fun a ha => okB_ok (List.all_eq_true.1 hc a ha))
  simp only at hrg hx hl
  have hlen : args'.toList.length = 1 := hl.1.symm
  obtain ⟨u, hu⟩ : ∃ u, args'.toList = [u] := by
    match args'.toList, hlen with
    | [u], _ => exact ⟨u, rfl⟩
  rw [hu] at hl
  obtain ⟨i, o', y, c', h1, h2, hy, _, _⟩ : ∃ i o' y c', (some (⟨b, o, none⟩ : Addr)) = some ⟨i, o', none⟩ ∧ u = .slice (some ⟨y.b, y.sh + o', none⟩) n c' ∧ σ i = some y ∧ True ∧ True := by
    rcases (hl.head).slice_inv with ⟨h1, _⟩ | ⟨i, o', y, c', h1, h2, h3, _, _⟩
    · cases h1
    · exact ⟨i, o', y, c', h1, h2, h3, trivial, trivial⟩
  cases h1
  rw [hx] at hy
  cases hy
  have ea : args' = #[.slice (some ⟨x.b, x.sh + o, none⟩) n c'] := Array.ext' (by rw [hu, h2])
  subst ea
  rw [e1] at hrg
  refine (h x.b (x.sh + o) c' w hT hrg).mono ?_
  rintro e w' ⟨rfl, hb⟩
  exact ⟨_, rfl, VR.of_conc (okB_ok hv), hb⟩
omit [Rho] in
theorem runPureS {P : Program} (hP : P.follows .mixedOrders = true) {fs ts : List Nat} {Tw : World → Prop} (D : Nat → Value) {n : Nat} (hD : ((List.range n).all fun i => (D i).oneCell') = true) {rules : List Rule} (hr : letI : Rho := ⟨D⟩; ∀ r ∈ rules, RuleOK P Tw r) {S : Sums} (hSO : letI : Rho := ⟨D⟩; ∀ w0, (∀ w', Below w0.heap.size w0 w' → Tw w') → SOK (mkEnvS P fs ts rules Tw) P w0 S) {fuel d : Nat} {f : FuncId} {args : List Value} {v : Value}
    (hargsOK : (args.all (within n 0 DP)) = true) (hv : within n 0 DP v = true)
    (hrun : outS 0 (evCall (mkEnvS P fs ts rules Tw) S fuel d (.fn f) args (memA [])) [] = [(v, true, [])]) {args' : Array Value} {r : Value} (ha : (args.map (im D noTau)).toArray = args') (hr' : im D noTau v = r) (w : World) (hT : ∀ w', Below w.heap.size w w' → Tw w') :
    Calls P f args' w fun e w' => e = .returned r ∧ Below w.heap.size w w' := by
  have eb : bare w.heap.size w = w := by simp [bare]
  have key := runShapeS hP D hD hr hSO (A := []) (by rfl) hargsOK (by rfl) (okI_of DP v hv) hrun (n0 := w.heap.size) (w := w) (fun w' hb => hT w' (by rw [eb] at hb; exact hb)) (fun i hi => absurd hi (Nat.not_lt_zero _)) (stands_nil w D)
  rw [ha] at key
  refine key.mono ?_
  rintro e w' ⟨τ', rfl, h⟩
  refine ⟨?_, h.left.1, h.left.2.1, h.left.2.2.1, h.left.2.2.2, fun b hb => h.block b hb (fun i hi => absurd hi (Nat.not_lt_zero _))⟩
  rw [← hr']
  exact congrArg _ (img_any DP v hv)
omit [Rho] in
theorem runVal {P : Program} (hP : P.follows .mixedOrders = true) {fs ts : List Nat} {Tw : World → Prop} (D : Nat → Value) {n : Nat} (hD : ((List.range n).all fun i => (D i).oneCell') = true) {rules : List Rule} (hr : letI : Rho := ⟨D⟩; ∀ r ∈ rules, RuleOK P Tw r) {S : Sums} (hSO : letI : Rho := ⟨D⟩; ∀ w0, (∀ w', Below w0.heap.size w0 w' → Tw w') → SOK (mkEnvS P fs ts rules Tw) P w0 S) {fuel d : Nat} {f : FuncId} {args : List Value} {v : Value} {ids : List Nat} {picks : List (Option (TypeId × List Value))}
    (hargsOK : (args.all (within n 0 DP)) = true) (hrun : outS 0 (evCall (mkEnvS P fs ts rules Tw) S fuel d (.fn f) args (memA [])) ids = [(v, true, picks)]) {args' : Array Value} (ha : (args.map (im D noTau)).toArray = args') (w : World) (hT : ∀ w', Below w.heap.size w w' → Tw w') :
    letI : Rho := ⟨D⟩; Calls P f args' w fun e w' => ∃ v' σ, e = .returned v' ∧ Ran [] ids picks v w v' σ w' := by
  letI : Rho := ⟨D⟩
  have hDi : ∀ i, i < n → (Rho.D i).oneCell' = true := fun i hi => List.all_eq_true.1 hD i (List.mem_range.2 hi)
  have eb : bare w.heap.size w = w := by simp [bare]
  have hI : InitOK (mkEnvS P fs ts rules Tw) w [] [] :=
    { len := rfl
      types := rfl
      at_ := fun i p q hp _ => by simp at hp
      dist := fun i j q r hq _ _ => by simp at hq
      rel := fun σ _ i p q hp _ => by simp at hp }
  subst ha
  refine run_sym hP (mkEnvS_ok hr) (fun _ => Iff.rfl) hSO (A := []) hrun (n0 := w.heap.size) (fun w' hb => hT w' (by rw [eb] at hb; exact hb)) (fun q hq => by cases hq) hI (fun σ _ => ?_)
  have : ∀ l : List Value, l.all (within n 0 DP) = true → VRL σ l (l.map (im D noTau)) := fun l => by
    induction l with
    | nil => intro _; exact VRL.nil σ
    | cons a l ih =>
      intro hl
      simp only [List.all_cons, Bool.and_eq_true] at hl
      exact VRL.cons (img_vr hDi (fun i hi => absurd hi (Nat.not_lt_zero _)) DP a hl.1) (ih hl.2)
  simpa using this args hargsOK
theorem rsliceI3 {t e : TypeId} {ie : TypeInfo} (hu : P.underlying t = some (.slice e)) (hi : P.info? e = some ie) (hs : ie.size = 1) {a b c r : Value} {bb bo n cp : Nat} {lo hi' : Int} {k k2 : IntKind} (h0 : (okB a && okB b && okB c && okB r) = true) (hca : conc a = .slice (some ⟨bb, bo, none⟩) n cp) (hcb : conc b = .int k lo) (hcc : conc c = .int k2 hi') (hcr : conc r = .slice (some ⟨bb, bo + lo.toNat, none⟩) (hi'.toNat - lo.toNat) (cp - lo.toNat)) (hl : 0 ≤ lo ∧ lo ≤ hi') (hh : hi' ≤ cp) (hlt : lo < cp) : RuleOK P Tw ⟨(3, t, 3), [a, b, c], r⟩ := by
  obtain ⟨l, rfl⟩ := Int.eq_ofNat_of_zero_le hl.1
  obtain ⟨h, rfl⟩ := Int.eq_ofNat_of_zero_le (Int.le_trans hl.1 hl.2)
  refine rslice3 (ad := some ⟨bb, bo, none⟩) (n := n) (cp := cp) (l := l) (h := h) hu hi h0 hca hcb hcc ?_ (by omega) (by omega)
  rw [hcr, if_neg (by omega)]
  simp [hs, Addr.add_mid]
theorem rsliceI1 {t e : TypeId} {ie : TypeInfo} (hu : P.underlying t = some (.slice e)) (hi : P.info? e = some ie) (hs : ie.size = 1) {a b r : Value} {bb bo n cp : Nat} {lo : Int} {k : IntKind} (h0 : (okB a && okB b && okB r) = true) (hca : conc a = .slice (some ⟨bb, bo, none⟩) n cp) (hcb : conc b = .int k lo) (hcr : conc r = .slice (some ⟨bb, bo + lo.toNat, none⟩) (n - lo.toNat) (cp - lo.toNat)) (hl : 0 ≤ lo ∧ lo ≤ n) (hn : n ≤ cp) (hlt : lo < cp) : RuleOK P Tw ⟨(3, t, 1), [a, b], r⟩ := by
  obtain ⟨l, rfl⟩ := Int.eq_ofNat_of_zero_le hl.1
  refine rslice1 (ad := some ⟨bb, bo, none⟩) (n := n) (cp := cp) (l := l) hu hi h0 hca hcb ?_ (by omega) hn
  rw [hcr, if_neg (by omega)]
  simp [hs, Addr.add_mid]
theorem rindexI {t e : TypeId} {ie : TypeInfo} (hu : P.underlying t = some (.slice e)) (hi : P.info? e = some ie) {sz : Nat} (hs : ie.size = sz) {a b r : Value} {bb bo oo n c : Nat} {k : IntKind} {j : Int} (h0 : (okB a && okB b && okB r) = true) (hca : conc a = .slice (some ⟨bb, bo, none⟩) n c) (hcb : conc b = .int k j) (hcr : conc r = .pointer (some ⟨bb, oo, none⟩)) (ho : bo + j.toNat * sz = oo) (hj : 0 ≤ j ∧ j < n) : RuleOK P Tw ⟨(41, t, 0), [a, b], r⟩ := by
  refine rindex (ad := ⟨bb, bo, none⟩) hu hi h0 hca hcb ?_ hj
  rw [hcr, ← ho, hs, Addr.add_mid]
theorem rload1 {n : Nat} (hD : ((List.range n).all fun i => (Rho.D i).oneCell') = true) {t : TypeId} {d : TypeDesc} (hu : P.underlying t = some d) (hd : d.isRow = false) {a r v : Value} {p : Addr} (h0 : (okB a && within n 0 DP r) = true) (hca : conc a = .pointer (some p)) (hv : im Rho.D noTau r = v) (h : ∀ w, Tw w → w.cell? p = some v) : RuleOK P Tw ⟨(40, t, 0), [a], r⟩ := by
  refine rload hD h0 hca hv (fun w hT => ?_)
  have hagg : (isAgg t).run P w = .ok false w := by
    unfold isAgg
    rw [Sem.run_bind, run_underlying hu w]
    cases d <;> simp_all [TypeDesc.isRow]
  have hc := h w hT
  simp [loadVar, Sem.run_bind, hagg, hc, go_sem]
theorem rloadN {n : Nat} (hD : ((List.range n).all fun i => (Rho.D i).oneCell') = true) {t : TypeId} {d : TypeDesc} (hu : P.underlying t = some d) (hd : d.isRow = true) {a r : Value} {bb oo : Nat} {cs : List Value} (hi : (P.info? t).map (·.size) = some cs.length) (h0 : (okB a && within n 0 DP r) = true) (hca : conc a = .pointer (some ⟨bb, oo, none⟩)) (hv : im Rho.D noTau r = .agg cs.toArray) (h : ∀ w, Tw w → w.rangeAt bb oo cs) : RuleOK P Tw ⟨(40, t, 0), [a], r⟩ :=
  rload hD h0 hca hv (fun w hT => run_loadVar_mid w bb oo t cs d (h w hT) hu hd hi)
theorem rneqA {n : Nat} {t u : TypeId} {a b r : Value} {A : Array Value} (h0 : (within n 0 DP a && within n 0 DP b && okB r) = true) (hg : P.eqGuardType P.depth t = false) (heq : ∀ w, (Op.equal t (.agg A) (.agg A)).run P w = .ok true w) (ha : im Rho.D noTau a = .agg A) (hb : im Rho.D noTau b = .agg A) (hr : conc r = .bool false) : RuleOK P Tw ⟨(22, t, u), [a, b], r⟩ := by
  simp only [Bool.and_eq_true] at h0
  intro o hk σ ρ' hv w hT
  obtain ⟨x, y, ho⟩ := key_bin (op := .neq) hk
  rw [ho] at hv
  simp only [Op.operands, List.map_cons, List.map_nil] at hv
  have hx : ρ' x = .agg A := by rw [img_of DP a _ hv.head (okI_of DP a h0.1.1), img_any (τ2 := noTau) DP a h0.1.1]; exact ha
  have hy : ρ' y = .agg A := by rw [img_of DP b _ hv.tail.head (okI_of DP b h0.1.2), img_any (τ2 := noTau) DP b h0.1.2]; exact hb
  refine ⟨conc r, ?_, VR.of_conc (okB_ok h0.2)⟩
  rw [hr]
  have : execOp ρ' o = (do pure (.value (← (do eqGuard .neq t x y (ρ' x) (ρ' y); Go.binOp .neq t (ρ' x) (ρ' y))))) := by simp [execOp, ho]
  rw [this, hx, hy]
  simp [eqGuard, Go.binOp, hg, heq, Sem.run_bind, go_sem]
end Go.AS
