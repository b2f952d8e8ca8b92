/- Frames, regions in the order of the text, code: what the evaluator says holds of every world. -/
import Derived.Test.YtppdhckcempmnaaGreatDoorAEOps9
import Derived.OrdersIn
import Derived.RangeFuncLeaves
namespace Go.AE
open Go.RowKit
variable {E : Env} {P : Program} {w0 : World}
/-- the temporaries -/
structure TR (σ : Sg) (N : Nat) (t : T Value) (a : Act) : Prop where
  size : a.tmps.size = N
  val : ∀ i, VR σ (tv t i) (a.tmps.getD i undef)
theorem TR.mono {σ σ' : Sg} (he : Ext σ σ') {N : Nat} {t : T Value} {a : Act} (h : TR σ N t a) : TR σ' N t a := ⟨h.size, fun i => (h.val i).mono he⟩
theorem allSimple_spec {l : List Value} (h : allSimple l = true) : ∀ v ∈ l, simple v = true := by
  induction l with
  | nil => intro v hv; cases hv
  | cons x l ih =>
    intro v hv
    simp only [allSimple] at h
    cases hx : simple x with
    | false => rw [hx] at h; cases h
    | true =>
      rw [hx] at h
      cases hv with
      | head => exact hx
      | tail _ hm => exact ih h v hm
theorem cst_sound (σ : Sg) (v : Value) : VR σ (cst v) v := by
  unfold cst
  split <;> first | exact .refl rfl | exact .any _ | skip
  · rename_i vs
    split
    · rename_i h
      have : vs = #[] := Array.ext' h
      subst this; exact VR.undef σ
    · exact .any _
  · rename_i vs
    split
    · rename_i h
      exact .agg_of (VRL.simple (allSimple_spec h))
    · exact .any _
theorem evalT_sound {σ : Sg} {N : Nat} {t : T Value} {a : Act} (h : TR σ N t a) (x : Operand) : VR σ (evalT t x) (a.eval x) := by
  cases x with
  | tmp i => exact h.val i
  | const v => exact cst_sound σ v
  | global g => exact .any _
  | func f => exact .func rfl (fun i hi => by simp at hi) rfl (fun i hi => by simp at hi)
theorem TR.put {σ : Sg} {N : Nat} {t : T Value} {a : Act} (h : TR σ N t a) (d : Option Tmp) {v v' : Value} (hv : VR σ v v') : TR σ N (put N t d v) (a.put d v') := by
  cases d with
  | none => exact h
  | some d =>
    simp only [AE.put, Act.put]
    refine ⟨by simpa using h.size, fun i => ?_⟩
    cases hlt : Nat.blt d N with
    | true =>
      have hlt' : d < N := Nat.le_of_ble_eq_true hlt
      simp only [tv, T.get_set]
      by_cases e : d = i
      · subst e
        have : d < a.tmps.size := by rw [h.size]; exact hlt'
        simp [this, hv]
      · rw [if_neg e]
        have : (a.tmps.setIfInBounds d v').getD i undef = a.tmps.getD i undef := by
          simp [e]
        rw [this]; exact h.val i
    | false =>
      have hge : N ≤ d := by
        rcases Nat.lt_or_ge d N with h1 | h1
        · have h2 : Nat.blt d N = true := Nat.ble_eq_true_of_le h1
          rw [h2] at hlt; cases hlt
        · exact h1
      have : a.tmps.setIfInBounds d v' = a.tmps := by
        apply Array.ext_getElem?
        intro q
        rw [Array.getElem?_setIfInBounds]
        by_cases e : d = q
        · subst e; rw [if_pos rfl, if_neg (by rw [h.size]; omega), Array.getElem?_eq_none (by rw [h.size]; exact hge)]
        · rw [if_neg e]
      rw [this]; exact h.val i
theorem wanted_sound {σ : Sg} {N : Nat} {t : T Value} {a : Act} (h : TR σ N t a) {ops : Array Oper} {o : Oper} {b : Bool} (hw : wanted ops o t = some b) : Region.wanted o (yielded ops a.tmps) = b := by
  unfold wanted at hw
  unfold Region.wanted
  split at hw
  · rename_i hg
    rw [hg]; cases hw; rfl
  · rename_i j want hg
    rw [hg]
    split at hw
    · rename_i p hp
      have hp' : ops[j]? = some p := by simpa using hp
      split at hw
      · rename_i d hd
        have hv := h.val d
        have hy : yielded ops a.tmps j = match a.tmps[d]? with | some (.bool b) => some b | _ => none := by
          simp [yielded, hp', hd]
          rfl
        simp only [tv] at hv
        split at hw
        · rename_i b' ht
          cases hw
          rw [ht] at hv
          have hb := hv.simple_inv rfl
          have : a.tmps[d]? = some (.bool b') := by
            rcases Nat.lt_or_ge d a.tmps.size with h1 | h1
            · simp [h1] at hb
              rw [Array.getElem?_eq_getElem h1, hb]
            · simp [Nat.not_lt.2 h1, undef] at hb
          simp only [hy, this]
          cases b' <;> cases want <;> rfl
        · rename_i vs ht
          cases hw
          rw [ht] at hv
          obtain ⟨vs', hb, _⟩ := hv.tuple_inv
          have : (match a.tmps[d]? with | some (.bool b) => some b | _ => none) = (none : Option Bool) := by
            rcases Nat.lt_or_ge d a.tmps.size with h1 | h1
            · simp [h1] at hb
              rw [Array.getElem?_eq_getElem h1, hb]
            · rw [Array.getElem?_eq_none h1]
          simp only [hy, this]
          rfl
        · cases hw
      · cases hw
    · cases hw
theorem bindL_ne {α β : Type} {f : α → List β} : ∀ {l : List α}, bindL l f ≠ [] → ∀ x ∈ l, f x ≠ [] ∧ ∀ y ∈ f x, y ∈ bindL l f := by
  intro l
  induction l with
  | nil => intro _ x hx; cases hx
  | cons a l ih =>
    intro hne x hx
    cases l with
    | nil =>
      simp only [List.mem_singleton] at hx
      subst hx
      exact ⟨hne, fun y hy => hy⟩
    | cons b l =>
      simp only [bindL] at hne ⊢
      split at hne
      · exact absurd rfl hne
      · rename_i c cs hc
        split at hne
        · exact absurd rfl hne
        · rename_i d ds hd
          try rw [hc]
          try simp only
          try rw [hd]
          try simp only
          cases hx with
          | head =>
            rw [hc]
            exact ⟨by simp, fun y hy => List.mem_append.2 (.inl (by simpa using hy))⟩
          | tail _ hm =>
            have hne2 : bindL (b :: l) f ≠ [] := by rw [hd]; simp
            obtain ⟨h1, h2⟩ := ih hne2 x hm
            refine ⟨h1, fun y hy => ?_⟩
            have := h2 y hy
            rw [hd] at this
            exact List.mem_append.2 (.inr this)
/-- the fence that lets all in; in a round or not -/
def WF (r : Option Nat) : Fence := { Fence.wide with round := r }
theorem WF_none : WF none = Fence.wide := rfl
theorem WF_round (r : Option Nat) (l : Nat) : (WF r).inRound l = WF (some l) := rfl
theorem WF_depth {n : Nat} (r : Option Nat) : (WF r).depth.isSome = true → 1 ≤ n := fun h => by simp [WF, Fence.wide] at h
theorem callsIn_W {r : Option Nat} {n : Nat} {f : FuncId} {args : Array Value} {w : World} {R : Ending → World → Prop} (h : Calls P f args w R) : CallsIn (WF r) n P f args w R :=
  (callsIn_wide (n := n)).2 h
theorem calls_of_W {r : Option Nat} {n : Nat} {f : FuncId} {args : Array Value} {w : World} {R : Ending → World → Prop} (h : CallsIn (WF r) n P f args w R) : Calls P f args w R :=
  (callsIn_wide (n := n)).1 h
/-- what a call is met by -/
def After (E : Env) (w0 : World) (σ : Sg) (m : Mem) (w : World) (l : List (Value × Mem)) (e : Ending) (w' : World) : Prop :=
  ∃ r ∈ l, ∃ σ' v', e = .returned v' ∧ FG σ m w σ' r.2 w' ∧ VR σ' r.1 v' ∧ MR E w0 σ' r.2 w'
/-- what is asked of the calls -/
structure CallOK (E : Env) (P : Program) (w0 : World) (call : CallF) : Prop where
  fn : ∀ f args m, call (.fn f) args m ≠ [] → ∀ (σ : Sg) (w : World) (args' : Array Value), VRL σ args args'.toList → MR E w0 σ m w → Calls P f args' w (After E w0 σ m w (call (.fn f) args m))
  yld : ∀ i args m, call (.yld i) args m ≠ [] → ∀ (σ : Sg) (w : World) (args' : Array Value) (x : Inf), σ i = some x → VRL σ args args'.toList → MR E w0 σ m w →
    ∃ f tmps as body, (Instr.yield x.b args').run P w = .ok (.round x.b f tmps as body) w ∧ ∀ r n, RoundIn (WF r) n P x.b f tmps as body w (After E w0 σ m w (call (.yld i) args m))
theorem not_defer {ρ : Operand → Value} {o : Oper} {m : Mem} (h : evOp E ρ o m ≠ []) : ∀ c, o.op ≠ .defer c := by
  intro c hc
  refine h ?_
  unfold evOp
  rw [hc]
/-- an operation is met, its calls too -/
theorem oper_wp {call : CallF} (hcall : CallOK E P w0 call) {σ : Sg} {m : Mem} {w : World} {o : Oper} {a : Act} {out : Out} (hnd : ∀ c, o.op ≠ .defer c) (hM : MR E w0 σ m w) (hout : OutOK E P w0 σ m w (execOp a.eval o) out)
    {r : Option Nat} {n : Nat} {K : Act → World → Prop} {Q : Exit → Act → World → Prop}
    (hv : ∀ v, out = .val v → ∀ v', VR σ v v' → K (a.put o.dst v') w)
    (hn : ∀ ob mk, out = .new ob mk → ∀ v' obj x, x.b = w.heap.size → ob.live = true → OR E σ x ob obj → (∀ (σ' : Sg) id, σ' id = some x → VR σ' (mk.val id) v') → K (a.put o.dst v') (w.alloc obj))
    (he : ∀ v m', out = .eff v m' → ∀ v' w' σ', VR σ' v v' → MR E w0 σ' m' w' → FG σ m w σ' m' w' → K (a.put o.dst v') w')
    (hc : ∀ f args, out = .enter f args → call f args m ≠ [] ∧ ∀ q ∈ call f args m, ∀ v' w' σ', FG σ m w σ' q.2 w' → VR σ' q.1 v' → MR E w0 σ' q.2 w' → K (a.put o.dst v') w') : o.wpIn (WF r) n P a w K Q := by
  unfold Oper.wpIn
  refine ⟨fun _ _ => trivial, ?_⟩
  rw [Oper.semAt_eq _ _ _ hnd]
  cases out with
  | val v =>
    obtain ⟨nx, v', h1, h2, h3⟩ := hout
    rw [h1]
    have hgo := hv v rfl v' h3
    cases nx <;> simp only [nextVal, Option.some.injEq] at h2 <;> first | (cases h2; done) | (subst h2; exact hgo)
  | new ob mk =>
    obtain ⟨v', obj, x, h1, h2, h3, h4, h5⟩ := hout
    rw [h1]
    exact hn ob mk rfl v' obj x h2 h3 h4 h5
  | eff v m' =>
    obtain ⟨nx, v', w', σ', h1, h2, h3, hm', hf'⟩ := hout
    rw [h1]
    have hgo := he v m' rfl v' w' σ' h3 hm' hf'
    cases nx <;> simp only [nextVal, Option.some.injEq] at h2 <;> first | (cases h2; done) | (subst h2; exact hgo)
  | enter f args =>
    obtain ⟨hne, hgo⟩ := hc f args rfl
    cases f with
    | fn f =>
      obtain ⟨args', h1, h2⟩ := hout
      rw [h1, Oper.uponIn_enter]
      refine ⟨WF_depth r, callsIn_W ((hcall.fn f args m hne σ w args' h2 hM).mono ?_)⟩
      rintro e w' ⟨q, hq, σ', v', rfl, hf', hv', hm'⟩
      exact hgo q hq v' w' σ' hf' hv' hm'
    | yld i =>
      obtain ⟨args', x, h0, h1, h2⟩ := hout
      obtain ⟨f, tmps, as, body, g1, g2⟩ := hcall.yld i args m hne σ w args' x h0 h2 hM
      rw [h1, g1, Oper.uponIn_round]
      refine ⟨WF_depth r, (g2 r _).mono ?_⟩
      rintro e w' ⟨q, hq, σ', v', rfl, hf', hv', hm'⟩
      exact hgo q hq v' w' σ' hf' hv' hm'
theorem evOps_wp (hE : EOK E P) {call : CallF} (hcall : CallOK E P w0 call) {r : Option Nat} {n : Nat} {N : Nat} {ops : Array Oper} {Q : Exit → Act → World → Prop} : ∀ (l : List Oper) (k : Nat), ops.toList.drop k = l → ∀ (t : T Value) (m : Mem) (σ : Sg) (a : Act) (w : World),
    evOps E call N ops l t m ≠ [] → TR σ N t a → MR E w0 σ m w →
    (∀ r ∈ evOps E call N ops l t m, ∀ σ' a' w', FG σ m w σ' r.2 w' → TR σ' N r.1 a' → MR E w0 σ' r.2 w' → a'.defers = a.defers → Q .normal a' w') → wpOpsIn (WF r) n P ops Q (List.range' k l.length) a w := by
  intro l
  induction l with
  | nil =>
    intro k _ t m σ a w _ hT hM hQ
    exact hQ (t, m) (by simp [evOps]) σ a w (FG.refl σ m w) hT hM rfl
  | cons o l ih =>
    intro k hk t m σ a w hne hT hM hQ
    have hok : ops[k]? = some o := by
      have : (ops.toList.drop k)[0]? = some o := by rw [hk]; rfl
      simpa using this
    have hk' : ops.toList.drop (k + 1) = l := by
      rw [← List.drop_drop, hk]; rfl
    simp only [List.length_cons, List.range'_succ, wpOpsIn, hok]
    have hput : ∀ (d : Option Tmp) (v : Value), (a.put d v).defers = a.defers := by intro d v; cases d <;> rfl
    simp only [evOps] at hne hQ
    split at hne
    · exact absurd rfl hne
    · rename_i hw
      rw [hw] at hQ
      simp only at hQ
      rw [wanted_sound hT hw]
      simp only [Bool.false_eq_true, if_false]
      exact ⟨fun _ _ => trivial, ih (k + 1) hk' _ m σ _ w hne (hT.put o.dst (VR.undef σ)) hM (fun r hr σ' a' w' h1 h2 h3 h4 => hQ r hr σ' a' w' h1 h2 h3 (h4.trans (hput _ _)))⟩
    · rename_i hw
      rw [hw] at hQ
      simp only at hQ
      rw [wanted_sound hT hw]
      simp only [if_true]
      have hsrc : evOp E (evalT t) o m ≠ [] := by intro e; rw [e] at hne; exact hne rfl
      obtain ⟨out, hmem, hout⟩ := evOp_sound (P := P) (m := m) (w := w) hE hM (evalT_sound hT) o hsrc
      obtain ⟨hne', hsub⟩ := bindL_ne hne out hmem
      have hQ' := fun r hr => hQ r (hsub r hr)
      refine oper_wp hcall (not_defer hsrc) hM hout ?_ ?_ ?_ ?_
      · rintro v rfl v' h3
        exact ih (k + 1) hk' _ m σ _ w hne' (hT.put o.dst h3) hM (fun r hr σ' a' w' g1 g2 g3 g4 => hQ' r hr σ' a' w' g1 g2 g3 (g4.trans (hput _ _)))
      · rintro ob mk rfl v' obj x h2 h3 h4 h5
        obtain ⟨hm', hf'⟩ := hM.new (id := m.n) (hM.fresh m.n (Nat.le_refl _)) (n' := m.n + 1) (by omega) (by omega) h2 h4
        have hf' := hf' (Nat.le_refl _)
        exact ih (k + 1) hk' _ _ _ _ _ hne' ((hT.mono hf'.ext).put o.dst (h5 _ _ (if_pos rfl))) hm' (fun r hr σ' a' w' g1 g2 g3 g4 => hQ' r hr σ' a' w' (hf'.trans g1) g2 g3 (g4.trans (hput _ _)))
      · rintro v m' rfl v' w' σ' h3 hm' hf'
        exact ih (k + 1) hk' _ _ _ _ _ hne' ((hT.mono hf'.ext).put o.dst h3) hm' (fun r hr σ' a' w' g1 g2 g3 g4 => hQ' r hr σ' a' w' (hf'.trans g1) g2 g3 (g4.trans (hput _ _)))
      · rintro f args rfl
        simp only at hne' hsub
        refine ⟨by intro e; rw [e] at hne'; exact hne' rfl, ?_⟩
        intro q hq v' w' σ' hf' hv' hm'
        obtain ⟨hne2, hsub2⟩ := bindL_ne hne' q hq
        exact ih (k + 1) hk' _ _ _ _ _ hne2 ((hT.mono hf'.ext).put o.dst hv') hm' (fun r2 hr2 σ2 a2 w2 g1 g2 g3 g4 => hQ' r2 (hsub2 r2 hr2) σ2 a2 w2 (hf'.trans g1) g2 g3 (g4.trans (hput _ _)))
end Go.AE
