/- AECode, AEDrawA: in one text. -/
import Derived.Test.YtpbhfckefmboaaaGreatDoorGp35
import Derived.OrdersIn
import Derived.RangeFuncLeaves
import Derived.Orders
set_option linter.unusedVariables false
set_option linter.unusedSimpArgs false
set_option linter.unusedSectionVars false
namespace Go.AE
open Go.RowKit
variable {E : Env} {P : Program} {w0 : World}
/-- the temporaries -/
structure TR (σ : Sg) (N : Nat) (t : T Value) (a : Act) : Prop where
  size : a.tmps.size = N
  val : ∀ i, VR σ (tv t i) (a.tmps.getD i undef)
theorem TR.mono {σ σ' : Sg} (he : Ext σ σ') {N : Nat} {t : T Value} {a : Act} (h : TR σ N t a) : TR σ' N t a := ⟨h.size, fun i => (h.val i).mono he⟩
theorem allSimple_spec {l : List Value} (h : allSimple l = true) : ∀ v ∈ l, simple v = true := by
  induction l with
  | nil => intro v hv; cases hv
  | cons x l ih =>
    intro v hv
    simp only [allSimple] at h
    cases hx : simple x with
    | false => rw [hx] at h; cases h
    | true =>
      rw [hx] at h
      cases hv with
      | head => exact hx
      | tail _ hm => exact ih h v hm
theorem cst_sound (σ : Sg) (v : Value) : VR σ (cst v) v := by
  unfold cst
  split <;> first | exact .refl rfl | exact .any _ | skip
  · rename_i vs
    split
    · rename_i h
      have : vs = #[] := Array.ext' h
      subst this; exact VR.undef σ
    · exact .any _
  · rename_i vs
    split
    · rename_i h
      exact .agg_of (VRL.simple (allSimple_spec h))
    · exact .any _
theorem evalT_sound {σ : Sg} {N : Nat} {t : T Value} {a : Act} (h : TR σ N t a) (x : Operand) : VR σ (evalT t x) (a.eval x) := by
  cases x with
  | tmp i => exact h.val i
  | const v => exact cst_sound σ v
  | global g => exact .any _
  | func f => exact .func rfl (fun i hi => by simp at hi) rfl (fun i hi => by simp at hi)
theorem TR.put {σ : Sg} {N : Nat} {t : T Value} {a : Act} (h : TR σ N t a) (d : Option Tmp) {v v' : Value} (hv : VR σ v v') : TR σ N (put N t d v) (a.put d v') := by
  cases d with
  | none => exact h
  | some d =>
    simp only [AE.put, Act.put]
    refine ⟨by simpa using h.size, fun i => ?_⟩
    cases hlt : Nat.blt d N with
    | true =>
      have hlt' : d < N := Nat.le_of_ble_eq_true hlt
      simp only [tv, T.get_set]
      by_cases e : d = i
      · subst e
        have : d < a.tmps.size := by rw [h.size]; exact hlt'
        simp [this, hv]
      · rw [if_neg e]
        have : (a.tmps.setIfInBounds d v').getD i undef = a.tmps.getD i undef := by
          simp [e]
        rw [this]; exact h.val i
    | false =>
      have hge : N ≤ d := by
        rcases Nat.lt_or_ge d N with h1 | h1
        · have h2 : Nat.blt d N = true := Nat.ble_eq_true_of_le h1
          rw [h2] at hlt; cases hlt
        · exact h1
      have : a.tmps.setIfInBounds d v' = a.tmps := by
        apply Array.ext_getElem?
        intro q
        rw [Array.getElem?_setIfInBounds]
        by_cases e : d = q
        · subst e; rw [if_pos rfl, if_neg (by rw [h.size]; omega), Array.getElem?_eq_none (by rw [h.size]; exact hge)]
        · rw [if_neg e]
      rw [this]; exact h.val i
theorem wanted_sound {σ : Sg} {N : Nat} {t : T Value} {a : Act} (h : TR σ N t a) {ops : Array Oper} {o : Oper} {b : Bool} (hw : wanted ops o t = some b) : Region.wanted o (yielded ops a.tmps) = b := by
  unfold wanted at hw
  unfold Region.wanted
  split at hw
  · rename_i hg
    rw [hg]; cases hw; rfl
  · rename_i j want hg
    rw [hg]
    split at hw
    · rename_i p hp
      have hp' : ops[j]? = some p := by simpa using hp
      split at hw
      · rename_i d hd
        have hv := h.val d
        have hy : yielded ops a.tmps j = match a.tmps[d]? with | some (.bool b) => some b | _ => none := by
          simp [yielded, hp', hd]
          rfl
        simp only [tv] at hv
        split at hw
        · rename_i b' ht
          cases hw
          rw [ht] at hv
          have hb := hv.simple_inv rfl
          have : a.tmps[d]? = some (.bool b') := by
            rcases Nat.lt_or_ge d a.tmps.size with h1 | h1
            · simp [h1] at hb
              rw [Array.getElem?_eq_getElem h1, hb]
            · simp [Nat.not_lt.2 h1, undef] at hb
          simp only [hy, this]
          cases b' <;> cases want <;> rfl
        · rename_i vs ht
          cases hw
          rw [ht] at hv
          obtain ⟨vs', hb, _⟩ := hv.tuple_inv
          have : (match a.tmps[d]? with | some (.bool b) => some b | _ => none) = (none : Option Bool) := by
            rcases Nat.lt_or_ge d a.tmps.size with h1 | h1
            · simp [h1] at hb
              rw [Array.getElem?_eq_getElem h1, hb]
            · rw [Array.getElem?_eq_none h1]
          simp only [hy, this]
          rfl
        · cases hw
      · cases hw
    · cases hw
theorem bindL_ne {α β : Type} {f : α → List β} : ∀ {l : List α}, bindL l f ≠ [] → ∀ x ∈ l, f x ≠ [] ∧ ∀ y ∈ f x, y ∈ bindL l f := by
  intro l
  induction l with
  | nil => intro _ x hx; cases hx
  | cons a l ih =>
    intro hne x hx
    cases l with
    | nil =>
      simp only [List.mem_singleton] at hx
      subst hx
      exact ⟨hne, fun y hy => hy⟩
    | cons b l =>
      simp only [bindL] at hne ⊢
      split at hne
      · exact absurd rfl hne
      · rename_i c cs hc
        split at hne
        · exact absurd rfl hne
        · rename_i d ds hd
          try rw [hc]
          try simp only
          try rw [hd]
          try simp only
          cases hx with
          | head =>
            rw [hc]
            exact ⟨by simp, fun y hy => List.mem_append.2 (.inl (by simpa using hy))⟩
          | tail _ hm =>
            have hne2 : bindL (b :: l) f ≠ [] := by rw [hd]; simp
            obtain ⟨h1, h2⟩ := ih hne2 x hm
            refine ⟨h1, fun y hy => ?_⟩
            have := h2 y hy
            rw [hd] at this
            exact List.mem_append.2 (.inr this)
/-- the fence that lets all in; in a round or not -/
def WF (r : Option Nat) : Fence := { Fence.wide with round := r }
theorem WF_none : WF none = Fence.wide := rfl
theorem WF_round (r : Option Nat) (l : Nat) : (WF r).inRound l = WF (some l) := rfl
theorem WF_depth {n : Nat} (r : Option Nat) : (WF r).depth.isSome = true → 1 ≤ n := fun h => by simp [WF, Fence.wide] at h
theorem callsIn_W {r : Option Nat} {n : Nat} {f : FuncId} {args : Array Value} {w : World} {R : Ending → World → Prop} (h : Calls P f args w R) : CallsIn (WF r) n P f args w R :=
  (callsIn_wide (n := n)).2 h
theorem calls_of_W {r : Option Nat} {n : Nat} {f : FuncId} {args : Array Value} {w : World} {R : Ending → World → Prop} (h : CallsIn (WF r) n P f args w R) : Calls P f args w R :=
  (callsIn_wide (n := n)).1 h
/-- what a call is met by -/
def After (E : Env) (w0 : World) (σ : Sg) (m : Mem) (w : World) (l : List (Value × Mem)) (e : Ending) (w' : World) : Prop :=
  ∃ r ∈ l, ∃ σ' v', e = .returned v' ∧ FG σ m w σ' r.2 w' ∧ VR σ' r.1 v' ∧ MR E w0 σ' r.2 w'
/-- what is asked of the calls -/
structure CallOK (E : Env) (P : Program) (w0 : World) (call : CallF) : Prop where
  fn : ∀ f args m, call (.fn f) args m ≠ [] → ∀ (σ : Sg) (w : World) (args' : Array Value), VRL σ args args'.toList → MR E w0 σ m w → Calls P f args' w (After E w0 σ m w (call (.fn f) args m))
  yld : ∀ i args m, call (.yld i) args m ≠ [] → ∀ (σ : Sg) (w : World) (args' : Array Value) (x : Inf), σ i = some x → VRL σ args args'.toList → MR E w0 σ m w →
    ∃ f tmps as body, (Instr.yield x.b args').run P w = .ok (.round x.b f tmps as body) w ∧ ∀ r n, RoundIn (WF r) n P x.b f tmps as body w (After E w0 σ m w (call (.yld i) args m))
theorem not_defer {ρ : Operand → Value} {o : Oper} {m : Mem} (h : evOp E ρ o m ≠ []) : ∀ c, o.op ≠ .defer c := by
  intro c hc
  refine h ?_
  unfold evOp
  rw [hc]
/-- an operation is met, its calls too -/
theorem oper_wp {call : CallF} (hcall : CallOK E P w0 call) {σ : Sg} {m : Mem} {w : World} {o : Oper} {a : Act} {out : Out} (hnd : ∀ c, o.op ≠ .defer c) (hM : MR E w0 σ m w) (hout : OutOK E P w0 σ m w (execOp a.eval o) out)
    {r : Option Nat} {n : Nat} {K : Act → World → Prop} {Q : Exit → Act → World → Prop}
    (hv : ∀ v, out = .val v → ∀ v', VR σ v v' → K (a.put o.dst v') w)
    (hn : ∀ ob mk, out = .new ob mk → ∀ v' obj x, x.b = w.heap.size → ob.live = true → OR E σ x ob obj → (∀ (σ' : Sg) id, σ' id = some x → VR σ' (mk.val id) v') → K (a.put o.dst v') (w.alloc obj))
    (he : ∀ v m', out = .eff v m' → ∀ v' w' σ', VR σ' v v' → MR E w0 σ' m' w' → FG σ m w σ' m' w' → K (a.put o.dst v') w')
    (hc : ∀ f args, out = .enter f args → call f args m ≠ [] ∧ ∀ q ∈ call f args m, ∀ v' w' σ', FG σ m w σ' q.2 w' → VR σ' q.1 v' → MR E w0 σ' q.2 w' → K (a.put o.dst v') w') : o.wpIn (WF r) n P a w K Q := by
  unfold Oper.wpIn
  refine ⟨fun _ _ => trivial, ?_⟩
  rw [Oper.semAt_eq _ _ _ hnd]
  cases out with
  | val v =>
    obtain ⟨nx, v', h1, h2, h3⟩ := hout
    rw [h1]
    have hgo := hv v rfl v' h3
    cases nx <;> simp only [nextVal, Option.some.injEq] at h2 <;> first | (cases h2; done) | (subst h2; exact hgo)
  | new ob mk =>
    obtain ⟨v', obj, x, h1, h2, h3, h4, h5⟩ := hout
    rw [h1]
    exact hn ob mk rfl v' obj x h2 h3 h4 h5
  | eff v m' =>
    obtain ⟨nx, v', w', σ', h1, h2, h3, hm', hf'⟩ := hout
    rw [h1]
    have hgo := he v m' rfl v' w' σ' h3 hm' hf'
    cases nx <;> simp only [nextVal, Option.some.injEq] at h2 <;> first | (cases h2; done) | (subst h2; exact hgo)
  | enter f args =>
    obtain ⟨hne, hgo⟩ := hc f args rfl
    cases f with
    | fn f =>
      obtain ⟨args', h1, h2⟩ := hout
      rw [h1, Oper.uponIn_enter]
      refine ⟨WF_depth r, callsIn_W ((hcall.fn f args m hne σ w args' h2 hM).mono ?_)⟩
      rintro e w' ⟨q, hq, σ', v', rfl, hf', hv', hm'⟩
      exact hgo q hq v' w' σ' hf' hv' hm'
    | yld i =>
      obtain ⟨args', x, h0, h1, h2⟩ := hout
      obtain ⟨f, tmps, as, body, g1, g2⟩ := hcall.yld i args m hne σ w args' x h0 h2 hM
      rw [h1, g1, Oper.uponIn_round]
      refine ⟨WF_depth r, (g2 r _).mono ?_⟩
      rintro e w' ⟨q, hq, σ', v', rfl, hf', hv', hm'⟩
      exact hgo q hq v' w' σ' hf' hv' hm'
theorem evOps_wp (hE : EOK E P) {call : CallF} (hcall : CallOK E P w0 call) {r : Option Nat} {n : Nat} {N : Nat} {ops : Array Oper} {Q : Exit → Act → World → Prop} : ∀ (l : List Oper) (k : Nat), ops.toList.drop k = l → ∀ (t : T Value) (m : Mem) (σ : Sg) (a : Act) (w : World),
    evOps E call N ops l t m ≠ [] → TR σ N t a → MR E w0 σ m w →
    (∀ r ∈ evOps E call N ops l t m, ∀ σ' a' w', FG σ m w σ' r.2 w' → TR σ' N r.1 a' → MR E w0 σ' r.2 w' → a'.defers = a.defers → Q .normal a' w') → wpOpsIn (WF r) n P ops Q (List.range' k l.length) a w := by
  intro l
  induction l with
  | nil =>
    intro k _ t m σ a w _ hT hM hQ
    exact hQ (t, m) (by simp [evOps]) σ a w (FG.refl σ m w) hT hM rfl
  | cons o l ih =>
    intro k hk t m σ a w hne hT hM hQ
    have hok : ops[k]? = some o := by
      have : (ops.toList.drop k)[0]? = some o := by rw [hk]; rfl
      simpa using this
    have hk' : ops.toList.drop (k + 1) = l := by
      rw [← List.drop_drop, hk]; rfl
    simp only [List.length_cons, List.range'_succ, wpOpsIn, hok]
    have hput : ∀ (d : Option Tmp) (v : Value), (a.put d v).defers = a.defers := by intro d v; cases d <;> rfl
    simp only [evOps] at hne hQ
    split at hne
    · exact absurd rfl hne
    · rename_i hw
      rw [hw] at hQ
      simp only at hQ
      rw [wanted_sound hT hw]
      simp only [Bool.false_eq_true, if_false]
      exact ⟨fun _ _ => trivial, ih (k + 1) hk' _ m σ _ w hne (hT.put o.dst (VR.undef σ)) hM (fun r hr σ' a' w' h1 h2 h3 h4 => hQ r hr σ' a' w' h1 h2 h3 (h4.trans (hput _ _)))⟩
    · rename_i hw
      rw [hw] at hQ
      simp only at hQ
      rw [wanted_sound hT hw]
      simp only [if_true]
      have hsrc : evOp E (evalT t) o m ≠ [] := by intro e; rw [e] at hne; exact hne rfl
      obtain ⟨out, hmem, hout⟩ := evOp_sound (P := P) (m := m) (w := w) hE hM (evalT_sound hT) o hsrc
      obtain ⟨hne', hsub⟩ := bindL_ne hne out hmem
      have hQ' := fun r hr => hQ r (hsub r hr)
      refine oper_wp hcall (not_defer hsrc) hM hout ?_ ?_ ?_ ?_
      · rintro v rfl v' h3
        exact ih (k + 1) hk' _ m σ _ w hne' (hT.put o.dst h3) hM (fun r hr σ' a' w' g1 g2 g3 g4 => hQ' r hr σ' a' w' g1 g2 g3 (g4.trans (hput _ _)))
      · rintro ob mk rfl v' obj x h2 h3 h4 h5
        obtain ⟨hm', hf'⟩ := hM.new (id := m.n) (hM.fresh m.n (Nat.le_refl _)) (n' := m.n + 1) (by omega) (by omega) h2 h4
        have hf' := hf' (Nat.le_refl _)
        exact ih (k + 1) hk' _ _ _ _ _ hne' ((hT.mono hf'.ext).put o.dst (h5 _ _ (if_pos rfl))) hm' (fun r hr σ' a' w' g1 g2 g3 g4 => hQ' r hr σ' a' w' (hf'.trans g1) g2 g3 (g4.trans (hput _ _)))
      · rintro v m' rfl v' w' σ' h3 hm' hf'
        exact ih (k + 1) hk' _ _ _ _ _ hne' ((hT.mono hf'.ext).put o.dst h3) hm' (fun r hr σ' a' w' g1 g2 g3 g4 => hQ' r hr σ' a' w' (hf'.trans g1) g2 g3 (g4.trans (hput _ _)))
      · rintro f args rfl
        simp only at hne' hsub
        refine ⟨by intro e; rw [e] at hne'; exact hne' rfl, ?_⟩
        intro q hq v' w' σ' hf' hv' hm'
        obtain ⟨hne2, hsub2⟩ := bindL_ne hne' q hq
        exact ih (k + 1) hk' _ _ _ _ _ hne2 ((hT.mono hf'.ext).put o.dst hv') hm' (fun r2 hr2 σ2 a2 w2 g1 g2 g3 g4 => hQ' r2 (hsub2 r2 hr2) σ2 a2 w2 (hf'.trans g1) g2 g3 (g4.trans (hput _ _)))
end Go.AE
namespace Go.AE
open Go.RowKit
variable {E : Env} {P : Program} {w0 : World}
/-! ### equal values -/
theorem veq_sound : ∀ n, (∀ a b, veq n a b = true → a = b) ∧ (∀ l r, veqL n l r = true → l = r) := by
  intro n
  induction n with
  | zero => exact ⟨fun a b h => by simp [veq] at h, fun l r h => by simp [veqL] at h⟩
  | succ n ih =>
    obtain ⟨ih1, ih2⟩ := ih
    have arr : ∀ {x y : Array Value}, veqL n x.toList y.toList = true → x = y := fun h => Array.ext' (ih2 _ _ h)
    constructor
    · intro a b h
      unfold veq at h
      split at h <;> first
        | (simp only [Bool.and_eq_true] at h
           simp_all [Nat.beq_eq]
           done)
        | (cases h; done)
        | skip
      · rename_i p q; have : p = q := by simpa using h
        rw [this]
      · simp only [Bool.and_eq_true, beq_iff_eq] at h
        rw [kcode_inj h.1, h.2]
      · rename_i p q
        have h1 : p.data.toList = q.data.toList := by simpa using h
        have : p = q := ByteArray.ext (Array.ext' h1)
        rw [this]
      · rw [Nat.eq_of_beq_eq_true h]
      · simp only [Bool.and_eq_true] at h
        rw [Nat.eq_of_beq_eq_true h.1.1, arr h.1.2, arr h.2]
      · simp only [Bool.and_eq_true] at h
        rw [Nat.eq_of_beq_eq_true h.1, ih1 _ _ h.2]
      · rw [arr h]
      · rw [arr h]
    · intro l r h
      unfold veqL at h
      split at h
      · rfl
      · simp only [Bool.and_eq_true] at h
        rw [ih1 _ _ h.1, ih2 _ _ h.2]
      · cases h
/-! ### what an operation looks at -/
theorem callA_congr {ρ ρ2 : Operand → Value} (c : Call) (m : Mem) (h : ∀ x ∈ c.operands, ρ x = ρ2 x) : callA E ρ c m = callA E ρ2 c m := by
  have ha : ∀ x ∈ c.args, ρ x = ρ2 x := fun x hx => h x (by simp [Call.operands, hx])
  have h1 : ∀ {x : Operand}, c.args.toList = [x] → ρ x = ρ2 x := fun hx => ha _ (by rw [← Array.mem_toList_iff, hx]; simp)
  have h2 : ∀ {x y : Operand}, c.args.toList = [x, y] → ρ x = ρ2 x ∧ ρ y = ρ2 y := fun hx => ⟨ha _ (by rw [← Array.mem_toList_iff, hx]; simp), ha _ (by rw [← Array.mem_toList_iff, hx]; simp)⟩
  have h3 : c.args.toList.map ρ = c.args.toList.map ρ2 := List.map_congr_left fun x hx => ha x (Array.mem_toList_iff.1 hx)
  unfold callA
  split
  · split
    · rename_i hx; rw [h1 hx]
    · rfl
  · split
    · rename_i hx; rw [(h2 hx).1, (h2 hx).2]
    · rfl
  · split
    · rename_i hx; rw [(h2 hx).1, (h2 hx).2]
    · rfl
  · split
    · rename_i hx; rw [(h2 hx).1, (h2 hx).2]
    · rfl
  · split
    · rename_i hx; rw [(h2 hx).1, (h2 hx).2]
    · rfl
  · split
    · rename_i hx; rw [(h2 hx).1, (h2 hx).2]
    · rfl
  · rename_i f hc
    have hf : ρ f = ρ2 f := h f (by simp [Call.operands, hc])
    rw [hf, h3]
  · rename_i r name hc
    have hf : ρ r = ρ2 r := h r (by simp [Call.operands, hc])
    rw [hf, h3]
  · rfl
theorem evOp_congr {ρ ρ2 : Operand → Value} (o : Oper) (m : Mem) (h : ∀ x ∈ o.op.operands, ρ x = ρ2 x) : evOp E ρ o m = evOp E ρ2 o m := by
  unfold evOp
  have omap : ∀ {x : Option Operand}, (∀ y, x = some y → ρ y = ρ2 y) → x.map ρ = x.map ρ2 := by
    intro x hx; cases x with
    | none => rfl
    | some y => simp [hx y rfl]
  have amap : ∀ {x : Array Operand}, (∀ y ∈ x, ρ y = ρ2 y) → x.map ρ = x.map ρ2 := fun hx => Array.ext' (by
    rw [Array.toList_map, Array.toList_map]; exact List.map_congr_left fun y hy => hx y (Array.mem_toList_iff.1 hy))
  have pmap : ∀ {x : Array (Nat × Operand)}, (∀ p ∈ x, ρ p.2 = ρ2 p.2) → x.toList.map (fun p => (p.1, ρ p.2)) = x.toList.map (fun p => (p.1, ρ2 p.2)) := fun hx => List.map_congr_left fun y hy => by rw [hx y (Array.mem_toList_iff.1 hy)]
  cases hop : o.op <;> rw [hop] at h <;> simp only [Op.operands] at h <;> first
    | rfl
    | (simp only [List.mem_toArray, List.mem_cons, List.not_mem_nil, or_false, forall_eq_or_imp, forall_eq] at h
       simp only [h]
       done)
    | skip
  case build t parts => simp only [pmap fun p hp => h p.2 (by rw [List.mem_toArray]; exact List.mem_map.2 ⟨p, Array.mem_toList_iff.2 hp, rfl⟩)]
  case buildSlice t len parts => simp only [pmap fun p hp => h p.2 (by rw [List.mem_toArray]; exact List.mem_map.2 ⟨p, Array.mem_toList_iff.2 hp, rfl⟩)]
  case makeFunc fn first captured => simp only [amap fun y hy => h y (Array.mem_append.2 (.inl hy)), amap fun y hy => h y (Array.mem_append.2 (.inr hy))]
  case makeMap t r => cases r <;> rfl
  case slice t x lo hi mx =>
    have e0 : ρ x = ρ2 x := h x (by simp)
    have e1 : lo.map ρ = lo.map ρ2 := omap fun y hy => h y (by simp [hy])
    have e2 : hi.map ρ = hi.map ρ2 := omap fun y hy => h y (by simp [hy])
    have e3 : mx.map ρ = mx.map ρ2 := omap fun y hy => h y (by simp [hy])
    simp only [e0, e1, e2, e3]
  case call c => simp only [callA_congr c m h]
theorem evOp_memFree {ρ : Operand → Value} (o : Oper) (m m2 : Mem) (h : memFree o.op = true) : evOp E ρ o m = evOp E ρ o m2 := by
  unfold evOp
  cases hop : o.op <;> rw [hop] at h <;> first
    | (cases h; done)
    | rfl
    | skip
  case makeMap t r => cases r <;> rfl
  case call c =>
    simp only [memFree] at h
    unfold callA
    split at h <;> first | (cases h; done) | (rename_i hc; simp only [hc])
/-- the operation is met with values that fit at its operands alone -/
theorem evOp_at (hE : EOK E P) {σ : Sg} {m : Mem} {w : World} (h : MR E w0 σ m w) {ρ ρ' : Operand → Value} (o : Oper) (hρ : ∀ x ∈ o.op.operands, VR σ (ρ x) (ρ' x)) (hne : evOp E ρ o m ≠ []) : ∃ out ∈ evOp E ρ o m, OutOK E P w0 σ m w (execOp ρ' o) out := by
  classical
  have hc : evOp E (fun x => if x ∈ o.op.operands then ρ x else bad) o m = evOp E ρ o m := evOp_congr o m fun x hx => by simp [hx]
  rw [← hc] at hne ⊢
  refine evOp_sound hE h (fun x => ?_) o hne
  by_cases hx : x ∈ o.op.operands
  · simp only [hx, if_true]; exact hρ x hx
  · simp only [hx, if_false]; exact .any _
/-! ### the edges -/
theorem orEdges_spec {acc : List Nat} : ∀ {l : List Edge} {s j : Nat}, (orEdges acc l s).testBit j = true → s.testBit j = true ∨ ∃ e ∈ l, Region.binds .any e = true ∧ (e.on = j ∨ (acc.getD e.on 0).testBit j = true) := by
  intro l
  induction l with
  | nil => intro s j h; exact .inl h
  | cons e l ih =>
    intro s j h
    simp only [orEdges] at h
    rcases ih h with h1 | ⟨x, hx, h2⟩
    · split at h1
      · rename_i hb
        rw [Nat.testBit_or, Nat.testBit_or] at h1
        simp only [Bool.or_eq_true] at h1
        rcases h1 with (h1 | h1) | h1
        · exact .inl h1
        · refine .inr ⟨e, by simp, hb, .inl ?_⟩
          rw [Nat.testBit_two_pow] at h1
          simpa using h1
        · exact .inr ⟨e, by simp, hb, .inr h1⟩
      · exact .inl h1
    · exact .inr ⟨x, by simp [hx], h2⟩
/-- each mask is reckoned off the ones before it -/
theorem masks_spec : ∀ (l : List Oper) (acc : List Nat), (∃ rest, masks l acc = acc ++ rest ∧ rest.length = l.length) ∧ ∀ (i : Nat) (o : Oper), l[i]? = some o → (masks l acc)[acc.length + i]? = some (orEdges ((masks l acc).take (acc.length + i)) o.after.toList 0) := by
  intro l
  induction l with
  | nil => intro acc; exact ⟨⟨[], by simp [masks], rfl⟩, fun i o h => by simp at h⟩
  | cons o l ih =>
    intro acc
    obtain ⟨⟨rest, h1, h2⟩, h3⟩ := ih (acc ++ [orEdges acc o.after.toList 0])
    simp only [masks]
    refine ⟨⟨orEdges acc o.after.toList 0 :: rest, by rw [h1]; simp, by simp [h2]⟩, fun i p hp => ?_⟩
    cases i with
    | zero =>
      cases hp
      rw [h1]
      simp
    | succ i =>
      have h4 := h3 i p (by simpa using hp)
      simp only [List.length_append, List.length_cons, List.length_nil] at h4
      rw [show acc.length + (i + 1) = acc.length + (0 + 1) + i from by omega]
      exact h4
/-- what has been listed is closed under the masks -/
theorem masks_closed {ops : Array Oper} {D : Nat → Bool} (hD : ∀ (i : Nat) (o : Oper), ops.toList[i]? = some o → D i = true → ∀ e ∈ o.after.toList, Region.binds .any e = true → D e.on = true) :
    ∀ (i j : Nat), D i = true → ((masks ops.toList []).getD i 0).testBit j = true → D j = true := by
  intro i
  induction i using Nat.strongRecOn with
  | _ i ih =>
    intro j hi hb
    have h3 := (masks_spec ops.toList []).2 i
    simp only [List.length_nil, Nat.zero_add] at h3
    cases ho : ops.toList[i]? with
    | none =>
      obtain ⟨rest, h1, h2⟩ := (masks_spec ops.toList []).1
      have hlen : (masks ops.toList []).length = ops.toList.length := by rw [h1]; simpa using h2
      have hge : ops.toList.length ≤ i := by
        rcases Nat.lt_or_ge i ops.toList.length with h | h
        · rw [List.getElem?_eq_getElem h] at ho; cases ho
        · exact h
      rw [List.getD_eq_getElem?_getD, List.getElem?_eq_none (by omega)] at hb
      simp at hb
    | some o =>
      rw [List.getD_eq_getElem?_getD, h3 o ho] at hb
      simp only [Option.getD_some] at hb
      rcases orEdges_spec hb with h1 | ⟨e, he, hbi, h1⟩
      · simp at h1
      · have hon := hD i o ho hi e he hbi
        rcases h1 with rfl | h1
        · exact hon
        · by_cases hlt : e.on < i
          · refine ih e.on hlt j hon ?_
            have : ((masks ops.toList []).take i).getD e.on 0 = (masks ops.toList []).getD e.on 0 := by
              rw [List.getD_eq_getElem?_getD, List.getD_eq_getElem?_getD, List.getElem?_take, if_pos hlt]
            rwa [this] at h1
          · rw [List.getD_eq_getElem?_getD, List.getElem?_eq_none (by simp; omega)] at h1
            simp at h1
theorem edgesOK_spec : ∀ {l : List Oper} {j : Nat}, edgesOK l j = true → ∀ (i : Nat) (o : Oper), l[i]? = some o → ∀ e ∈ o.after.toList, Region.binds .any e = true → e.on < j + i := by
  intro l
  induction l with
  | nil => intro j _ i o h; simp at h
  | cons p l ih =>
    intro j h i o ho e he hb
    simp only [edgesOK] at h
    cases h1 : (p.after.toList.all fun e => !Region.binds .any e || Nat.blt e.on j) with
    | false => rw [h1] at h; cases h
    | true =>
      rw [h1] at h
      cases i with
      | zero =>
        cases ho
        have := List.all_eq_true.1 h1 e he
        rw [hb] at this
        simp only [Bool.not_true, Bool.false_or] at this
        exact Nat.le_of_ble_eq_true this
      | succ i =>
        have := ih h i o (by simpa using ho) e he hb
        omega
theorem conflOK_spec {ops : Array Oper} {B : List Nat} {o : Oper} {b : Nat} : ∀ {l : List Oper} {i : Nat}, conflOK ops B o b l i = true → ∀ (k : Nat) (p : Oper), l[k]? = some p → confl ops p o = true → b.testBit (i + k) = true := by
  intro l
  induction l with
  | nil => intro i _ k p h; simp at h
  | cons q l ih =>
    intro i h k p hp hc
    simp only [conflOK] at h
    cases k with
    | zero =>
      cases hp
      rw [hc] at h
      simp only at h
      cases hb : Nat.testBit b i with
      | true => first | exact hb | rfl
      | false => rw [hb] at h; cases h
    | succ k =>
      have h2 : conflOK ops B o b l (i + 1) = true := by
        split at h
        · cases hb : Nat.testBit b i with
          | true => rw [hb] at h; exact h
          | false => rw [hb] at h; cases h
        · exact h
      have := ih h2 k p (by simpa using hp) hc
      rw [show i + (k + 1) = i + 1 + k from by omega]; exact this
theorem tmpsOK_spec {ops : Array Oper} {B : List Nat} : ∀ {l : List Oper} {j : Nat}, tmpsOK ops B l j = true → ∀ (k : Nat) (o : Oper), l[k]? = some o → ∀ (i : Nat) (p : Oper), i < j + k → ops.toList[i]? = some p → confl ops p o = true → (B.getD (j + k) 0).testBit i = true := by
  intro l
  induction l with
  | nil => intro j _ k o h; simp at h
  | cons q l ih =>
    intro j h k o ho i p hi hp hc
    simp only [tmpsOK] at h
    cases h1 : conflOK ops B q (B.getD j 0) (ops.toList.take j) 0 with
    | false => rw [h1] at h; cases h
    | true =>
      rw [h1] at h
      cases k with
      | zero =>
        cases ho
        have := conflOK_spec h1 i p (by rw [List.getElem?_take, if_pos (by omega)]; exact hp) hc
        simpa using this
      | succ k =>
        have := ih h k o (by simpa using ho) i p (by omega) hp hc
        rw [show j + (k + 1) = j + 1 + k from by omega]; exact this
theorem memN_iff {x : Nat} : ∀ {l : List Nat}, memN x l = true ↔ x ∈ l := by
  intro l
  induction l with
  | nil => simp [memN]
  | cons y l ih =>
    simp only [memN]
    cases h : Nat.beq x y with
    | true => simp [Nat.eq_of_beq_eq_true h]
    | false =>
      have : x ≠ y := fun e => by rw [e, Nat.beq_refl] at h; cases h
      simp [this, ih]
end Go.AE
