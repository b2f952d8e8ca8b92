/- Functions that defer calls: an evaluator of them, and what it says of every world: an answer known beforehand. -/
import Derived.Test.YtkbbpjknakajeaaAEFast2
import Derived.DefersIn
namespace Go.AE
open Go.RowKit
noncomputable section
/-- deferred calls: functions and their arguments, the last first -/
abbrev DL := List (FuncId × List Value)
def deferA (ev : Operand → Value) (c : Call) : Option (FuncId × List Value) :=
  match c.callee with
  | .value f => match ev f with
    | .func (.func g) first cap => some (g, first.toList ++ c.args.toList.map ev ++ cap.toList)
    | _ => none
  | _ => none
def dcall (o : Op) : Option Call :=
  match o with
  | .defer c => some c
  | _ => none
def evOpsD (E : Env) (call : CallF) (N : Nat) (ops : Array Oper) : List Oper → T Value → Mem → DL → List (T Value × Mem × DL)
  | [], t, m, ds => [(t, m, ds)]
  | o :: l, t, m, ds => match dcall o.op with
    | some c => match wanted ops o t, deferA (evalT t) c with
      | some true, some d => evOpsD E call N ops l (put N t o.dst und) m (d :: ds)
      | _, _ => []
    | none => bindL (evOps E call N ops [o] t m) fun r => evOpsD E call N ops l r.1 r.2 ds
abbrev RD := Ex × T Value × Mem × DL
def evCodeD (E : Env) (call : CallF) (N : Nat) : Code → T Value → Mem → DL → List RD
  | .skip, t, m, ds => [(.normal, t, m, ds)]
  | .region _ ops d, t, m, ds => match d with
    | true => bindL (evDraw E call N ops t m) fun r => [(.normal, r.1, r.2, ds)]
    | false => bindL (evOpsD E call N ops ops.toList t m ds) fun r => [(.normal, r.1, r.2.1, r.2.2)]
  | .seq a b, t, m, ds => bindL (evCodeD E call N a t m ds) fun
    | (.normal, t, m, ds) => evCodeD E call N b t m ds
    | r => [r]
  | .cond c a b, t, m, ds => match evalT t c with
    | .bool true => evCodeD E call N a t m ds
    | .bool false => evCodeD E call N b t m ds
    | _ => []
  | .block id b, t, m, ds => bindL (evCodeD E call N b t m ds) fun
    | (.exit id', t, m, ds) => [(cond (Nat.beq id id') .normal (.exit id'), t, m, ds)]
    | r => [r]
  | .exit id, t, m, ds => [(.exit id, t, m, ds)]
  | .ret, t, m, ds => [(.ret, t, m, ds)]
  | _, _, _, _ => []
def defEnd (E : Env) (fn : Func) (r : RD) : List (Value × Mem) :=
  match r with
  | (.exit _, _, _, _) => []
  | (_, t, m, []) => match resultsA E t m fn.results.toList with
    | some l => [(tupled l, m)]
    | none => []
  | _ => []
/-- a deferred call -/
def evDef (E : Env) (call : CallF) (d : FuncId × List Value) (m : Mem) : List (Value × Mem) :=
  match E.funcs.get d.1 with
  | none => []
  | some fn => match fn.body with
    | none => []
    | some c => match Nat.ble d.2.length fn.ntmps with
      | false => []
      | true => bindL (evCodeD E call fn.ntmps c (T.ofList d.2) m []) (defEnd E fn)
def evLeave (E : Env) (call : CallF) : DL → Mem → List Mem
  | [], m => [m]
  | d :: ds, m => bindL (evDef E call d m) fun r => evLeave E call ds r.2
def fnDEnd (E : Env) (call : CallF) (fn : Func) (r : RD) : List (Value × Mem) :=
  match r with
  | (.exit _, _, _, _) => []
  | (_, t, m, ds) => bindL (evLeave E call ds m) fun m => match resultsA E t m fn.results.toList with
    | some l => [(tupled l, m)]
    | none => []
/-- a function that defers -/
def evFnD (E : Env) (call : CallF) (f : FuncId) (args : List Value) (m : Mem) : List (Value × Mem) :=
  match E.funcs.get f with
  | none => []
  | some fn => match fn.body with
    | none => []
    | some c => match Nat.ble args.length fn.ntmps with
      | false => []
      | true => bindL (evCodeD E call fn.ntmps c (T.ofList args) m []) (fnDEnd E call fn)
/-- what is known beforehand: some functions that defer -/
def defS (E : Env) (fuel d : Nat) (isD : FuncId → Bool) (S : Sums) : Nat → Sums
  | 0 => S
  | k + 1 => fun f args m => match isD f with
    | true => some (evFnD E (evCallF E (defS E fuel d isD S k) fuel d) f args m)
    | false => S f args m
variable {E : Env} {P : Program} {w0 : World}
def DRel (σ : Sg) (d : FuncId × List Value) (x : Deferred) : Prop := ∃ cap args, x = { target := .fn (.func d.1) cap, args := args } ∧ VRL σ d.2 (args ++ cap).toList
inductive DLR (σ : Sg) : DL → List Deferred → Prop where
  | nil : DLR σ [] []
  | cons {d : FuncId × List Value} {x : Deferred} {ds : DL} {xs : List Deferred} (h : DRel σ d x) (t : DLR σ ds xs) : DLR σ (d :: ds) (x :: xs)
theorem DLR.mono {σ σ' : Sg} (he : Ext σ σ') {ds : DL} {xs : List Deferred} (h : DLR σ ds xs) : DLR σ' ds xs := by
  induction h with
  | nil => exact .nil
  | cons h _ ih => obtain ⟨cap, args, h1, h2⟩ := h; exact .cons ⟨cap, args, h1, h2.mono he⟩ ih
theorem DLR.nil_inv {σ : Sg} {xs : List Deferred} (h : DLR σ [] xs) : xs = [] := by cases h; rfl
theorem deferA_sound {σ : Sg} {N : Nat} {t : T Value} {a : Act} (hT : TR σ N t a) {c : Call} {d : FuncId × List Value} (h : deferA (evalT t) c = some d) (ty : TypeId) (w : World) :
    ∃ x, (resolve a.eval c ty).run P w = .ok x w ∧ DRel σ d x := by
  unfold deferA at h
  split at h
  · rename_i f hc
    split at h
    · rename_i g first cap hf
      cases h
      have hv := evalT_sound hT f
      rw [hf] at hv
      obtain ⟨first', cap', hv', hfst, hcap⟩ := hv.func_inv
      refine ⟨{ target := .fn (.func g) cap', args := first' ++ c.args.map a.eval }, ?_, cap', _, rfl, ?_⟩
      · simp [resolve, hc, hv', Deferred.ofValue]
      · simp only [Array.toList_append, Array.toList_map]
        exact (hfst.append (VRL.map (evalT_sound hT) _)).append hcap
    · cases h
  · cases h
theorem evOne_wp (hE : EOK E P) {call : CallF} (hcall : CallOK E P w0 call) {n : Nat} {N : Nat} {ops : Array Oper} {Q : Exit → Act → World → Prop} {o : Oper} {k : Nat} (hok : ops[k]? = some o) {rest : List Nat} {t : T Value} {m : Mem} {σ : Sg} {a : Act} {w : World}
    (hne : evOps E call N ops [o] t m ≠ []) (hT : TR σ N t a) (hM : MR E w0 σ m w)
    (hQ : ∀ r ∈ evOps E call N ops [o] t m, ∀ σ' a' w', FG σ m w σ' r.2 w' → TR σ' N r.1 a' → MR E w0 σ' r.2 w' → a'.defers = a.defers → wpOpsIn (WF none) n P ops Q rest a' w') : wpOpsIn (WF none) n P ops Q (k :: rest) a w := by
  simp only [wpOpsIn, hok]
  have hput : ∀ (d : Option Tmp) (v : Value), (a.put d v).defers = a.defers := by intro d v; cases d <;> rfl
  simp only [evOps] at hne hQ
  split at hne
  · exact absurd rfl hne
  · rename_i hw
    rw [hw] at hQ
    simp only at hQ
    rw [wanted_sound hT hw]
    simp only [Bool.false_eq_true, if_false]
    exact ⟨fun _ _ => trivial, hQ _ (List.mem_singleton.2 rfl) σ _ w (FG.refl σ m w) (hT.put o.dst (VR.undef σ)) hM (hput _ _)⟩
  · rename_i hw
    rw [hw] at hQ
    simp only at hQ
    rw [wanted_sound hT hw]
    simp only [if_true]
    have hsrc : evOp E (evalT t) o m ≠ [] := by intro e; rw [e] at hne; exact hne rfl
    obtain ⟨out, hmem, hout⟩ := evOp_sound (P := P) (m := m) (w := w) hE hM (evalT_sound hT) o hsrc
    obtain ⟨hne', hsub⟩ := bindL_ne hne out hmem
    have hQ' := fun r hr => hQ r (hsub r hr)
    refine oper_wp hcall (not_defer hsrc) hM hout ?_ ?_ ?_ ?_
    · rintro v rfl v' h3
      exact hQ' _ (List.mem_singleton.2 rfl) σ _ w (FG.refl σ m w) (hT.put o.dst h3) hM (hput _ _)
    · rintro ob mk rfl v' obj x h2 h3 h4 h5
      obtain ⟨hm', hf'⟩ := hM.new (id := m.n) (hM.fresh m.n (Nat.le_refl _)) (n' := m.n + 1) (by omega) (by omega) h2 h4
      have hf' := hf' (Nat.le_refl _)
      exact hQ' _ (List.mem_singleton.2 rfl) _ _ _ hf' ((hT.mono hf'.ext).put o.dst (h5 _ _ (if_pos rfl))) hm' (hput _ _)
    · rintro v m' rfl v' w' σ' h3 hm' hf'
      exact hQ' _ (List.mem_singleton.2 rfl) _ _ _ hf' ((hT.mono hf'.ext).put o.dst h3) hm' (hput _ _)
    · rintro f args rfl
      simp only at hne' hsub
      refine ⟨by intro e; rw [e] at hne'; exact hne' rfl, ?_⟩
      intro q hq v' w' σ' hf' hv' hm'
      obtain ⟨hne2, hsub2⟩ := bindL_ne hne' q hq
      exact hQ' _ (hsub2 _ (List.mem_singleton.2 rfl)) _ _ _ hf' ((hT.mono hf'.ext).put o.dst hv') hm' (hput _ _)
theorem dcall_some {o : Op} {c : Call} (h : dcall o = some c) : o = .defer c := by
  unfold dcall at h
  split at h
  · cases h; rfl
  · cases h
theorem evOpsD_wp (hE : EOK E P) {call : CallF} (hcall : CallOK E P w0 call) {n : Nat} {N : Nat} {ops : Array Oper} {Q : Exit → Act → World → Prop} : ∀ (l : List Oper) (k : Nat), ops.toList.drop k = l → ∀ (t : T Value) (m : Mem) (ds : DL) (σ : Sg) (a : Act) (w : World),
    evOpsD E call N ops l t m ds ≠ [] → TR σ N t a → MR E w0 σ m w → DLR σ ds a.defers →
    (∀ r ∈ evOpsD E call N ops l t m ds, ∀ σ' a' w', FG σ m w σ' r.2.1 w' → TR σ' N r.1 a' → MR E w0 σ' r.2.1 w' → DLR σ' r.2.2 a'.defers → Q .normal a' w') → wpOpsIn (WF none) n P ops Q (List.range' k l.length) a w := by
  intro l
  induction l with
  | nil =>
    intro k _ t m ds σ a w _ hT hM hD hQ
    exact hQ (t, m, ds) (by simp [evOpsD]) σ a w (FG.refl σ m w) hT hM hD
  | cons o l ih =>
    intro k hk t m ds σ a w hne hT hM hD hQ
    have hok : ops[k]? = some o := by
      have : (ops.toList.drop k)[0]? = some o := by rw [hk]; rfl
      simpa using this
    have hk' : ops.toList.drop (k + 1) = l := by
      rw [← List.drop_drop, hk]; rfl
    simp only [List.length_cons, List.range'_succ]
    simp only [evOpsD] at hne hQ
    split at hne
    · rename_i c hc
      split at hne
      · rename_i d hw hd
        rw [hc] at hQ
        simp only [hw, hd] at hQ
        simp only [wpOpsIn, hok]
        rw [wanted_sound hT hw]
        simp only [if_true]
        obtain ⟨x, hx, hrel⟩ := deferA_sound (P := P) hT hd o.type w
        have hop := dcall_some hc
        unfold Oper.wpIn
        refine ⟨fun _ _ => trivial, ?_⟩
        have hrun : (o.semAt (WF none).round a.eval).run P w = .ok (.defer x) w := by
          show (execOp a.eval o).run P w = _
          simp only [execOp, hop, Sem.run_bind, hx, Result.andThen_ok, Sem.run_pure]
        rw [hrun, Oper.uponIn_defer]
        have hT' : TR σ N t { a with defers := x :: a.defers } := ⟨hT.size, hT.val⟩
        refine ih (k + 1) hk' _ m (d :: ds) σ _ w hne (hT'.put o.dst (VR.undef σ)) hM ?_ hQ
        have : ((({ a with defers := x :: a.defers } : Act).put o.dst undef)).defers = x :: a.defers := by cases o.dst <;> rfl
        rw [this]
        exact .cons hrel hD
      · exact absurd rfl hne
    · rename_i hc
      rw [hc] at hQ
      simp only at hQ
      have h0 := bindL_ne hne
      refine evOne_wp hE hcall hok (bindL_src hne) hT hM (fun r hr σ' a' w' g1 g2 g3 g4 => ?_)
      obtain ⟨h1, h2⟩ := h0 r hr
      exact ih (k + 1) hk' _ _ _ σ' a' w' h1 g2 g3 (g4 ▸ hD.mono g1.ext) (fun r2 hr2 σ2 a2 w2 k1 k2 k3 k4 => hQ r2 (h2 r2 hr2) σ2 a2 w2 (g1.trans k1) k2 k3 k4)
theorem evCodeD_wp (hE : EOK E P) (hP : P.follows .mixedOrders = true) {call : CallF} (hcall : CallOK E P w0 call) (N : Nat) : ∀ (c : Code) (n : Nat) (t : T Value) (m : Mem) (ds : DL) (σ : Sg) (a : Act) (w : World) (Q : Exit → Act → World → Prop),
    evCodeD E call N c t m ds ≠ [] → TR σ N t a → MR E w0 σ m w → DLR σ ds a.defers →
    (∀ r ∈ evCodeD E call N c t m ds, ∀ σ' a' w', FG σ m w σ' r.2.2.1 w' → TR σ' N r.2.1 a' → MR E w0 σ' r.2.2.1 w' → DLR σ' r.2.2.2 a'.defers → Q r.1.out a' w') → c.wpIn (WF none) n P Q a w := by
  intro c
  induction c with
  | skip => intro n t m ds σ a w Q _ hT hM hD hQ; exact wpIn_skip (hQ (.normal, t, m, ds) (List.mem_singleton.2 rfl) σ a w (FG.refl σ m w) hT hM hD)
  | region id ops d =>
    intro n t m ds σ a w Q hne hT hM hD hQ
    simp only [evCodeD] at hne hQ
    cases d with
    | true =>
      simp only at hne hQ
      have h0 := bindL_ne hne
      exact evDraw_wp hE hP hcall (bindL_src hne) hT hM (fun r hr σ' a' w' g1 g2 g3 g4 => hQ (.normal, r.1, r.2, ds) ((h0 r hr).2 _ (List.mem_singleton.2 rfl)) σ' a' w' g1 g2 g3 (g4 ▸ hD.mono g1.ext))
    | false =>
      simp only at hne hQ
      have h0 := bindL_ne hne
      refine wpIn_region ?_
      rw [List.range_eq_range', ← Array.length_toList]
      exact evOpsD_wp hE hcall ops.toList 0 rfl t m ds σ a w (bindL_src hne) hT hM hD (fun r hr σ' a' w' g1 g2 g3 g4 => hQ (.normal, r.1, r.2.1, r.2.2) ((h0 r hr).2 _ (List.mem_singleton.2 rfl)) σ' a' w' g1 g2 g3 g4)
  | seq x y ihx ihy =>
    intro n t m ds σ a w Q hne hT hM hD hQ
    simp only [evCodeD] at hne hQ
    have h0 := bindL_ne hne
    refine wpIn_seq (ihx n t m ds σ a w _ (bindL_src hne) hT hM hD ?_)
    rintro ⟨e, t1, m1, ds1⟩ hr σ' a' w' hf hT' hM' hd
    obtain ⟨h1, h2⟩ := h0 _ hr
    cases e with
    | normal => exact ihy n t1 m1 ds1 σ' a' w' Q h1 hT' hM' hd (fun r hr' σ2 a2 w2 g1 g2 g3 g4 => hQ r (h2 r hr') σ2 a2 w2 (hf.trans g1) g2 g3 g4)
    | exit i => exact hQ (.exit i, t1, m1, ds1) (h2 _ (List.mem_singleton.2 rfl)) σ' a' w' hf hT' hM' hd
    | ret => exact hQ (.ret, t1, m1, ds1) (h2 _ (List.mem_singleton.2 rfl)) σ' a' w' hf hT' hM' hd
  | cond x y z ihy ihz =>
    intro n t m ds σ a w Q hne hT hM hD hQ
    have hv := evalT_sound hT x
    simp only [evCodeD] at hne hQ
    split at hne
    · rename_i hx; rw [hx] at hv hQ
      exact wpIn_cond_true (hv.simple_inv rfl) (ihy n t m ds σ a w Q hne hT hM hD hQ)
    · rename_i hx; rw [hx] at hv hQ
      exact wpIn_cond_false (hv.simple_inv rfl) (ihz n t m ds σ a w Q hne hT hM hD hQ)
    · exact absurd rfl hne
  | block id y ih =>
    intro n t m ds σ a w Q hne hT hM hD hQ
    simp only [evCodeD] at hne hQ
    have h0 := bindL_ne hne
    refine wpIn_block (ih n t m ds σ a w _ (bindL_src hne) hT hM hD ?_)
    rintro ⟨e, t1, m1, ds1⟩ hr σ' a' w' hf hT' hM' hd
    obtain ⟨h1, h2⟩ := h0 _ hr
    cases e with
    | normal => exact hQ (.normal, t1, m1, ds1) (h2 _ (List.mem_singleton.2 rfl)) σ' a' w' hf hT' hM' hd
    | exit i =>
      have := hQ _ (h2 _ (List.mem_singleton.2 rfl)) σ' a' w' hf hT' hM' hd
      simp only [Ex.out, Exit.inBlock]
      by_cases e : i = id
      · rw [if_pos e]
        have hb : Nat.beq id i = true := by subst e; exact Nat.beq_refl _
        simp only [hb, cond] at this
        exact this
      · rw [if_neg e]
        have hb : Nat.beq id i = false := by
          cases h : Nat.beq id i with
          | false => rfl
          | true => exact absurd (Nat.eq_of_beq_eq_true h).symm e
        simp only [hb, cond] at this
        exact this
    | ret => exact hQ (.ret, t1, m1, ds1) (h2 _ (List.mem_singleton.2 rfl)) σ' a' w' hf hT' hM' hd
  | exit id => intro n t m ds σ a w Q _ hT hM hD hQ; exact wpIn_exit (hQ (.exit id, t, m, ds) (List.mem_singleton.2 rfl) σ a w (FG.refl σ m w) hT hM hD)
  | ret => intro n t m ds σ a w Q _ hT hM hD hQ; exact wpIn_ret (hQ (.ret, t, m, ds) (List.mem_singleton.2 rfl) σ a w (FG.refl σ m w) hT hM hD)
  | _ => intro n t m ds σ a w Q hne; exact absurd rfl hne
theorem evDef_ok (hE : EOK E P) (hP : P.follows .mixedOrders = true) {call : CallF} (hcall : CallOK E P w0 call) {n : Nat} {d : FuncId × List Value} {m : Mem} (hne : evDef E call d m ≠ []) {σ : Sg} {w : World} {args' : Array Value} (hargs : VRL σ d.2 args'.toList) (hM : MR E w0 σ m w) (u : FrameMode) :
    CallsDIn (WF none) n P d.1 args' u w fun e u' w' => u' = u ∧ After E w0 σ m w (evDef E call d m) e w' := by
  generalize hL : evDef E call d m = L at hne ⊢
  unfold evDef at hL
  split at hL
  · exact absurd hL.symm hne
  · rename_i fn hfn
    obtain ⟨hf, _, _⟩ := hE.funcs d.1 fn hfn
    split at hL
    · exact absurd hL.symm hne
    · rename_i c hb
      split at hL
      · exact absurd hL.symm hne
      · rename_i hle
        have hle' : d.2.length ≤ fn.ntmps := Nat.le_of_ble_eq_true hle
        subst hL
        have h0 := bindL_ne hne
        refine callsDIn_of_wp hf hb trivial (evCodeD_wp hE hP hcall fn.ntmps c n _ m [] σ _ w _ (bindL_src hne) (TR.enter hargs hle') hM .nil ?_)
        rintro ⟨e, t1, m1, ds1⟩ hr σ' a' w' hf' hT' hM' hd
        obtain ⟨h1, h2⟩ := h0 _ hr
        have out : ds1 = [] → ∀ vs, resultsA E t1 m1 fn.results.toList = some vs → (tupled vs, m1) ∈ bindL (evCodeD E call fn.ntmps c (T.ofList d.2) m []) (defEnd E fn) →
            a'.defers = [] ∧ ∃ v, (results fn a'.tmps).run P w' = .ok v w' ∧ After E w0 σ m w (bindL (evCodeD E call fn.ntmps c (T.ofList d.2) m []) (defEnd E fn)) (.returned v) w' := by
          intro hds vs hvs hmem
          subst hds
          obtain ⟨v', k1, k2⟩ := results_sound hE hT' hM' hvs
          refine ⟨hd.nil_inv, v', k1, (tupled vs, m1), hmem, σ', v', rfl, hf', k2, hM'⟩
        cases e with
        | exit i => exact absurd rfl h1
        | normal =>
          cases ds1 with
          | cons x xs => exact absurd rfl h1
          | nil =>
            simp only [defEnd] at h1 h2
            split at h1
            · rename_i vs hvs
              simp only [hvs] at h2
              exact out rfl vs hvs (h2 _ (List.mem_singleton.2 rfl))
            · exact absurd rfl h1
        | ret =>
          cases ds1 with
          | cons x xs => exact absurd rfl h1
          | nil =>
            simp only [defEnd] at h1 h2
            split at h1
            · rename_i vs hvs
              simp only [hvs] at h2
              exact out rfl vs hvs (h2 _ (List.mem_singleton.2 rfl))
            · exact absurd rfl h1
theorem evLeave_ok (hE : EOK E P) (hP : P.follows .mixedOrders = true) {call : CallF} (hcall : CallOK E P w0 call) {fn : Func} {tmps : Array Value} {R : Ending → World → Prop} : ∀ (ds : DL) (xs : List Deferred) (m : Mem) (σ : Sg) (w : World),
    evLeave E call ds m ≠ [] → DLR σ ds xs → MR E w0 σ m w → (∀ m' ∈ evLeave E call ds m, ∀ σ' w', FG σ m w σ' m' w' → MR E w0 σ' m' w' → LeavesIn (WF none) 0 P fn tmps R [] .returning w') → LeavesIn (WF none) 0 P fn tmps R xs .returning w := by
  intro ds
  induction ds with
  | nil =>
    intro xs m σ w _ hD hM h
    cases hD
    exact h m (List.mem_singleton.2 rfl) σ w (FG.refl σ m w) hM
  | cons d ds ih =>
    intro xs m σ w hne hD hM h
    cases hD with
    | cons hrel hD =>
      obtain ⟨cap, args, rfl, hargs⟩ := hrel
      simp only [evLeave] at hne h
      have h0 := bindL_ne hne
      have hsrc := bindL_src hne
      obtain ⟨fn', hfn'⟩ : ∃ fn', E.funcs.get d.1 = some fn' := by
        cases hq : E.funcs.get d.1 with
        | none => exact absurd (by unfold evDef; rw [hq]) hsrc
        | some fn' => exact ⟨fn', rfl⟩
      obtain ⟨hPf, hname, body, hbody⟩ := hE.funcs d.1 fn' hfn'
      have hb : ¬ fn'.body = none := by rw [hbody]; simp
      have hnm : ¬ fn'.name = "runtime.NumGoroutine" := by simpa using hname
      refine leavesIn_cons (f := d.1) (args := args ++ cap) (by simp) (WF_depth none) ?_ (fun _ _ => trivial) ?_
      · simp [invoke, callFunc, hPf, hnm, hb]
      · refine (evDef_ok hE hP hcall hsrc hargs hM .returning).mono ?_
        rintro e u' w' ⟨rfl, r, hr, σ', v', rfl, hf, _, hM'⟩
        obtain ⟨h1, h2⟩ := h0 r hr
        exact ih _ _ σ' w' h1 (hD.mono hf.ext) hM' (fun m' hm' σ2 w2 g1 g2 => h m' (h2 m' hm') σ2 w2 (hf.trans g1) g2)
theorem evFnD_ok (hE : EOK E P) (hP : P.follows .mixedOrders = true) {call : CallF} (hcall : CallOK E P w0 call) {f : FuncId} {args : List Value} {m : Mem} (hne : evFnD E call f args m ≠ []) {σ : Sg} {w : World} {args' : Array Value} (hargs : VRL σ args args'.toList) (hM : MR E w0 σ m w) :
    Calls P f args' w (After E w0 σ m w (evFnD E call f args m)) := by
  generalize hL : evFnD E call f args m = L at hne ⊢
  unfold evFnD at hL
  split at hL
  · exact absurd hL.symm hne
  · rename_i fn hfn
    obtain ⟨hf, _, _⟩ := hE.funcs f fn hfn
    split at hL
    · exact absurd hL.symm hne
    · rename_i c hb
      split at hL
      · exact absurd hL.symm hne
      · rename_i hle
        have hle' : args.length ≤ fn.ntmps := Nat.le_of_ble_eq_true hle
        subst hL
        have h0 := bindL_ne hne
        refine calls_of_W (r := none) (n := 0) (callsIn_of_wp_defers hf hb trivial (evCodeD_wp hE hP hcall fn.ntmps c 0 _ m [] σ _ w _ (bindL_src hne) (TR.enter hargs hle') hM .nil ?_))
        rintro ⟨e, t1, m1, ds1⟩ hr σ' a' w' hf' hT' hM' hd
        obtain ⟨h1, h2⟩ := h0 _ hr
        have out : bindL (evLeave E call ds1 m1) (fun m => match resultsA E t1 m fn.results.toList with
            | some l => [(tupled l, m)]
            | none => []) ≠ [] → (∀ y ∈ bindL (evLeave E call ds1 m1) (fun m => match resultsA E t1 m fn.results.toList with
            | some l => [(tupled l, m)]
            | none => []), y ∈ bindL (evCodeD E call fn.ntmps c (T.ofList args) m []) (fnDEnd E call fn)) →
            LeavesIn (WF none) 0 P fn a'.tmps (After E w0 σ m w (bindL (evCodeD E call fn.ntmps c (T.ofList args) m []) (fnDEnd E call fn))) a'.defers .returning w' := by
          intro k1 k2
          have k0 := bindL_ne k1
          refine evLeave_ok hE hP hcall ds1 _ m1 σ' w' (bindL_src k1) hd hM' (fun m' hm' σ2 w2 g1 g2 => ?_)
          obtain ⟨q1, q2⟩ := k0 m' hm'
          split at q1
          · rename_i vs hvs
            simp only [hvs] at q2
            obtain ⟨v', z1, z2⟩ := results_sound hE (hT'.mono g1.ext) g2 hvs
            exact ⟨v', z1, (tupled vs, m'), k2 _ (q2 _ (List.mem_singleton.2 rfl)), σ2, v', rfl, hf'.trans g1, z2, g2⟩
          · exact absurd rfl q1
        cases e with
        | exit i => exact absurd rfl h1
        | normal => exact out h1 h2
        | ret => exact out h1 h2
theorem defS_ok (hE : EOK E P) (hP : P.follows .mixedOrders = true) (fuel d : Nat) (isD : FuncId → Bool) {S : Sums} (hS : SOK E P w0 S) : ∀ k, SOK E P w0 (defS E fuel d isD S k) := by
  intro k
  induction k with
  | zero => exact hS
  | succ k ih =>
    intro f args m l hl hne σ w args' hargs hM
    simp only [defS] at hl
    split at hl
    · cases hl
      refine evFnD_ok hE hP ?_ hne hargs hM
      rw [evCallF_eq]
      exact evCall_ok hE hP ih fuel d
    · exact hS f args m l hl hne σ w args' hargs hM
end
end Go.AE
