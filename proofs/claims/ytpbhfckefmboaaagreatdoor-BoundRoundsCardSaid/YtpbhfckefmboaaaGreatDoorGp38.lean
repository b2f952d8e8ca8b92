/- AEDrawD, AEDrawE: in one text. -/
import Derived.Test.YtpbhfckefmboaaaGreatDoorGp37
set_option linter.unusedVariables false
set_option linter.unusedSimpArgs false
set_option linter.unusedSectionVars false
namespace Go.AE
open Go.RowKit
variable {E : Env} {P : Program} {w0 : World}
section
variable {call : CallF} {ops : Array Oper} {B : List Nat} {n N N0 : Nat} {M0 : Mem} {t0 : T Value} {S : Nat → DS} {c : Nat → Cl}
theorem effOK_of {S : Nat → DS} {i : Nat} {o : Oper} {b : Nat} {v : Value} {m : Mem} (hc : clsD E call ops n N0 M0 (S i) o b = some (.eff v m)) : effOK E n N0 (S i) b m = true := by
  unfold clsD at hc
  split at hc
  · cases hc
  · cases hc
  · split at hc
    · split at hc <;> cases hc
    · split at hc
      · split at hc <;> cases hc
      · split at hc
        · rename_i h; cases hc; exact h
        · cases hc
      · split at hc
        · split at hc
          · rename_i h; cases hc; exact h
          · cases hc
        · cases hc
      · cases hc
theorem effOK_spec {S : DS} {b : Nat} {m : Mem} (h : effOK E n N0 S b m = true) : (∀ x ∈ S.effs, b.testBit x.1 = true) ∧ (∀ j, j < n → (S.mask ||| b).testBit j = true ∨ notLive m.t (N0 + j) = true) ∧ ∀ x ∈ S.reads, b.testBit x.1 = true ∨ readsAs E x.2.1 x.2.2.1 x.2.2.2 m = true := by
  unfold effOK at h
  cases h1 : allBits b S.effs with
  | false => rw [h1] at h; cases h
  | true =>
    rw [h1] at h
    cases h2 : freshIds N0 (S.mask ||| b) m.t n with
    | false => rw [h2] at h; cases h
    | true =>
      rw [h2] at h
      exact ⟨allBits_spec h1, freshIds_spec h2, checkReads_spec h⟩
structure Ctx (E : Env) (call : CallF) (ops : Array Oper) (B : List Nat) (n N N0 : Nat) (M0 : Mem) (t0 : T Value) (S : Nat → DS) (c : Nat → Cl) : Prop where
  run : RunOK E call ops B n N N0 M0 t0 S c
  stt : Stat ops B n
  M0n : M0.n = N0 + n
  M0f : ∀ j, j < n → notLive M0.t (N0 + j) = true
theorem Ctx.lt (X : Ctx E call ops B n N N0 M0 t0 S c) {e : Nat} (he : e < n) : ∃ o, ops.toList[e]? = some o := ⟨_, List.getElem?_eq_getElem (by rw [X.stt.len]; exact he)⟩
theorem isEff_iff {c : Cl} : c.isEff = true ↔ ∃ v m, c = .eff v m := by cases c <;> simp [Cl.isEff]
theorem isAlloc_iff {c : Cl} : c.isAlloc = true ↔ ∃ o k, c = .alloc o k := by cases c <;> simp [Cl.isAlloc]
theorem Ctx.effs (X : Ctx E call ops B n N N0 M0 t0 S c) {e k : Nat} (hk : k < n) (hek : e < k) (h1 : (c e).isEff = true) (h2 : (c k).isEff = true) : (B.getD k 0).testBit e = true := by
  obtain ⟨o, ho⟩ := X.lt hk
  obtain ⟨v, m, hc⟩ := isEff_iff.1 h2
  obtain ⟨v', m', hc'⟩ := isEff_iff.1 h1
  have h := X.run.cls k o ho
  rw [hc] at h
  have := (effOK_spec (effOK_of h)).1 (e, m') (((recs X.run k (by rw [X.stt.len]; omega)).effs e m').2 ⟨hek, v', hc'⟩)
  exact this
/-- masks lead back -/
theorem Ctx.back (X : Ctx E call ops B n N N0 M0 t0 S c) {k j : Nat} (h : (B.getD k 0).testBit j = true) : j ≤ k := by
  have := X.stt.closed (D := fun x => decide (x ≤ k)) (fun i o ho hi e he hb => by
    have h1 := X.stt.back i o ho e he hb
    simp only [decide_eq_true_eq] at hi ⊢
    omega) k j (by simp) h
  simpa using this
theorem chain_same {D D' : Nat → Bool} : ∀ k, (∀ e, e < k → (c e).isEff = true → D e = D' e) → chainOf c M0 D k = chainOf c M0 D' k := by
  intro k
  induction k with
  | zero => intro _; rfl
  | succ k ih =>
    intro h
    have ih' := ih (fun e he => h e (by omega))
    simp only [chainOf]
    cases hc : c k with
    | eff v m =>
      have := h k (by omega) (by rw [hc]; rfl)
      rw [this]
      cases D' k
      · exact ih'
      · rfl
    | _ => cases D k <;> cases D' k <;> exact ih'
theorem chain_cut {D : Nat → Bool} {i : Nat} : ∀ k, i ≤ k → (∀ e, i ≤ e → e < k → (c e).isEff = true → D e = false) → chainOf c M0 D k = chainOf c M0 D i := by
  intro k
  induction k with
  | zero => intro h _; obtain rfl : i = 0 := by omega
            rfl
  | succ k ih =>
    intro h h2
    rcases Nat.lt_or_ge k i with h3 | h3
    · obtain rfl : i = k + 1 := by omega
      rfl
    · rw [← ih h3 (fun e he hek => h2 e he (by omega))]
      simp only [chainOf]
      cases hc : c k with
      | eff v m => rw [h2 k h3 (by omega) (by rw [hc]; rfl)]
      | _ => cases D k <;> rfl
theorem chain_cases {D : Nat → Bool} : ∀ k, ((∀ e, e < k → D e = true → (c e).isEff = false) ∧ chainOf c M0 D k = M0) ∨ ∃ e v m, e < k ∧ D e = true ∧ c e = .eff v m ∧ (∀ e', e' < k → e < e' → D e' = true → (c e').isEff = false) ∧ chainOf c M0 D k = m := by
  intro k
  induction k with
  | zero => exact .inl ⟨fun e he => by omega, rfl⟩
  | succ k ih =>
    by_cases h : D k = true ∧ (c k).isEff = true
    · obtain ⟨v, m, hc⟩ := isEff_iff.1 h.2
      exact .inr ⟨k, v, m, by omega, h.1, hc, fun e' he hk => by omega, by simp only [chainOf, h.1, hc]⟩
    · have hch : chainOf c M0 D (k + 1) = chainOf c M0 D k := by
        simp only [chainOf]
        cases hc : c k with
        | eff v m =>
          cases hd : D k with
          | false => rfl
          | true => exact absurd ⟨hd, by rw [hc]; rfl⟩ h
        | _ => cases D k <;> rfl
      have hk : D k = true → (c k).isEff = false := fun hd => by
        cases he : (c k).isEff with
        | false => rfl
        | true => exact absurd ⟨hd, he⟩ h
      rcases ih with ⟨h1, h2⟩ | ⟨e, v, m, h1, h2, h3, h4, h5⟩
      · refine .inl ⟨fun e he hd => ?_, by rw [hch, h2]⟩
        rcases Nat.lt_or_ge e k with h6 | h6
        · exact h1 e h6 hd
        · obtain rfl : e = k := by omega
          exact hk hd
      · refine .inr ⟨e, v, m, by omega, h2, h3, fun e' he hee hd => ?_, by rw [hch, h5]⟩
        rcases Nat.lt_or_ge e' k with h6 | h6
        · exact h4 e' h6 hee hd
        · obtain rfl : e' = k := by omega
          exact hk hd
/-- numbers that are kept for operations not taken in: nothing lives there -/
theorem Ctx.chainFresh (X : Ctx E call ops B n N N0 M0 t0 S c) {D : Nat → Bool} (hD : Down ops D) {j : Nat} (hj : j < n) : Mg c B n D j ∨ notLive (chainOf c M0 D n).t (N0 + j) = true := by
  rcases chain_cases (c := c) (M0 := M0) (D := D) n with ⟨_, h2⟩ | ⟨e, v, m, h1, h2, h3, _, h5⟩
  · rw [h2]; exact .inr (X.M0f j hj)
  · rw [h5]
    obtain ⟨o, ho⟩ := X.lt h1
    have hcl := X.run.cls e o ho
    rw [h3] at hcl
    rcases (effOK_spec (effOK_of hcl)).2.1 j hj with h6 | h6
    · rw [Nat.testBit_or, Bool.or_eq_true] at h6
      rcases h6 with h6 | h6
      · obtain ⟨e', he', hef, hb⟩ := ((recs X.run e (by rw [X.stt.len]; omega)).mask j).1 h6
        have hDe : D e' = true := X.stt.closed hD e e' h2 (X.effs h1 he' hef (by rw [h3]; rfl))
        exact .inl ⟨e', by omega, hDe, hef, hb⟩
      · exact .inl ⟨e, h1, h2, by rw [h3]; rfl, h6⟩
    · exact .inr h6
theorem PM_hit {D : Nat → Bool} {j : Nat} {ob : AObj} {mk : Mk} (hc : c j = .alloc ob mk) (hd : D j = true) (hm : ¬ Mg c B n D j) : ∀ k, j < k → (PM c B n N0 M0 D k).get (N0 + j) = some ob := by
  intro k
  induction k with
  | zero => intro h; omega
  | succ k ih =>
    intro h
    rcases Nat.lt_or_ge j k with h1 | h1
    · have := ih h1
      simp only [PM]
      split
      · split
        · rw [T.get_set_ne _ _ (by omega)]; exact this
        · exact this
      · exact this
    · obtain rfl : j = k := by omega
      simp only [PM, hc]
      rw [if_pos ⟨hd, hm⟩, T.get_set_same]
theorem PM_inv {D : Nat → Bool} {id : Nat} {o : AObj} : ∀ k, (PM c B n N0 M0 D k).get id = some o → (∃ j mk, j < k ∧ id = N0 + j ∧ c j = .alloc o mk ∧ D j = true ∧ ¬ Mg c B n D j) ∨
    ((chainOf c M0 D n).t.get id = some o ∧ ∀ j, j < k → id = N0 + j → ¬ ((c j).isAlloc = true ∧ D j = true ∧ ¬ Mg c B n D j)) := by
  intro k
  induction k with
  | zero => intro h; exact .inr ⟨h, fun j hj => by omega⟩
  | succ k ih =>
    intro h
    simp only [PM] at h
    have more : (PM c B n N0 M0 D k).get id = some o → ¬ (id = N0 + k ∧ (c k).isAlloc = true ∧ D k = true ∧ ¬ Mg c B n D k) → (∃ j mk, j < k + 1 ∧ id = N0 + j ∧ c j = .alloc o mk ∧ D j = true ∧ ¬ Mg c B n D j) ∨
        ((chainOf c M0 D n).t.get id = some o ∧ ∀ j, j < k + 1 → id = N0 + j → ¬ ((c j).isAlloc = true ∧ D j = true ∧ ¬ Mg c B n D j)) := by
      intro h1 h2
      rcases ih h1 with ⟨j, mk, h3, h4⟩ | ⟨h3, h4⟩
      · exact .inl ⟨j, mk, by omega, h4⟩
      · refine .inr ⟨h3, fun j hj he hh => ?_⟩
        rcases Nat.lt_or_ge j k with h5 | h5
        · exact h4 j h5 he hh
        · obtain rfl : j = k := by omega
          exact h2 ⟨he, hh⟩
    split at h
    · rename_i ob mk hc
      split at h
      · rename_i hd
        by_cases e : N0 + k = id
        · subst e
          rw [T.get_set_same] at h; cases h
          exact .inl ⟨k, mk, by omega, rfl, hc, hd.1, hd.2⟩
        · rw [T.get_set_ne _ _ e] at h
          exact more h (fun h2 => e h2.1.symm)
      · rename_i hd
        exact more h (fun h2 => hd ⟨h2.2.2.1, h2.2.2.2⟩)
    · rename_i hna
      refine more h (fun h2 => ?_)
      obtain ⟨ob, mk, hc⟩ := isAlloc_iff.1 h2.2.1
      exact hna ob mk hc
theorem PM_miss {D : Nat → Bool} {id : Nat} : ∀ k, (∀ j, j < k → id = N0 + j → ¬ ((c j).isAlloc = true ∧ D j = true ∧ ¬ Mg c B n D j)) → (PM c B n N0 M0 D k).get id = (chainOf c M0 D n).t.get id := by
  intro k
  induction k with
  | zero => intro _; rfl
  | succ k ih =>
    intro h
    have ih' := ih (fun j hj => h j (by omega))
    simp only [PM]
    split
    · rename_i ob mk hc
      split
      · rename_i hd
        rw [T.get_set_ne _ _ (fun e => h k (by omega) e.symm ⟨by rw [hc]; rfl, hd.1, hd.2⟩)]
        exact ih'
      · exact ih'
    · exact ih'
theorem addAllocs_inv {b : Nat} {id : Nat} {o : AObj} {t : T AObj} : ∀ {l : List (Nat × AObj)}, (addAllocs N0 b l t).get id = some o → (∃ j, (j, o) ∈ l ∧ id = N0 + j ∧ b.testBit j = true) ∨ t.get id = some o := by
  intro l
  induction l with
  | nil => intro h; exact .inr h
  | cons x l ih =>
    intro h
    obtain ⟨j, ob⟩ := x
    simp only [addAllocs] at h
    cases hb : Nat.testBit b j with
    | true =>
      rw [hb] at h
      simp only [cond] at h
      by_cases e : N0 + j = id
      · subst e
        rw [T.get_set_same] at h; cases h
        exact .inl ⟨j, by simp, rfl, hb⟩
      · rw [T.get_set_ne _ _ e] at h
        rcases ih h with ⟨k, h1, h2⟩ | h1
        · exact .inl ⟨k, by simp [h1], h2⟩
        · exact .inr h1
    | false =>
      rw [hb] at h
      rcases ih h with ⟨k, h1, h2⟩ | h1
      · exact .inl ⟨k, by simp [h1], h2⟩
      · exact .inr h1
theorem put_vals {N : Nat} {σ : Sg} {f : Nat → Value} {a : Act} (hsz : a.tmps.size = N) (h : ∀ τ, VR σ (f τ) (a.tmps.getD τ undef)) {v v' : Value} (hv : VR σ v v') (d : Option Tmp) : ∀ τ, VR σ (if d = some τ ∧ τ < N then v else f τ) ((a.put d v').tmps.getD τ undef) := by
  intro τ
  cases d with
  | none => simpa [Act.put] using h τ
  | some d =>
    simp only [Act.put, Option.some.injEq]
    by_cases e : d = τ
    · subst e
      by_cases hN : d < N
      · rw [if_pos ⟨rfl, hN⟩]
        have : d < a.tmps.size := by rw [hsz]; exact hN
        simp [this, hv]
      · rw [if_neg (fun h => hN h.2)]
        have : a.tmps.setIfInBounds d v' = a.tmps := by
          apply Array.ext_getElem?
          intro q
          rw [Array.getElem?_setIfInBounds]
          by_cases e : d = q
          · subst e; rw [if_pos rfl, if_neg (by rw [hsz]; exact hN), Array.getElem?_eq_none (by rw [hsz]; exact Nat.not_lt.1 hN)]
          · rw [if_neg e]
        rw [this]; exact h d
    · rw [if_neg (fun h => e h.1)]
      have : (a.tmps.setIfInBounds d v').getD τ undef = a.tmps.getD τ undef := by
        simp [e]
      rw [this]; exact h τ
theorem put_defers (a : Act) (d : Option Tmp) (v : Value) : (a.put d v).defers = a.defers := by cases d <;> rfl
theorem put_size (a : Act) (d : Option Tmp) (v : Value) : (a.put d v).tmps.size = a.tmps.size := by cases d <;> simp [Act.put]
structure Inv (E : Env) (w0 : World) (ops : Array Oper) (B : List Nat) (n N N0 : Nat) (M0 : Mem) (t0 : T Value) (c : Nat → Cl) (σ0 : Sg) (m0 : Mem) (wst : World) (ds : List Deferred) (D : Nat → Bool) (σ : Sg) (a : Act) (w : World) : Prop where
  size : a.tmps.size = N
  tr : ∀ τ, VR σ (W c ops N N0 t0 D n τ) (a.tmps.getD τ undef)
  mem : MR E w0 σ ⟨(chainOf c M0 D n).n, PM c B n N0 M0 D n⟩ w
  num : N0 + n ≤ (chainOf c M0 D n).n
  fresh : ∀ i, i < n → ¬ (D i = true ∧ (c i).isAlloc = true) → σ (N0 + i) = none
  fg : FG σ0 m0 wst σ ⟨(chainOf c M0 D n).n, PM c B n N0 M0 D n⟩ w
  defers : a.defers = ds
variable {σ0 : Sg} {m0 : Mem} {wst : World} {ds : List Deferred}
theorem Mg_add {D : Nat → Bool} {i j : Nat} (hc : (c i).isEff = false) : Mg c B n (addD D i) j ↔ Mg c B n D j := by
  constructor
  · rintro ⟨e, h1, h2, h3, h4⟩
    rcases addD_iff.1 h2 with h5 | rfl
    · exact ⟨e, h1, h5, h3, h4⟩
    · rw [hc] at h3; cases h3
  · rintro ⟨e, h1, h2, h3⟩; exact ⟨e, h1, addD_iff.2 (.inl h2), h3⟩
theorem chain_add {D : Nat → Bool} {i : Nat} (hc : (c i).isEff = false) (k : Nat) : chainOf c M0 (addD D i) k = chainOf c M0 D k :=
  chain_same k (fun e _ he => addD_ne (fun h => by subst h; rw [hc] at he; cases he))
theorem PM_add {D : Nat → Bool} {i : Nat} (hc : (c i).isEff = false) (ha : (c i).isAlloc = false) : ∀ k, PM c B n N0 M0 (addD D i) k = PM c B n N0 M0 D k := by
  intro k
  induction k with
  | zero => simp only [PM]; rw [chain_add hc]
  | succ k ih =>
    simp only [PM]
    rw [ih]
    split
    · rename_i ob mk hck
      have hik : i ≠ k := fun e => by subst e; rw [hck] at ha; cases ha
      rw [addD_ne hik]
      have : Mg c B n (addD D i) k ↔ Mg c B n D k := Mg_add hc
      by_cases h : D k = true ∧ ¬ Mg c B n D k
      · rw [if_pos h, if_pos ⟨h.1, fun h2 => h.2 (this.1 h2)⟩]
      · rw [if_neg h, if_neg (fun h2 => h ⟨h2.1, fun h3 => h2.2 (this.2 h3)⟩)]
    · rfl
/-- nothing is turned -/
theorem Inv.same (X : Ctx E call ops B n N N0 M0 t0 S c) {D : Nat → Bool} (hD : Down ops D) {i : Nat} {o : Oper} (r : Ready ops B D i o) {σ : Sg} {a : Act} {w : World} (I : Inv E w0 ops B n N N0 M0 t0 c σ0 m0 wst ds D σ a w)
    (hc : (c i).isEff = false) (ha : (c i).isAlloc = false) {v' : Value} (hv : VR σ ((c i).val N0 i) v') : Inv E w0 ops B n N N0 M0 t0 c σ0 m0 wst ds (addD D i) σ (a.put o.dst v') w := by
  have e1 := chain_add (M0 := M0) (D := D) hc n
  have e2 := PM_add (B := B) (n := n) (N0 := N0) (M0 := M0) (D := D) hc ha n
  refine ⟨by rw [put_size]; exact I.size, fun τ => ?_, by rw [e1, e2]; exact I.mem, by rw [e1]; exact I.num, fun j hj h => I.fresh j hj (fun h2 => h ⟨addD_iff.2 (.inl h2.1), h2.2⟩), by rw [e1, e2]; exact I.fg, by rw [put_defers]; exact I.defers⟩
  rw [W_add X.stt hD r]
  exact put_vals I.size I.tr hv o.dst τ
end
end Go.AE
namespace Go.AE
open Go.RowKit
variable {E : Env} {P : Program} {w0 : World}
section
variable {call : CallF} {ops : Array Oper} {B : List Nat} {n N N0 : Nat} {M0 : Mem} {t0 : T Value} {S : Nat → DS} {c : Nat → Cl} {σ0 : Sg} {m0 : Mem} {wst : World} {ds : List Deferred}
theorem valO_new {v : Option Value} {ob : AObj} {mk : Mk} (h : valO v = [.new ob mk]) : False := by cases v <;> cases h
theorem new_live {ρ : Operand → Value} {o : Oper} {m : Mem} {ob : AObj} {mk : Mk} (hf : memFree o.op = true) (h : evOp E ρ o m = [.new ob mk]) : ob.live = true := by
  unfold evOp at h
  cases hop : o.op <;> rw [hop] at h hf <;> first
    | (cases hf; done)
    | (exact (valO_new h).elim)
    | skip
  all_goals simp only at h
  case move => cases h
  case assign => cases h
  case pick => split at h <;> cases h
  case alloc => split at h <;> cases h; rfl
  case box => split at h <;> cases h; rfl
  case buildSlice t len parts =>
    cases hb : buildSliceA E t len (parts.toList.map fun p => (p.1, ρ p.2)) with
    | none => rw [hb] at h; cases h
    | some out =>
      rw [hb] at h
      simp only [ofO, List.cons.injEq, and_true] at h
      subst h
      unfold buildSliceA at hb
      split at hb
      · split at hb
        · split at hb
          · cases hb; rfl
          · cases hb
        · cases hb
      · cases hb
  case nilCheck =>
    split at h
    · cases h
    · cases h
    · split at h
      · split at h <;> cases h
      · cases h
    · cases h
    · cases h
    · cases h
  case unOp =>
    split at h <;> first | (cases h; done) | exact (valO_new h).elim
  case makeInterface =>
    split at h
    · split at h <;> cases h
    · cases h
  case makeFunc => cases h
  case makeMap t r => cases r <;> cases h; rfl
  case makeSlice t l c =>
    cases hb : makeSliceA E t (ρ l) (ρ c) with
    | none => rw [hb] at h; cases h
    | some out =>
      rw [hb] at h
      simp only [ofO, List.cons.injEq, and_true] at h
      subst h
      unfold makeSliceA at hb
      split at hb
      · split at hb
        · cases hb; rfl
        · cases hb
      · cases hb
  case extract =>
    split at h
    · split at h <;> cases h
    · cases h
  case call c =>
    simp only [memFree] at hf
    unfold callA at h
    split at hf
    · rename_i hc
      rw [hc] at h
      simp only at h
      split at h <;> first | (cases h; done) | exact (valO_new h).elim
    · rename_i hc
      rw [hc] at h
      simp only at h
      split at h <;> first | (cases h; done) | exact (valO_new h).elim
    · cases hf
theorem cls_alloc {S : DS} {o : Oper} {b : Nat} {ob : AObj} {mk : Mk} (h : clsD E call ops n N0 M0 S o b = some (.alloc ob mk)) : wanted ops o S.t = some true ∧ memFree o.op = true ∧ evOp E (evalT S.t) o M0 = [.new ob mk] := by
  unfold clsD at h
  split at h
  · cases h
  · cases h
  · rename_i hw
    split at h
    · rename_i hf
      split at h
      · cases h
      · rename_i he; cases h; exact ⟨hw, hf, he⟩
      · cases h
    · split at h
      · split at h <;> cases h
      · split at h <;> cases h
      · split at h
        · split at h <;> cases h
        · cases h
      · cases h
theorem alloc_live {S : DS} {o : Oper} {b : Nat} {ob : AObj} {mk : Mk} (h : clsD E call ops n N0 M0 S o b = some (.alloc ob mk)) : ob.live = true := new_live (cls_alloc h).2.1 (cls_alloc h).2.2
/-- something new -/
theorem Inv.alloc (X : Ctx E call ops B n N N0 M0 t0 S c) {D : Nat → Bool} (hD : Down ops D) {i : Nat} {o : Oper} (r : Ready ops B D i o) {σ : Sg} {a : Act} {w : World} (I : Inv E w0 ops B n N N0 M0 t0 c σ0 m0 wst ds D σ a w)
    (hm0 : m0.n = N0) {ob : AObj} {mk : Mk} (hc : c i = .alloc ob mk) {v' : Value} {obj : Obj} {x : Inf} (hx : x.b = w.heap.size) (hor : OR E σ x ob obj) (hmk : ∀ (σ' : Sg) id, σ' id = some x → VR σ' (mk.val id) v') :
    ∃ σ', Inv E w0 ops B n N N0 M0 t0 c σ0 m0 wst ds (addD D i) σ' (a.put o.dst v') (w.alloc obj) := by
  have hi : i < n := by rw [← X.stt.len]; exact getElem?_lt r.op
  have hce : (c i).isEff = false := by rw [hc]; rfl
  have hid : σ (N0 + i) = none := I.fresh i hi (fun h => by rw [r.out] at h; cases h.1)
  have hnum := I.num
  obtain ⟨hm, _⟩ := I.mem.new (id := N0 + i) hid (n' := (chainOf c M0 D n).n) (Nat.le_refl _) (by omega) hx hor
  have hext : Ext σ (fun j => if j = N0 + i then some x else σ j) := fun j y hy => by
    have : j ≠ N0 + i := fun e => by rw [e, hid] at hy; cases hy
    simp [this, hy]
  have e1 := chain_add (M0 := M0) (D := D) hce n
  have hMgi : ¬ Mg c B n (addD D i) i := fun h => by
    obtain ⟨e, h1, h2, h3, h4⟩ := (Mg_add hce).1 h
    have := X.stt.closed hD e i h2 h4
    rw [r.out] at this; cases this
  have hsub : ∀ id q, (PM c B n N0 M0 (addD D i) n).get id = some q → q.live = true → ((PM c B n N0 M0 D n).set (N0 + i) ob).get id = some q := by
    intro id q hq _
    rcases PM_inv n hq with ⟨j, mk', h1, rfl, h3, h4, h5⟩ | ⟨h1, h2⟩
    · by_cases e : i = j
      · subst e; rw [hc] at h3; cases h3; rw [T.get_set_same]
      · rw [T.get_set_ne _ _ (by omega)]
        rw [addD_ne e] at h4
        exact PM_hit h3 h4 (fun h => h5 ((Mg_add hce).2 h)) n h1
    · have hne : N0 + i ≠ id := fun e => h2 i hi e.symm ⟨by rw [hc]; rfl, addD_iff.2 (.inr rfl), hMgi⟩
      rw [T.get_set_ne _ _ hne, PM_miss n (fun j hj he hh => h2 j hj he ⟨hh.1, addD_iff.2 (.inl hh.2.1), fun h => hh.2.2 ((Mg_add hce).1 h)⟩), ← e1]
      exact h1
  refine ⟨fun j => if j = N0 + i then some x else σ j, ?_⟩
  have hmem : MR E w0 (fun j => if j = N0 + i then some x else σ j) ⟨(chainOf c M0 (addD D i) n).n, PM c B n N0 M0 (addD D i) n⟩ (w.alloc obj) := hm.sub (by rw [e1]) hsub
  refine ⟨by rw [put_size]; exact I.size, fun τ => ?_, hmem, by rw [e1]; exact I.num, fun j hj h => ?_, ?_, by rw [put_defers]; exact I.defers⟩
  · rw [W_add X.stt hD r]
    refine put_vals (f := fun τ => W c ops N N0 t0 D n τ) I.size (fun τ => (I.tr τ).mono hext) (v := (c i).val N0 i) ?_ o.dst τ
    rw [hc]
    exact hmk _ _ (if_pos rfl)
  · have hji : j ≠ i := fun e => h ⟨by rw [e]; exact addD_iff.2 (.inr rfl), by rw [e, hc]; rfl⟩
    have : N0 + j ≠ N0 + i := by omega
    simp only [this, if_false]
    exact I.fresh j hj (fun h2 => h ⟨addD_iff.2 (.inl h2.1), h2.2⟩)
  · refine ⟨I.fg.ext.trans hext, Nat.le_trans I.fg.size (by simp), fun b hb hl => ?_, fun b hb => ?_, by rw [e1]; exact I.fg.n, fun j hj => ?_⟩
    · rw [Below.heap_alloc w obj b (Nat.lt_of_lt_of_le hb I.fg.size)]; exact I.fg.frame b hb hl
    · obtain ⟨id, q, y, h1, h2, h3, h4⟩ := hb
      have h5 := hsub id q h1 h2
      by_cases e : N0 + i = id
      · subst e
        simp only [if_true, Option.some.injEq] at h3
        subst h3
        exact .inr (by have := I.fg.size; omega)
      · rw [T.get_set_ne _ _ e] at h5
        have e' : id ≠ N0 + i := fun h => e h.symm
        simp only [e', if_false] at h3
        exact I.fg.grow b ⟨id, q, y, h5, h2, h3, h4⟩
    · have : j ≠ N0 + i := by omega
      simp only [this, if_false]
      exact I.fg.old j hj
/-- an effect -/
theorem Inv.eff (X : Ctx E call ops B n N N0 M0 t0 S c) {D : Nat → Bool} (hD : Down ops D) {i : Nat} {o : Oper} (r : Ready ops B D i o) {σ : Sg} {a : Act} {w : World} (I : Inv E w0 ops B n N N0 M0 t0 c σ0 m0 wst ds D σ a w)
    (hm0 : m0.n = N0) {v : Value} {m' : Mem} (hc : c i = .eff v m') :
    MR E w0 σ ⟨(S i).chain.n, addAllocs N0 (B.getD i 0) (S i).allocs (S i).chain.t⟩ w ∧ ∀ {σ' : Sg} {v' : Value} {w' : World}, FG σ ⟨(S i).chain.n, addAllocs N0 (B.getD i 0) (S i).allocs (S i).chain.t⟩ w σ' m' w' → MR E w0 σ' m' w' → VR σ' v v' →
      Inv E w0 ops B n N N0 M0 t0 c σ0 m0 wst ds (addD D i) σ' (a.put o.dst v') w' := by
  have hi : i < n := by rw [← X.stt.len]; exact getElem?_lt r.op
  have hce : (c i).isEff = true := by rw [hc]; rfl
  have hcl := X.run.cls i o r.op
  rw [hc] at hcl
  obtain ⟨hbits, hfr, _⟩ := effOK_spec (effOK_of hcl)
  have rc := recs X.run i (by rw [X.stt.len]; omega)
  -- which effects are in D
  have hin : ∀ e, e < n → (c e).isEff = true → (D e = true ↔ e < i) := by
    intro e he hef
    constructor
    · intro hd
      rcases Nat.lt_or_ge e i with h1 | h1
      · exact h1
      · by_cases h2 : e = i
        · subst h2; rw [r.out] at hd; cases hd
        · have := X.stt.closed hD e i hd (X.effs he (by omega) hce hef)
          rw [r.out] at this; cases this
    · intro h1
      exact r.before e (X.effs hi h1 hef hce)
  have hch : chainOf c M0 D n = (S i).chain := by
    rw [rc.chain, chain_cut (i := i) n (by omega) (fun e he hen hef => by
      cases hd : D e with
      | false => rfl
      | true => have := (hin e hen hef).1 hd; omega)]
    exact chain_same i (fun e he hef => (hin e (by omega) hef).2 he)
  have hMg : ∀ j, Mg c B n D j ↔ ∃ e, e < i ∧ (c e).isEff = true ∧ (B.getD e 0).testBit j = true := by
    intro j
    constructor
    · rintro ⟨e, h1, h2, h3, h4⟩; exact ⟨e, (hin e h1 h3).1 h2, h3, h4⟩
    · rintro ⟨e, h1, h2, h3⟩; exact ⟨e, by omega, (hin e (by omega) h2).2 h1, h2, h3⟩
  have hMg' : ∀ j, Mg c B n (addD D i) j ↔ Mg c B n D j ∨ (B.getD i 0).testBit j = true := by
    intro j
    constructor
    · rintro ⟨e, h1, h2, h3, h4⟩
      rcases addD_iff.1 h2 with h5 | rfl
      · exact .inl ⟨e, h1, h5, h3, h4⟩
      · exact .inr h4
    · rintro (⟨e, h1, h2, h3⟩ | h)
      · exact ⟨e, h1, addD_iff.2 (.inl h2), h3⟩
      · exact ⟨i, hi, addD_iff.2 (.inr rfl), hce, h⟩
  -- what the effect is met with is part of what is there
  have hsub : ∀ id q, (addAllocs N0 (B.getD i 0) (S i).allocs (S i).chain.t).get id = some q → q.live = true → (PM c B n N0 M0 D n).get id = some q := by
    intro id q hq hl
    rcases addAllocs_inv hq with ⟨j, h1, rfl, h3⟩ | h1
    · obtain ⟨h4, ⟨mk, h5⟩, h6⟩ := (rc.allocs j q).1 h1
      refine PM_hit h5 (r.before j h3) (fun h => ?_) n (by omega)
      obtain ⟨e, g1, g2, g3⟩ := (hMg j).1 h
      have hje := X.back g3
      have hne : j ≠ e := fun e2 => by subst e2; rw [h5] at g2; cases g2
      rw [h6 e g1 (by omega) g2] at g3; cases g3
    · rw [PM_miss n, hch]
      · exact h1
      · rintro j hj rfl ⟨g1, g2, g3⟩
        rcases X.chainFresh hD hj with h4 | h4
        · exact g3 h4
        · rw [hch] at h4
          rw [notLive_spec h4 q h1] at hl; cases hl
  have hme : MR E w0 σ ⟨(S i).chain.n, addAllocs N0 (B.getD i 0) (S i).allocs (S i).chain.t⟩ w := I.mem.sub (by rw [hch]) hsub
  refine ⟨hme, fun {σ' v' w'} hF hM hV => ?_⟩
  have hch' : chainOf c M0 (addD D i) n = m' := by
    rw [chain_cut (i := i + 1) n (by omega) (fun e he hen hef => by
      rw [addD_ne (by omega)]
      cases hd : D e with
      | false => rfl
      | true => have := (hin e hen hef).1 hd; omega)]
    simp only [chainOf, addD_iff.2 (.inr rfl), hc]
  have hmn : (S i).chain.n ≤ m'.n := hF.n
  have hnum := I.num
  rw [hch] at hnum
  -- what is pending, in the old world
  have pend : ∀ k ob mk, k < n → c k = .alloc ob mk → addD D i k = true → ¬ Mg c B n (addD D i) k → ∃ x ob', σ (N0 + k) = some x ∧ w0.heap.size ≤ x.b ∧ w.heap[x.b]? = some ob' ∧ OR E σ x ob ob' ∧ (PM c B n N0 M0 D n).get (N0 + k) = some ob ∧ ob.live = true ∧ ¬ LiveB σ ⟨(S i).chain.n, addAllocs N0 (B.getD i 0) (S i).allocs (S i).chain.t⟩ x.b := by
    intro k ob mk hk hck hdk hmk
    have hki : i ≠ k := fun e => by subst e; rw [hck] at hc; cases hc
    rw [addD_ne hki] at hdk
    have hmk1 : ¬ Mg c B n D k := fun h => hmk ((hMg' k).2 (.inl h))
    have hmk2 : (B.getD i 0).testBit k = false := by
      cases hb : (B.getD i 0).testBit k with
      | false => rfl
      | true => exact absurd ((hMg' k).2 (.inr hb)) hmk
    have hget : (PM c B n N0 M0 D n).get (N0 + k) = some ob := PM_hit hck hdk hmk1 n hk
    have hlive : ob.live = true := by
      cases hl : ob with
      | dead =>
        exfalso
        -- no operation lays a dead thing
        have hcl2 := X.lt hk
        obtain ⟨o2, ho2⟩ := hcl2
        have h2 := X.run.cls k o2 ho2
        rw [hck, hl] at h2
        have := alloc_live h2
        cases this
      | _ => rfl
    obtain ⟨x, ob', h1, h2, h3, h4⟩ := I.mem.obj _ _ hget hlive
    refine ⟨x, ob', h1, h2, h3, h4, hget, hlive, ?_⟩
    rintro ⟨id, q, y, g1, g2, g3, g4⟩
    have g5 := hsub id q g1 g2
    have g6 : id = N0 + k := I.mem.inj id (N0 + k) q ob y x g5 g2 hget hlive g3 h1 g4
    subst g6
    rcases addAllocs_inv g1 with ⟨j, f1, f2, f3⟩ | f1
    · have : j = k := by omega
      subst this
      rw [hmk2] at f3; cases f3
    · rcases X.chainFresh hD hk with h5 | h5
      · exact hmk1 h5
      · rw [hch] at h5
        rw [notLive_spec h5 q f1] at g2; cases g2
  have hmem : ∀ k, k ≤ n → MR E w0 σ' ⟨m'.n, PM c B n N0 M0 (addD D i) k⟩ w' := by
    intro k
    induction k with
    | zero =>
      intro _
      simp only [PM, hch']
      exact hM
    | succ k ih =>
      intro hk
      have ih' := ih (by omega)
      simp only [PM]
      split
      · rename_i ob mk hck
        split
        · rename_i hd
          obtain ⟨x, ob', h1, h2, h3, h4, h5, h6, h7⟩ := pend k ob mk (by omega) hck hd.1 hd.2
          have hlt : x.b < w.heap.size := (Array.getElem?_eq_some_iff.1 h3).1
          refine ih'.putBack (x := x) (hF.ext _ _ h1) h2 ?_ (by rw [hF.frame x.b hlt h7]; exact h3) (h4.mono hF.ext)
          rintro ⟨id, q, y, g1, g2, g3, g4⟩
          rcases PM_inv k g1 with ⟨j, mk', f1, rfl, f3, f4, f5⟩ | ⟨f1, _⟩
          · obtain ⟨y0, _, e1, _, _, _, e5, e6, _⟩ := pend j q mk' (by omega) f3 f4 f5
            have : y0 = y := by have := hF.ext _ _ e1; rw [g3] at this; exact (Option.some.inj this).symm
            subst this
            have := I.mem.inj _ _ _ _ _ _ e5 e6 h5 h6 e1 h1 g4
            omega
          · rw [hch'] at f1
            rcases hF.grow x.b ⟨id, q, y, f1, g2, g3, g4⟩ with f2 | f2
            · exact h7 f2
            · omega
        · exact ih'
      · exact ih'
  refine ⟨by rw [put_size]; exact I.size, fun τ => ?_, by rw [hch']; exact hmem n (Nat.le_refl _), by rw [hch']; omega, fun j hj h => ?_, ?_, by rw [put_defers]; exact I.defers⟩
  · rw [W_add X.stt hD r]
    refine put_vals (f := fun τ => W c ops N N0 t0 D n τ) I.size (fun τ => (I.tr τ).mono hF.ext) (v := (c i).val N0 i) ?_ o.dst τ
    rw [hc]; exact hV
  · rw [hF.old (N0 + j) (by show N0 + j < (S i).chain.n; omega)]
    exact I.fresh j hj (fun h2 => h ⟨addD_iff.2 (.inl h2.1), h2.2⟩)
  · rw [hch']
    refine ⟨I.fg.ext.trans hF.ext, Nat.le_trans I.fg.size hF.size, fun b hb hl => ?_, fun b hb => ?_, ?_, fun j hj => ?_⟩
    · rw [hF.frame b (Nat.lt_of_lt_of_le hb I.fg.size) (fun hl2 => by
        rcases I.fg.grow b (hl2.sub hsub) with h1 | h1
        · exact hl h1
        · omega)]
      exact I.fg.frame b hb hl
    · obtain ⟨id, q, y, h1, h2, h3, h4⟩ := hb
      rcases PM_inv n h1 with ⟨j, mk', f1, rfl, f3, f4, f5⟩ | ⟨f1, _⟩
      · obtain ⟨y0, _, e1, _, _, _, e5, e6, _⟩ := pend j q mk' f1 f3 f4 f5
        have : y0 = y := by have := hF.ext _ _ e1; rw [h3] at this; exact (Option.some.inj this).symm
        subst this
        exact I.fg.grow b ⟨_, q, y0, e5, e6, e1, h4⟩
      · rw [hch'] at f1
        rcases hF.grow b ⟨id, q, y, f1, h2, h3, h4⟩ with f2 | f2
        · exact I.fg.grow b (f2.sub hsub)
        · exact .inr (Nat.le_trans I.fg.size f2)
    · have := I.fg.n
      simp only at this
      rw [hch] at this
      show m0.n ≤ m'.n
      omega
    · rw [hF.old j (by show j < (S i).chain.n; omega)]
      exact I.fg.old j hj
end
end Go.AE
