/- Regions whose order is open: one operation more. -/
import Derived.Test.YtkbbpjknakajeaaAEDrawC
namespace Go.AE
open Go.RowKit
variable {E : Env} {P : Program} {w0 : World}
section
variable {call : CallF} {ops : Array Oper} {B : List Nat} {n N N0 : Nat} {M0 : Mem} {t0 : T Value} {S : Nat → DS} {c : Nat → Cl}
theorem effOK_of {S : Nat → DS} {i : Nat} {o : Oper} {b : Nat} {v : Value} {m : Mem} (hc : clsD E call ops n N0 M0 (S i) o b = some (.eff v m)) : effOK E n N0 (S i) b m = true := by
  unfold clsD at hc
  split at hc
  · cases hc
  · cases hc
  · split at hc
    · split at hc <;> cases hc
    · split at hc
      · split at hc <;> cases hc
      · split at hc
        · rename_i h; cases hc; exact h
        · cases hc
      · split at hc
        · split at hc
          · rename_i h; cases hc; exact h
          · cases hc
        · cases hc
      · cases hc
theorem effOK_spec {S : DS} {b : Nat} {m : Mem} (h : effOK E n N0 S b m = true) : (∀ x ∈ S.effs, b.testBit x.1 = true) ∧ (∀ j, j < n → (S.mask ||| b).testBit j = true ∨ notLive m.t (N0 + j) = true) ∧ ∀ x ∈ S.reads, b.testBit x.1 = true ∨ readsAs E x.2.1 x.2.2.1 x.2.2.2 m = true := by
  unfold effOK at h
  cases h1 : allBits b S.effs with
  | false => rw [h1] at h; cases h
  | true =>
    rw [h1] at h
    cases h2 : freshIds N0 (S.mask ||| b) m.t n with
    | false => rw [h2] at h; cases h
    | true =>
      rw [h2] at h
      exact ⟨allBits_spec h1, freshIds_spec h2, checkReads_spec h⟩
structure Ctx (E : Env) (call : CallF) (ops : Array Oper) (B : List Nat) (n N N0 : Nat) (M0 : Mem) (t0 : T Value) (S : Nat → DS) (c : Nat → Cl) : Prop where
  run : RunOK E call ops B n N N0 M0 t0 S c
  stt : Stat ops B n
  M0n : M0.n = N0 + n
  M0f : ∀ j, j < n → notLive M0.t (N0 + j) = true
theorem Ctx.lt (X : Ctx E call ops B n N N0 M0 t0 S c) {e : Nat} (he : e < n) : ∃ o, ops.toList[e]? = some o := ⟨_, List.getElem?_eq_getElem (by rw [X.stt.len]; exact he)⟩
theorem isEff_iff {c : Cl} : c.isEff = true ↔ ∃ v m, c = .eff v m := by cases c <;> simp [Cl.isEff]
theorem isAlloc_iff {c : Cl} : c.isAlloc = true ↔ ∃ o k, c = .alloc o k := by cases c <;> simp [Cl.isAlloc]
theorem Ctx.effs (X : Ctx E call ops B n N N0 M0 t0 S c) {e k : Nat} (hk : k < n) (hek : e < k) (h1 : (c e).isEff = true) (h2 : (c k).isEff = true) : (B.getD k 0).testBit e = true := by
  obtain ⟨o, ho⟩ := X.lt hk
  obtain ⟨v, m, hc⟩ := isEff_iff.1 h2
  obtain ⟨v', m', hc'⟩ := isEff_iff.1 h1
  have h := X.run.cls k o ho
  rw [hc] at h
  have := (effOK_spec (effOK_of h)).1 (e, m') (((recs X.run k (by rw [X.stt.len]; omega)).effs e m').2 ⟨hek, v', hc'⟩)
  exact this
/-- masks lead back -/
theorem Ctx.back (X : Ctx E call ops B n N N0 M0 t0 S c) {k j : Nat} (h : (B.getD k 0).testBit j = true) : j ≤ k := by
  have := X.stt.closed (D := fun x => decide (x ≤ k)) (fun i o ho hi e he hb => by
    have h1 := X.stt.back i o ho e he hb
    simp only [decide_eq_true_eq] at hi ⊢
    omega) k j (by simp) h
  simpa using this
theorem chain_same {D D' : Nat → Bool} : ∀ k, (∀ e, e < k → (c e).isEff = true → D e = D' e) → chainOf c M0 D k = chainOf c M0 D' k := by
  intro k
  induction k with
  | zero => intro _; rfl
  | succ k ih =>
    intro h
    have ih' := ih (fun e he => h e (by omega))
    simp only [chainOf]
    cases hc : c k with
    | eff v m =>
      have := h k (by omega) (by rw [hc]; rfl)
      rw [this]
      cases D' k
      · exact ih'
      · rfl
    | _ => cases D k <;> cases D' k <;> exact ih'
theorem chain_cut {D : Nat → Bool} {i : Nat} : ∀ k, i ≤ k → (∀ e, i ≤ e → e < k → (c e).isEff = true → D e = false) → chainOf c M0 D k = chainOf c M0 D i := by
  intro k
  induction k with
  | zero => intro h _; obtain rfl : i = 0 := by omega
            rfl
  | succ k ih =>
    intro h h2
    rcases Nat.lt_or_ge k i with h3 | h3
    · obtain rfl : i = k + 1 := by omega
      rfl
    · rw [← ih h3 (fun e he hek => h2 e he (by omega))]
      simp only [chainOf]
      cases hc : c k with
      | eff v m => rw [h2 k h3 (by omega) (by rw [hc]; rfl)]
      | _ => cases D k <;> rfl
theorem chain_cases {D : Nat → Bool} : ∀ k, ((∀ e, e < k → D e = true → (c e).isEff = false) ∧ chainOf c M0 D k = M0) ∨ ∃ e v m, e < k ∧ D e = true ∧ c e = .eff v m ∧ (∀ e', e' < k → e < e' → D e' = true → (c e').isEff = false) ∧ chainOf c M0 D k = m := by
  intro k
  induction k with
  | zero => exact .inl ⟨fun e he => by omega, rfl⟩
  | succ k ih =>
    by_cases h : D k = true ∧ (c k).isEff = true
    · obtain ⟨v, m, hc⟩ := isEff_iff.1 h.2
      exact .inr ⟨k, v, m, by omega, h.1, hc, fun e' he hk => by omega, by simp only [chainOf, h.1, hc]⟩
    · have hch : chainOf c M0 D (k + 1) = chainOf c M0 D k := by
        simp only [chainOf]
        cases hc : c k with
        | eff v m =>
          cases hd : D k with
          | false => rfl
          | true => exact absurd ⟨hd, by rw [hc]; rfl⟩ h
        | _ => cases D k <;> rfl
      have hk : D k = true → (c k).isEff = false := fun hd => by
        cases he : (c k).isEff with
        | false => rfl
        | true => exact absurd ⟨hd, he⟩ h
      rcases ih with ⟨h1, h2⟩ | ⟨e, v, m, h1, h2, h3, h4, h5⟩
      · refine .inl ⟨fun e he hd => ?_, by rw [hch, h2]⟩
        rcases Nat.lt_or_ge e k with h6 | h6
        · exact h1 e h6 hd
        · obtain rfl : e = k := by omega
          exact hk hd
      · refine .inr ⟨e, v, m, by omega, h2, h3, fun e' he hee hd => ?_, by rw [hch, h5]⟩
        rcases Nat.lt_or_ge e' k with h6 | h6
        · exact h4 e' h6 hee hd
        · obtain rfl : e' = k := by omega
          exact hk hd
/-- numbers that are kept for operations not taken in: nothing lives there -/
theorem Ctx.chainFresh (X : Ctx E call ops B n N N0 M0 t0 S c) {D : Nat → Bool} (hD : Down ops D) {j : Nat} (hj : j < n) : Mg c B n D j ∨ notLive (chainOf c M0 D n).t (N0 + j) = true := by
  rcases chain_cases (c := c) (M0 := M0) (D := D) n with ⟨_, h2⟩ | ⟨e, v, m, h1, h2, h3, _, h5⟩
  · rw [h2]; exact .inr (X.M0f j hj)
  · rw [h5]
    obtain ⟨o, ho⟩ := X.lt h1
    have hcl := X.run.cls e o ho
    rw [h3] at hcl
    rcases (effOK_spec (effOK_of hcl)).2.1 j hj with h6 | h6
    · rw [Nat.testBit_or, Bool.or_eq_true] at h6
      rcases h6 with h6 | h6
      · obtain ⟨e', he', hef, hb⟩ := ((recs X.run e (by rw [X.stt.len]; omega)).mask j).1 h6
        have hDe : D e' = true := X.stt.closed hD e e' h2 (X.effs h1 he' hef (by rw [h3]; rfl))
        exact .inl ⟨e', by omega, hDe, hef, hb⟩
      · exact .inl ⟨e, h1, h2, by rw [h3]; rfl, h6⟩
    · exact .inr h6
theorem PM_hit {D : Nat → Bool} {j : Nat} {ob : AObj} {mk : Mk} (hc : c j = .alloc ob mk) (hd : D j = true) (hm : ¬ Mg c B n D j) : ∀ k, j < k → (PM c B n N0 M0 D k).get (N0 + j) = some ob := by
  intro k
  induction k with
  | zero => intro h; omega
  | succ k ih =>
    intro h
    rcases Nat.lt_or_ge j k with h1 | h1
    · have := ih h1
      simp only [PM]
      split
      · split
        · rw [T.get_set_ne _ _ (by omega)]; exact this
        · exact this
      · exact this
    · obtain rfl : j = k := by omega
      simp only [PM, hc]
      rw [if_pos ⟨hd, hm⟩, T.get_set_same]
theorem PM_inv {D : Nat → Bool} {id : Nat} {o : AObj} : ∀ k, (PM c B n N0 M0 D k).get id = some o → (∃ j mk, j < k ∧ id = N0 + j ∧ c j = .alloc o mk ∧ D j = true ∧ ¬ Mg c B n D j) ∨
    ((chainOf c M0 D n).t.get id = some o ∧ ∀ j, j < k → id = N0 + j → ¬ ((c j).isAlloc = true ∧ D j = true ∧ ¬ Mg c B n D j)) := by
  intro k
  induction k with
  | zero => intro h; exact .inr ⟨h, fun j hj => by omega⟩
  | succ k ih =>
    intro h
    simp only [PM] at h
    have more : (PM c B n N0 M0 D k).get id = some o → ¬ (id = N0 + k ∧ (c k).isAlloc = true ∧ D k = true ∧ ¬ Mg c B n D k) → (∃ j mk, j < k + 1 ∧ id = N0 + j ∧ c j = .alloc o mk ∧ D j = true ∧ ¬ Mg c B n D j) ∨
        ((chainOf c M0 D n).t.get id = some o ∧ ∀ j, j < k + 1 → id = N0 + j → ¬ ((c j).isAlloc = true ∧ D j = true ∧ ¬ Mg c B n D j)) := by
      intro h1 h2
      rcases ih h1 with ⟨j, mk, h3, h4⟩ | ⟨h3, h4⟩
      · exact .inl ⟨j, mk, by omega, h4⟩
      · refine .inr ⟨h3, fun j hj he hh => ?_⟩
        rcases Nat.lt_or_ge j k with h5 | h5
        · exact h4 j h5 he hh
        · obtain rfl : j = k := by omega
          exact h2 ⟨he, hh⟩
    split at h
    · rename_i ob mk hc
      split at h
      · rename_i hd
        by_cases e : N0 + k = id
        · subst e
          rw [T.get_set_same] at h; cases h
          exact .inl ⟨k, mk, by omega, rfl, hc, hd.1, hd.2⟩
        · rw [T.get_set_ne _ _ e] at h
          exact more h (fun h2 => e h2.1.symm)
      · rename_i hd
        exact more h (fun h2 => hd ⟨h2.2.2.1, h2.2.2.2⟩)
    · rename_i hna
      refine more h (fun h2 => ?_)
      obtain ⟨ob, mk, hc⟩ := isAlloc_iff.1 h2.2.1
      exact hna ob mk hc
theorem PM_miss {D : Nat → Bool} {id : Nat} : ∀ k, (∀ j, j < k → id = N0 + j → ¬ ((c j).isAlloc = true ∧ D j = true ∧ ¬ Mg c B n D j)) → (PM c B n N0 M0 D k).get id = (chainOf c M0 D n).t.get id := by
  intro k
  induction k with
  | zero => intro _; rfl
  | succ k ih =>
    intro h
    have ih' := ih (fun j hj => h j (by omega))
    simp only [PM]
    split
    · rename_i ob mk hc
      split
      · rename_i hd
        rw [T.get_set_ne _ _ (fun e => h k (by omega) e.symm ⟨by rw [hc]; rfl, hd.1, hd.2⟩)]
        exact ih'
      · exact ih'
    · exact ih'
theorem addAllocs_inv {b : Nat} {id : Nat} {o : AObj} {t : T AObj} : ∀ {l : List (Nat × AObj)}, (addAllocs N0 b l t).get id = some o → (∃ j, (j, o) ∈ l ∧ id = N0 + j ∧ b.testBit j = true) ∨ t.get id = some o := by
  intro l
  induction l with
  | nil => intro h; exact .inr h
  | cons x l ih =>
    intro h
    obtain ⟨j, ob⟩ := x
    simp only [addAllocs] at h
    cases hb : Nat.testBit b j with
    | true =>
      rw [hb] at h
      simp only [cond] at h
      by_cases e : N0 + j = id
      · subst e
        rw [T.get_set_same] at h; cases h
        exact .inl ⟨j, by simp, rfl, hb⟩
      · rw [T.get_set_ne _ _ e] at h
        rcases ih h with ⟨k, h1, h2⟩ | h1
        · exact .inl ⟨k, by simp [h1], h2⟩
        · exact .inr h1
    | false =>
      rw [hb] at h
      rcases ih h with ⟨k, h1, h2⟩ | h1
      · exact .inl ⟨k, by simp [h1], h2⟩
      · exact .inr h1
theorem put_vals {N : Nat} {σ : Sg} {f : Nat → Value} {a : Act} (hsz : a.tmps.size = N) (h : ∀ τ, VR σ (f τ) (a.tmps.getD τ undef)) {v v' : Value} (hv : VR σ v v') (d : Option Tmp) : ∀ τ, VR σ (if d = some τ ∧ τ < N then v else f τ) ((a.put d v').tmps.getD τ undef) := by
  intro τ
  cases d with
  | none => simpa [Act.put] using h τ
  | some d =>
    simp only [Act.put, Option.some.injEq]
    by_cases e : d = τ
    · subst e
      by_cases hN : d < N
      · rw [if_pos ⟨rfl, hN⟩]
        have : d < a.tmps.size := by rw [hsz]; exact hN
        simp [this, hv]
      · rw [if_neg (fun h => hN h.2)]
        have : a.tmps.setIfInBounds d v' = a.tmps := by
          apply Array.ext_getElem?
          intro q
          rw [Array.getElem?_setIfInBounds]
          by_cases e : d = q
          · subst e; rw [if_pos rfl, if_neg (by rw [hsz]; exact hN), Array.getElem?_eq_none (by rw [hsz]; exact Nat.not_lt.1 hN)]
          · rw [if_neg e]
        rw [this]; exact h d
    · rw [if_neg (fun h => e h.1)]
      have : (a.tmps.setIfInBounds d v').getD τ undef = a.tmps.getD τ undef := by
        simp [e]
      rw [this]; exact h τ
theorem put_defers (a : Act) (d : Option Tmp) (v : Value) : (a.put d v).defers = a.defers := by cases d <;> rfl
theorem put_size (a : Act) (d : Option Tmp) (v : Value) : (a.put d v).tmps.size = a.tmps.size := by cases d <;> simp [Act.put]
structure Inv (E : Env) (w0 : World) (ops : Array Oper) (B : List Nat) (n N N0 : Nat) (M0 : Mem) (t0 : T Value) (c : Nat → Cl) (σ0 : Sg) (m0 : Mem) (wst : World) (ds : List Deferred) (D : Nat → Bool) (σ : Sg) (a : Act) (w : World) : Prop where
  size : a.tmps.size = N
  tr : ∀ τ, VR σ (W c ops N N0 t0 D n τ) (a.tmps.getD τ undef)
  mem : MR E w0 σ ⟨(chainOf c M0 D n).n, PM c B n N0 M0 D n⟩ w
  num : N0 + n ≤ (chainOf c M0 D n).n
  fresh : ∀ i, i < n → ¬ (D i = true ∧ (c i).isAlloc = true) → σ (N0 + i) = none
  fg : FG σ0 m0 wst σ ⟨(chainOf c M0 D n).n, PM c B n N0 M0 D n⟩ w
  defers : a.defers = ds
variable {σ0 : Sg} {m0 : Mem} {wst : World} {ds : List Deferred}
theorem Mg_add {D : Nat → Bool} {i j : Nat} (hc : (c i).isEff = false) : Mg c B n (addD D i) j ↔ Mg c B n D j := by
  constructor
  · rintro ⟨e, h1, h2, h3, h4⟩
    rcases addD_iff.1 h2 with h5 | rfl
    · exact ⟨e, h1, h5, h3, h4⟩
    · rw [hc] at h3; cases h3
  · rintro ⟨e, h1, h2, h3⟩; exact ⟨e, h1, addD_iff.2 (.inl h2), h3⟩
theorem chain_add {D : Nat → Bool} {i : Nat} (hc : (c i).isEff = false) (k : Nat) : chainOf c M0 (addD D i) k = chainOf c M0 D k :=
  chain_same k (fun e _ he => addD_ne (fun h => by subst h; rw [hc] at he; cases he))
theorem PM_add {D : Nat → Bool} {i : Nat} (hc : (c i).isEff = false) (ha : (c i).isAlloc = false) : ∀ k, PM c B n N0 M0 (addD D i) k = PM c B n N0 M0 D k := by
  intro k
  induction k with
  | zero => simp only [PM]; rw [chain_add hc]
  | succ k ih =>
    simp only [PM]
    rw [ih]
    split
    · rename_i ob mk hck
      have hik : i ≠ k := fun e => by subst e; rw [hck] at ha; cases ha
      rw [addD_ne hik]
      have : Mg c B n (addD D i) k ↔ Mg c B n D k := Mg_add hc
      by_cases h : D k = true ∧ ¬ Mg c B n D k
      · rw [if_pos h, if_pos ⟨h.1, fun h2 => h.2 (this.1 h2)⟩]
      · rw [if_neg h, if_neg (fun h2 => h ⟨h2.1, fun h3 => h2.2 (this.2 h3)⟩)]
    · rfl
/-- nothing is turned -/
theorem Inv.same (X : Ctx E call ops B n N N0 M0 t0 S c) {D : Nat → Bool} (hD : Down ops D) {i : Nat} {o : Oper} (r : Ready ops B D i o) {σ : Sg} {a : Act} {w : World} (I : Inv E w0 ops B n N N0 M0 t0 c σ0 m0 wst ds D σ a w)
    (hc : (c i).isEff = false) (ha : (c i).isAlloc = false) {v' : Value} (hv : VR σ ((c i).val N0 i) v') : Inv E w0 ops B n N N0 M0 t0 c σ0 m0 wst ds (addD D i) σ (a.put o.dst v') w := by
  have e1 := chain_add (M0 := M0) (D := D) hc n
  have e2 := PM_add (B := B) (n := n) (N0 := N0) (M0 := M0) (D := D) hc ha n
  refine ⟨by rw [put_size]; exact I.size, fun τ => ?_, by rw [e1, e2]; exact I.mem, by rw [e1]; exact I.num, fun j hj h => I.fresh j hj (fun h2 => h ⟨addD_iff.2 (.inl h2.1), h2.2⟩), by rw [e1, e2]; exact I.fg, by rw [put_defers]; exact I.defers⟩
  rw [W_add X.stt hD r]
  exact put_vals I.size I.tr hv o.dst τ
end
end Go.AE
