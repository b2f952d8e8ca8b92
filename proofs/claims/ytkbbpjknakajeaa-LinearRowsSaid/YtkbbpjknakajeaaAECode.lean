/- Frames, regions in the order of the text, code: what the evaluator says holds of every world. -/
import Derived.Test.YtkbbpjknakajeaaAEOps9
namespace Go.AE
open Go.RowKit
variable {E : Env} {P : Program} {w0 : World}
noncomputable def tv (t : T Value) (i : Nat) : Value := match t.get i with | some v => v | none => und
/-- the temporaries -/
structure TR (σ : Sg) (N : Nat) (t : T Value) (a : Act) : Prop where
  size : a.tmps.size = N
  val : ∀ i, VR σ (tv t i) (a.tmps.getD i undef)
theorem TR.mono {σ σ' : Sg} (he : Ext σ σ') {N : Nat} {t : T Value} {a : Act} (h : TR σ N t a) : TR σ' N t a := ⟨h.size, fun i => (h.val i).mono he⟩
theorem allSimple_spec {l : List Value} (h : allSimple l = true) : ∀ v ∈ l, simple v = true := by
  induction l with
  | nil => intro v hv; cases hv
  | cons x l ih =>
    intro v hv
    simp only [allSimple] at h
    cases hx : simple x with
    | false => rw [hx] at h; cases h
    | true =>
      rw [hx] at h
      cases hv with
      | head => exact hx
      | tail _ hm => exact ih h v hm
theorem cst_sound (σ : Sg) (v : Value) : VR σ (cst v) v := by
  unfold cst
  split <;> first | exact .refl rfl | exact .any _ | skip
  · rename_i vs
    split
    · rename_i h
      have : vs = #[] := Array.ext' h
      subst this; exact VR.undef σ
    · exact .any _
  · rename_i vs
    split
    · rename_i h
      exact .agg_of (VRL.simple (allSimple_spec h))
    · exact .any _
theorem evalT_sound {σ : Sg} {N : Nat} {t : T Value} {a : Act} (h : TR σ N t a) (x : Operand) : VR σ (evalT t x) (a.eval x) := by
  cases x with
  | tmp i => exact h.val i
  | const v => exact cst_sound σ v
  | global g => exact .any _
  | func f => exact .func rfl (fun i hi => by simp at hi) rfl (fun i hi => by simp at hi)
theorem TR.put {σ : Sg} {N : Nat} {t : T Value} {a : Act} (h : TR σ N t a) (d : Option Tmp) {v v' : Value} (hv : VR σ v v') : TR σ N (put N t d v) (a.put d v') := by
  cases d with
  | none => exact h
  | some d =>
    simp only [AE.put, Act.put]
    refine ⟨by simpa using h.size, fun i => ?_⟩
    cases hlt : Nat.blt d N with
    | true =>
      have hlt' : d < N := Nat.le_of_ble_eq_true hlt
      simp only [tv, T.get_set]
      by_cases e : d = i
      · subst e
        have : d < a.tmps.size := by rw [h.size]; exact hlt'
        simp [this, hv]
      · rw [if_neg e]
        have : (a.tmps.setIfInBounds d v').getD i undef = a.tmps.getD i undef := by
          simp [e]
        rw [this]; exact h.val i
    | false =>
      have hge : N ≤ d := by
        rcases Nat.lt_or_ge d N with h1 | h1
        · have h2 : Nat.blt d N = true := Nat.ble_eq_true_of_le h1
          rw [h2] at hlt; cases hlt
        · exact h1
      have : a.tmps.setIfInBounds d v' = a.tmps := by
        apply Array.ext_getElem?
        intro q
        rw [Array.getElem?_setIfInBounds]
        by_cases e : d = q
        · subst e; rw [if_pos rfl, if_neg (by rw [h.size]; omega), Array.getElem?_eq_none (by rw [h.size]; exact hge)]
        · rw [if_neg e]
      rw [this]; exact h.val i
theorem wanted_sound {σ : Sg} {N : Nat} {t : T Value} {a : Act} (h : TR σ N t a) {ops : Array Oper} {o : Oper} {b : Bool} (hw : wanted ops o t = some b) : Region.wanted o (yielded ops a.tmps) = b := by
  unfold wanted at hw
  unfold Region.wanted
  split at hw
  · rename_i hg
    rw [hg]; cases hw; rfl
  · rename_i j want hg
    rw [hg]
    split at hw
    · rename_i p hp
      have hp' : ops[j]? = some p := by simpa using hp
      split at hw
      · rename_i d hd
        have hv := h.val d
        have hy : yielded ops a.tmps j = match a.tmps[d]? with | some (.bool b) => some b | _ => none := by
          simp [yielded, hp', hd]
          rfl
        simp only [tv] at hv
        split at hw
        · rename_i b' ht
          cases hw
          rw [ht] at hv
          have hb := hv.simple_inv rfl
          have : a.tmps[d]? = some (.bool b') := by
            rcases Nat.lt_or_ge d a.tmps.size with h1 | h1
            · simp [h1] at hb
              rw [Array.getElem?_eq_getElem h1, hb]
            · simp [Nat.not_lt.2 h1, undef] at hb
          simp only [hy, this]
          cases b' <;> cases want <;> rfl
        · rename_i vs ht
          cases hw
          rw [ht] at hv
          obtain ⟨vs', hb, _⟩ := hv.tuple_inv
          have : (match a.tmps[d]? with | some (.bool b) => some b | _ => none) = (none : Option Bool) := by
            rcases Nat.lt_or_ge d a.tmps.size with h1 | h1
            · simp [h1] at hb
              rw [Array.getElem?_eq_getElem h1, hb]
            · rw [Array.getElem?_eq_none h1]
          simp only [hy, this]
          rfl
        · cases hw
      · cases hw
    · cases hw
theorem bindL_ne {α β : Type} {f : α → List β} : ∀ {l : List α}, bindL l f ≠ [] → ∀ x ∈ l, f x ≠ [] ∧ ∀ y ∈ f x, y ∈ bindL l f := by
  intro l
  induction l with
  | nil => intro _ x hx; cases hx
  | cons a l ih =>
    intro hne x hx
    cases l with
    | nil =>
      simp only [List.mem_singleton] at hx
      subst hx
      exact ⟨hne, fun y hy => hy⟩
    | cons b l =>
      simp only [bindL] at hne ⊢
      split at hne
      · exact absurd rfl hne
      · rename_i c cs hc
        split at hne
        · exact absurd rfl hne
        · rename_i d ds hd
          try rw [hc]
          try simp only
          try rw [hd]
          try simp only
          cases hx with
          | head =>
            rw [hc]
            exact ⟨by simp, fun y hy => List.mem_append.2 (.inl (by simpa using hy))⟩
          | tail _ hm =>
            have hne2 : bindL (b :: l) f ≠ [] := by rw [hd]; simp
            obtain ⟨h1, h2⟩ := ih hne2 x hm
            refine ⟨h1, fun y hy => ?_⟩
            have := h2 y hy
            rw [hd] at this
            exact List.mem_append.2 (.inr this)
/-- what is asked of the calls -/
def CallOK (E : Env) (P : Program) (w0 : World) (call : CallF) : Prop :=
  ∀ f args m, call f args m ≠ [] → ∀ (σ : Sg) (w : World) (args' : Array Value), VRL σ args args'.toList → MR E w0 σ m w →
    Calls P f args' w fun e w' => ∃ r ∈ call f args m, ∃ σ' v', e = .returned v' ∧ FG σ m w σ' r.2 w' ∧ VR σ' r.1 v' ∧ MR E w0 σ' r.2 w'
theorem evOps_wp (hE : EOK E P) {call : CallF} (hcall : CallOK E P w0 call) {N : Nat} {ops : Array Oper} {Q : Exit → Act → World → Prop} : ∀ (l : List Oper) (k : Nat), ops.toList.drop k = l → ∀ (t : T Value) (m : Mem) (σ : Sg) (a : Act) (w : World),
    evOps E call N ops l t m ≠ [] → TR σ N t a → MR E w0 σ m w →
    (∀ r ∈ evOps E call N ops l t m, ∀ σ' a' w', FG σ m w σ' r.2 w' → TR σ' N r.1 a' → MR E w0 σ' r.2 w' → a'.defers = a.defers → Q .normal a' w') → wpOps P ops Q (List.range' k l.length) a w := by
  intro l
  induction l with
  | nil =>
    intro k _ t m σ a w _ hT hM hQ
    exact hQ (t, m) (by simp [evOps]) σ a w (FG.refl σ m w) hT hM rfl
  | cons o l ih =>
    intro k hk t m σ a w hne hT hM hQ
    have hok : ops[k]? = some o := by
      have : (ops.toList.drop k)[0]? = some o := by rw [hk]; rfl
      simpa using this
    have hk' : ops.toList.drop (k + 1) = l := by
      rw [← List.drop_drop, hk]; rfl
    simp only [List.length_cons, List.range'_succ, wpOps, hok]
    have hput : ∀ (d : Option Tmp) (v : Value), (a.put d v).defers = a.defers := by intro d v; cases d <;> rfl
    simp only [evOps] at hne hQ
    split at hne
    · exact absurd rfl hne
    · rename_i hw
      rw [hw] at hQ
      simp only at hQ
      rw [wanted_sound hT hw]
      simp only [Bool.false_eq_true, if_false]
      exact ih (k + 1) hk' _ m σ _ w hne (hT.put o.dst (VR.undef σ)) hM (fun r hr σ' a' w' h1 h2 h3 h4 => hQ r hr σ' a' w' h1 h2 h3 (h4.trans (hput _ _)))
    · rename_i hw
      rw [hw] at hQ
      simp only at hQ
      rw [wanted_sound hT hw]
      simp only [if_true]
      refine .inl ?_
      obtain ⟨out, hmem, hout⟩ := evOp_sound (P := P) (m := m) (w := w) hE hM (evalT_sound hT) o (by intro e; rw [e] at hne; exact hne rfl)
      obtain ⟨hne', hsub⟩ := bindL_ne hne out hmem
      have hQ' := fun r hr => hQ r (hsub r hr)
      unfold Oper.wp
      cases out with
      | val v =>
        obtain ⟨nx, v', h1, h2, h3⟩ := hout
        rw [h1]
        have hgo : wpOps P ops Q (List.range' (k + 1) l.length) (a.put o.dst v') w :=
          ih (k + 1) hk' _ m σ _ w hne' (hT.put o.dst h3) hM (fun r hr σ' a' w' g1 g2 g3 g4 => hQ' r hr σ' a' w' g1 g2 g3 (g4.trans (hput _ _)))
        cases nx <;> simp only [nextVal, Option.some.injEq] at h2 <;> first | (cases h2; done) | (subst h2; exact hgo)
      | new ob mk =>
        obtain ⟨v', obj, x, h1, h2, h3, h4, h5⟩ := hout
        rw [h1]
        obtain ⟨hm', hf'⟩ := hM.new (id := m.n) (hM.fresh m.n (Nat.le_refl _)) (n' := m.n + 1) (by omega) (by omega) h2 h4
        have hf' := hf' (Nat.le_refl _)
        exact ih (k + 1) hk' _ _ _ _ _ hne' ((hT.mono hf'.ext).put o.dst (h5 _ _ (if_pos rfl))) hm' (fun r hr σ' a' w' g1 g2 g3 g4 => hQ' r hr σ' a' w' (hf'.trans g1) g2 g3 (g4.trans (hput _ _)))
      | eff v m' =>
        obtain ⟨nx, v', w', σ', h1, h2, h3, hm', hf'⟩ := hout
        rw [h1]
        have hgo : wpOps P ops Q (List.range' (k + 1) l.length) (a.put o.dst v') w' :=
          ih (k + 1) hk' _ _ _ _ _ hne' ((hT.mono hf'.ext).put o.dst h3) hm' (fun r hr σ' a' w' g1 g2 g3 g4 => hQ' r hr σ' a' w' (hf'.trans g1) g2 g3 (g4.trans (hput _ _)))
        cases nx <;> simp only [nextVal, Option.some.injEq] at h2 <;> first | (cases h2; done) | (subst h2; exact hgo)
      | enter f args =>
        obtain ⟨args', h1, h2⟩ := hout
        rw [h1, Oper.upon_enter]
        simp only at hne' hsub
        have hcne : call f args m ≠ [] := by intro e; rw [e] at hne'; exact hne' rfl
        refine (hcall f args m hcne σ w args' h2 hM).mono ?_
        rintro e w' ⟨r, hr, σ', v', rfl, hf', hv', hm'⟩
        obtain ⟨hne2, hsub2⟩ := bindL_ne hne' r hr
        exact ih (k + 1) hk' _ _ _ _ _ hne2 ((hT.mono hf'.ext).put o.dst hv') hm' (fun r2 hr2 σ2 a2 w2 g1 g2 g3 g4 => hQ' r2 (hsub2 r2 hr2) σ2 a2 w2 (hf'.trans g1) g2 g3 (g4.trans (hput _ _)))
end Go.AE
