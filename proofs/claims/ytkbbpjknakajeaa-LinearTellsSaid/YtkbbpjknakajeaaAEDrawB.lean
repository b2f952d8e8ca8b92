/- Regions whose order is open: what the reckoning in the order of the text knows. -/
import Derived.Test.YtkbbpjknakajeaaAEDrawA
namespace Go.AE
open Go.RowKit
variable {E : Env} {P : Program} {w0 : World}
def Cl.isEff : Cl → Bool
  | .eff _ _ => true
  | _ => false
def Cl.isAlloc : Cl → Bool
  | .alloc _ _ => true
  | _ => false
structure RunOK (E : Env) (call : CallF) (ops : Array Oper) (B : List Nat) (n N N0 : Nat) (M0 : Mem) (t0 : T Value) (S : Nat → DS) (c : Nat → Cl) : Prop where
  start : S 0 = ⟨t0, M0, [], [], [], 0⟩
  cls : ∀ k o, ops.toList[k]? = some o → clsD E call ops n N0 M0 (S k) o (B.getD k 0) = some (c k)
  step : ∀ k o, ops.toList[k]? = some o → S (k + 1) = applyD N N0 (S k) k o (B.getD k 0) (c k)
theorem runD_ok {call : CallF} {ops : Array Oper} {B : List Nat} {n N N0 : Nat} {M0 : Mem} : ∀ (l : List Oper) (i : Nat) (S0 Sf : DS), runD E call ops B n N N0 M0 l i S0 = some Sf →
    ∃ (S : Nat → DS) (c : Nat → Cl), S 0 = S0 ∧ S l.length = Sf ∧ ∀ (k : Nat) (o : Oper), l[k]? = some o → clsD E call ops n N0 M0 (S k) o (B.getD (i + k) 0) = some (c k) ∧ S (k + 1) = applyD N N0 (S k) (i + k) o (B.getD (i + k) 0) (c k) := by
  intro l
  induction l with
  | nil => intro i S0 Sf h; simp [runD] at h; exact ⟨fun _ => S0, fun _ => .skip, rfl, h, fun k o ho => by simp at ho⟩
  | cons o l ih =>
    intro i S0 Sf h
    simp only [runD] at h
    split at h
    · cases h
    · rename_i c0 hc
      obtain ⟨S, c, h1, h2, h3⟩ := ih (i + 1) _ Sf h
      refine ⟨fun k => match k with | 0 => S0 | k + 1 => S k, fun k => match k with | 0 => c0 | k + 1 => c k, rfl, h2, fun k p hp => ?_⟩
      cases k with
      | zero => cases hp; exact ⟨hc, h1⟩
      | succ k =>
        have := h3 k p (by simpa using hp)
        rw [show i + (k + 1) = i + 1 + k from by omega]
        exact this
section
variable {call : CallF} {ops : Array Oper} {B : List Nat} {n N N0 : Nat} {M0 : Mem} {t0 : T Value} {S : Nat → DS} {c : Nat → Cl}
def chainOf (c : Nat → Cl) (M0 : Mem) (D : Nat → Bool) : Nat → Mem
  | 0 => M0
  | k + 1 => match D k, c k with
    | true, .eff _ m => m
    | _, _ => chainOf c M0 D k
/-- taken in by an operation of D -/
def Mg (c : Nat → Cl) (B : List Nat) (n : Nat) (D : Nat → Bool) (j : Nat) : Prop := ∃ e, e < n ∧ D e = true ∧ (c e).isEff = true ∧ (B.getD e 0).testBit j = true
theorem dropAllocs_mem {b : Nat} : ∀ {l : List (Nat × AObj)} {x : Nat × AObj}, x ∈ dropAllocs b l ↔ x ∈ l ∧ b.testBit x.1 = false := by
  intro l
  induction l with
  | nil => intro x; simp [dropAllocs]
  | cons y l ih =>
    intro x
    obtain ⟨j, ob⟩ := y
    simp only [dropAllocs]
    cases h : Nat.testBit b j with
    | true =>
      simp only [cond, ih, List.mem_cons]
      constructor
      · exact fun ⟨h1, h2⟩ => ⟨.inr h1, h2⟩
      · rintro ⟨rfl | h1, h2⟩
        · rw [h] at h2; cases h2
        · exact ⟨h1, h2⟩
    | false =>
      simp only [cond, List.mem_cons, ih]
      constructor
      · rintro (rfl | ⟨h1, h2⟩)
        · exact ⟨.inl rfl, h⟩
        · exact ⟨.inr h1, h2⟩
      · rintro ⟨rfl | h1, h2⟩
        · exact .inl rfl
        · exact .inr ⟨h1, h2⟩
/-- what stands in the reckoning's records behind k operations -/
structure Recs (c : Nat → Cl) (ops : Array Oper) (B : List Nat) (M0 : Mem) (S : Nat → DS) (k : Nat) : Prop where
  effs : ∀ e m, (e, m) ∈ (S k).effs ↔ e < k ∧ ∃ v, c e = .eff v m
  sorted : (S k).effs.Pairwise (fun x y => y.1 < x.1)
  chain : (S k).chain = chainOf c M0 (fun _ => true) k
  allocs : ∀ i ob, (i, ob) ∈ (S k).allocs ↔ i < k ∧ (∃ mk, c i = .alloc ob mk) ∧ ∀ e, e < k → i < e → (c e).isEff = true → (B.getD e 0).testBit i = false
  reads : ∀ i o t v, (i, o, t, v) ∈ (S k).reads ↔ i < k ∧ ops.toList[i]? = some o ∧ c i = .read v ∧ t = (S i).t
  mask : ∀ j, (S k).mask.testBit j = true ↔ ∃ e, e < k ∧ (c e).isEff = true ∧ (B.getD e 0).testBit j = true
theorem recs (R : RunOK E call ops B n N N0 M0 t0 S c) : ∀ k, k ≤ ops.toList.length → Recs c ops B M0 S k := by
  intro k
  induction k with
  | zero =>
    intro _
    refine ⟨fun e m => ?_, ?_, ?_, fun i ob => ?_, fun i o t v => ?_, fun j => ?_⟩ <;> rw [R.start] <;> simp [chainOf]
  | succ k ih =>
    intro hk
    have I := ih (by omega)
    have ho : ops.toList[k]? = some (ops.toList[k]'(by omega)) := List.getElem?_eq_getElem (by omega)
    generalize ops.toList[k]'(by omega) = o at ho
    have hs := R.step k o ho
    have lt : ∀ {e : Nat}, e < k + 1 ↔ e < k ∨ e = k := fun {e} => by omega
    have noEff : (c k).isEff = false → ∀ {e m}, ((e < k + 1 ∧ ∃ v, c e = .eff v m) ↔ (e < k ∧ ∃ v, c e = .eff v m)) := by
      intro hne e m
      constructor
      · rintro ⟨h1, v, h2⟩
        rcases lt.1 h1 with h3 | rfl
        · exact ⟨h3, v, h2⟩
        · rw [h2] at hne; cases hne
      · rintro ⟨h1, h2⟩; exact ⟨by omega, h2⟩
    have noAlloc : (c k).isEff = false → (∀ ob mk, c k ≠ .alloc ob mk) → ∀ {i ob}, ((i < k + 1 ∧ (∃ mk, c i = .alloc ob mk) ∧ ∀ e, e < k + 1 → i < e → (c e).isEff = true → (B.getD e 0).testBit i = false) ↔ (i < k ∧ (∃ mk, c i = .alloc ob mk) ∧ ∀ e, e < k → i < e → (c e).isEff = true → (B.getD e 0).testBit i = false)) := by
      intro hne hna i ob
      constructor
      · rintro ⟨h1, ⟨mk, h2⟩, h3⟩
        rcases lt.1 h1 with h4 | rfl
        · exact ⟨h4, ⟨mk, h2⟩, fun e he => h3 e (by omega)⟩
        · exact absurd h2 (hna ob mk)
      · rintro ⟨h1, h2, h3⟩
        refine ⟨by omega, h2, fun e he hie hef => ?_⟩
        rcases lt.1 he with h4 | rfl
        · exact h3 e h4 hie hef
        · rw [hne] at hef; cases hef
    have noMask : (c k).isEff = false → ∀ {j}, ((∃ e, e < k + 1 ∧ (c e).isEff = true ∧ (B.getD e 0).testBit j = true) ↔ (∃ e, e < k ∧ (c e).isEff = true ∧ (B.getD e 0).testBit j = true)) := by
      intro hne j
      constructor
      · rintro ⟨e, h1, h2, h3⟩
        rcases lt.1 h1 with h4 | rfl
        · exact ⟨e, h4, h2, h3⟩
        · rw [hne] at h2; cases h2
      · rintro ⟨e, h1, h2⟩; exact ⟨e, by omega, h2⟩
    have noRead : (∀ v, c k ≠ .read v) → ∀ {i o t v}, ((i < k + 1 ∧ ops.toList[i]? = some o ∧ c i = .read v ∧ t = (S i).t) ↔ (i < k ∧ ops.toList[i]? = some o ∧ c i = .read v ∧ t = (S i).t)) := by
      intro hnr i o t v
      constructor
      · rintro ⟨h1, h2, h3, h4⟩
        rcases lt.1 h1 with h5 | rfl
        · exact ⟨h5, h2, h3, h4⟩
        · exact absurd h3 (hnr v)
      · rintro ⟨h1, h2⟩; exact ⟨by omega, h2⟩
    have chN : (c k).isEff = false → chainOf c M0 (fun _ => true) (k + 1) = chainOf c M0 (fun _ => true) k := by
      intro hne
      simp only [chainOf]
      split
      · rename_i h2; rw [h2] at hne; cases hne
      · rfl
    cases hc : c k with
    | skip =>
      have e1 : (c k).isEff = false := by rw [hc]; rfl
      rw [hc] at hs
      refine ⟨fun e m => ?_, ?_, ?_, fun i ob => ?_, fun i o t v => ?_, fun j => ?_⟩ <;> rw [hs] <;> simp only [applyD]
      · rw [noEff e1]; exact I.effs e m
      · exact I.sorted
      · rw [chN e1]; exact I.chain
      · rw [noAlloc e1 (fun ob mk => by rw [hc]; simp)]; exact I.allocs i ob
      · rw [noRead (fun v => by rw [hc]; simp)]; exact I.reads i o t v
      · rw [noMask e1]; exact I.mask j
    | pure v0 =>
      have e1 : (c k).isEff = false := by rw [hc]; rfl
      rw [hc] at hs
      refine ⟨fun e m => ?_, ?_, ?_, fun i ob => ?_, fun i o t v => ?_, fun j => ?_⟩ <;> rw [hs] <;> simp only [applyD]
      · rw [noEff e1]; exact I.effs e m
      · exact I.sorted
      · rw [chN e1]; exact I.chain
      · rw [noAlloc e1 (fun ob mk => by rw [hc]; simp)]; exact I.allocs i ob
      · rw [noRead (fun v => by rw [hc]; simp)]; exact I.reads i o t v
      · rw [noMask e1]; exact I.mask j
    | read v0 =>
      have e1 : (c k).isEff = false := by rw [hc]; rfl
      have hs' := hs
      rw [hc] at hs
      refine ⟨fun e m => ?_, ?_, ?_, fun i ob => ?_, fun i p t v => ?_, fun j => ?_⟩ <;> rw [hs] <;> simp only [applyD]
      · rw [noEff e1]; exact I.effs e m
      · exact I.sorted
      · rw [chN e1]; exact I.chain
      · rw [noAlloc e1 (fun ob mk => by rw [hc]; simp)]; exact I.allocs i ob
      · rw [List.mem_cons, I.reads i p t v]
        constructor
        · rintro (h | ⟨h1, h2⟩)
          · cases h; exact ⟨by omega, ho, hc, rfl⟩
          · exact ⟨by omega, h2⟩
        · rintro ⟨h1, h2, h3, h4⟩
          rcases lt.1 h1 with h5 | rfl
          · exact .inr ⟨h5, h2, h3, h4⟩
          · rw [ho] at h2; cases h2
            rw [hc] at h3; cases h3
            exact .inl (by rw [h4])
      · rw [noMask e1]; exact I.mask j
    | alloc ob0 mk0 =>
      have e1 : (c k).isEff = false := by rw [hc]; rfl
      rw [hc] at hs
      refine ⟨fun e m => ?_, ?_, ?_, fun i ob => ?_, fun i o t v => ?_, fun j => ?_⟩ <;> rw [hs] <;> simp only [applyD]
      · rw [noEff e1]; exact I.effs e m
      · exact I.sorted
      · rw [chN e1]; exact I.chain
      · rw [List.mem_cons, I.allocs i ob]
        constructor
        · rintro (h | ⟨h1, h2, h3⟩)
          · cases h; exact ⟨by omega, ⟨mk0, hc⟩, fun e he hie => by omega⟩
          · refine ⟨by omega, h2, fun e he hie hef => ?_⟩
            rcases lt.1 he with h4 | rfl
            · exact h3 e h4 hie hef
            · rw [e1] at hef; cases hef
        · rintro ⟨h1, ⟨mk, h2⟩, h3⟩
          rcases lt.1 h1 with h4 | rfl
          · exact .inr ⟨h4, ⟨mk, h2⟩, fun e he => h3 e (by omega)⟩
          · rw [hc] at h2; cases h2; exact .inl rfl
      · rw [noRead (fun v => by rw [hc]; simp)]; exact I.reads i o t v
      · rw [noMask e1]; exact I.mask j
    | eff v0 m0 =>
      rw [hc] at hs
      refine ⟨fun e m => ?_, ?_, ?_, fun i ob => ?_, fun i o t v => ?_, fun j => ?_⟩ <;> rw [hs] <;> simp only [applyD]
      · rw [List.mem_cons, I.effs e m]
        constructor
        · rintro (h | ⟨h1, h2⟩)
          · cases h; exact ⟨by omega, v0, hc⟩
          · exact ⟨by omega, h2⟩
        · rintro ⟨h1, v, h2⟩
          rcases lt.1 h1 with h3 | rfl
          · exact .inr ⟨h3, v, h2⟩
          · rw [hc] at h2; cases h2; exact .inl rfl
      · rw [List.pairwise_cons]
        exact ⟨fun x hx => ((I.effs x.1 x.2).1 hx).1, I.sorted⟩
      · simp only [chainOf, hc]
      · rw [dropAllocs_mem, I.allocs i ob]
        constructor
        · rintro ⟨⟨h1, h2, h3⟩, h4⟩
          refine ⟨by omega, h2, fun e he hie hef => ?_⟩
          rcases lt.1 he with h5 | rfl
          · exact h3 e h5 hie hef
          · exact h4
        · rintro ⟨h1, ⟨mk, h2⟩, h3⟩
          rcases lt.1 h1 with h4 | rfl
          · exact ⟨⟨h4, ⟨mk, h2⟩, fun e he => h3 e (by omega)⟩, h3 k (by omega) h4 (by rw [hc]; rfl)⟩
          · rw [hc] at h2; cases h2
      · rw [noRead (fun v => by rw [hc]; simp)]; exact I.reads i o t v
      · rw [Nat.testBit_or, Bool.or_eq_true, I.mask j]
        constructor
        · rintro (⟨e, h1, h2⟩ | h)
          · exact ⟨e, by omega, h2⟩
          · exact ⟨k, by omega, by rw [hc]; rfl, h⟩
        · rintro ⟨e, h1, h2, h3⟩
          rcases lt.1 h1 with h4 | rfl
          · exact .inl ⟨e, h4, h2, h3⟩
          · exact .inr h3
theorem allBits_spec {b : Nat} : ∀ {l : List (Nat × Mem)}, allBits b l = true → ∀ x ∈ l, b.testBit x.1 = true := by
  intro l
  induction l with
  | nil => intro _ x hx; cases hx
  | cons y l ih =>
    intro h x hx
    obtain ⟨e, m⟩ := y
    simp only [allBits] at h
    cases hb : Nat.testBit b e with
    | false => rw [hb] at h; cases h
    | true =>
      rw [hb] at h
      cases hx with
      | head => exact hb
      | tail _ hm => exact ih h x hm
theorem notLive_spec {t : T AObj} {i : Nat} (h : notLive t i = true) : ∀ o, t.get i = some o → o.live = false := by
  intro o ho
  unfold notLive at h
  rw [ho] at h
  cases o with
  | dead => rfl
  | _ => cases h
theorem freshIds_spec {N0 mask : Nat} {t : T AObj} : ∀ {n : Nat}, freshIds N0 mask t n = true → ∀ j, j < n → mask.testBit j = true ∨ notLive t (N0 + j) = true := by
  intro n
  induction n with
  | zero => intro _ j hj; omega
  | succ n ih =>
    intro h j hj
    simp only [freshIds] at h
    have h1 : cond (Nat.testBit mask n) true (notLive t (N0 + n)) = true := by
      cases hx : cond (Nat.testBit mask n) true (notLive t (N0 + n)) with
      | true => rfl
      | false => rw [hx] at h; cases h
    rw [h1] at h
    rcases Nat.lt_or_ge j n with h2 | h2
    · exact ih h j h2
    · obtain rfl : j = n := by omega
      cases hb : Nat.testBit mask j with
      | true => exact .inl rfl
      | false => rw [hb] at h1; exact .inr h1
theorem checkReads_spec {b : Nat} {m : Mem} : ∀ {l : List (Nat × Oper × T Value × Value)}, checkReads E b m l = true → ∀ x ∈ l, b.testBit x.1 = true ∨ readsAs E x.2.1 x.2.2.1 x.2.2.2 m = true := by
  intro l
  induction l with
  | nil => intro _ x hx; cases hx
  | cons y l ih =>
    intro h x hx
    obtain ⟨j, o, t, v⟩ := y
    simp only [checkReads] at h
    have h1 : cond (Nat.testBit b j) true (readsAs E o t v m) = true := by
      cases hx : cond (Nat.testBit b j) true (readsAs E o t v m) with
      | true => rfl
      | false => rw [hx] at h; cases h
    rw [h1] at h
    cases hx with
    | head =>
      cases hb : Nat.testBit b j with
      | true => exact .inl (by first | exact hb | rfl)
      | false => rw [hb] at h1; exact .inr h1
    | tail _ hm => exact ih h x hm
theorem readsAs_spec {o : Oper} {t : T Value} {v : Value} {m : Mem} (h : readsAs E o t v m = true) : evOp E (evalT t) o m = [.val v] := by
  unfold readsAs at h
  split at h
  · rename_i x hx
    rw [hx, (veq_sound 30).1 x v h]
  · cases h
/-- back through the memories of the chain, as far as the order lets -/
theorem checkBack_spec {M0 : Mem} {o : Oper} {t : T Value} {v : Value} {b : Nat} : ∀ {l : List (Nat × Mem)}, l.Pairwise (fun x y => y.1 < x.1) → checkBack E M0 o t v b l = true →
    (∀ x ∈ l, (∀ y ∈ l, x.1 < y.1 → b.testBit y.1 = false) → readsAs E o t v x.2 = true) ∧ ((∀ y ∈ l, b.testBit y.1 = false) → readsAs E o t v M0 = true) := by
  intro l
  induction l with
  | nil => intro _ h; exact ⟨fun x hx => absurd hx (by simp), fun _ => h⟩
  | cons p l ih =>
    intro hs h
    obtain ⟨e, m⟩ := p
    rw [List.pairwise_cons] at hs
    simp only [checkBack] at h
    cases h1 : readsAs E o t v m with
    | false => rw [h1] at h; cases h
    | true =>
      rw [h1] at h
      refine ⟨fun x hx hy => ?_, fun hy => ?_⟩
      · cases hx with
        | head => exact h1
        | tail _ hm =>
          have hlt := hs.1 x hm
          have hbe := hy (e, m) (by simp) hlt
          simp only at hbe
          rw [hbe] at h
          exact (ih hs.2 h).1 x hm (fun y hy2 => hy y (by simp [hy2]))
      · have hbe := hy (e, m) (by simp)
        simp only at hbe
        rw [hbe] at h
        exact (ih hs.2 h).2 (fun y hy2 => hy y (by simp [hy2]))
end
end Go.AE
