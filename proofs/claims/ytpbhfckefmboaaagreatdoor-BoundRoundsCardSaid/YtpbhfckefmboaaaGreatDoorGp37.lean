/- AEDrawB, AEDrawC: in one text. -/
import Derived.Test.YtpbhfckefmboaaaGreatDoorGp36
set_option linter.unusedVariables false
set_option linter.unusedSimpArgs false
set_option linter.unusedSectionVars false
namespace Go.AE
open Go.RowKit
variable {E : Env} {P : Program} {w0 : World}
def Cl.isEff : Cl → Bool
  | .eff _ _ => true
  | _ => false
def Cl.isAlloc : Cl → Bool
  | .alloc _ _ => true
  | _ => false
structure RunOK (E : Env) (call : CallF) (ops : Array Oper) (B : List Nat) (n N N0 : Nat) (M0 : Mem) (t0 : T Value) (S : Nat → DS) (c : Nat → Cl) : Prop where
  start : S 0 = ⟨t0, M0, [], [], [], 0⟩
  cls : ∀ k o, ops.toList[k]? = some o → clsD E call ops n N0 M0 (S k) o (B.getD k 0) = some (c k)
  step : ∀ k o, ops.toList[k]? = some o → S (k + 1) = applyD N N0 (S k) k o (B.getD k 0) (c k)
theorem runD_ok {call : CallF} {ops : Array Oper} {B : List Nat} {n N N0 : Nat} {M0 : Mem} : ∀ (l : List Oper) (i : Nat) (S0 Sf : DS), runD E call ops B n N N0 M0 l i S0 = some Sf →
    ∃ (S : Nat → DS) (c : Nat → Cl), S 0 = S0 ∧ S l.length = Sf ∧ ∀ (k : Nat) (o : Oper), l[k]? = some o → clsD E call ops n N0 M0 (S k) o (B.getD (i + k) 0) = some (c k) ∧ S (k + 1) = applyD N N0 (S k) (i + k) o (B.getD (i + k) 0) (c k) := by
  intro l
  induction l with
  | nil => intro i S0 Sf h; simp [runD] at h; exact ⟨fun _ => S0, fun _ => .skip, rfl, h, fun k o ho => by simp at ho⟩
  | cons o l ih =>
    intro i S0 Sf h
    simp only [runD] at h
    split at h
    · cases h
    · rename_i c0 hc
      obtain ⟨S, c, h1, h2, h3⟩ := ih (i + 1) _ Sf h
      refine ⟨fun k => match k with | 0 => S0 | k + 1 => S k, fun k => match k with | 0 => c0 | k + 1 => c k, rfl, h2, fun k p hp => ?_⟩
      cases k with
      | zero => cases hp; exact ⟨hc, h1⟩
      | succ k =>
        have := h3 k p (by simpa using hp)
        rw [show i + (k + 1) = i + 1 + k from by omega]
        exact this
section
variable {call : CallF} {ops : Array Oper} {B : List Nat} {n N N0 : Nat} {M0 : Mem} {t0 : T Value} {S : Nat → DS} {c : Nat → Cl}
def chainOf (c : Nat → Cl) (M0 : Mem) (D : Nat → Bool) : Nat → Mem
  | 0 => M0
  | k + 1 => match D k, c k with
    | true, .eff _ m => m
    | _, _ => chainOf c M0 D k
/-- taken in by an operation of D -/
def Mg (c : Nat → Cl) (B : List Nat) (n : Nat) (D : Nat → Bool) (j : Nat) : Prop := ∃ e, e < n ∧ D e = true ∧ (c e).isEff = true ∧ (B.getD e 0).testBit j = true
theorem dropAllocs_mem {b : Nat} : ∀ {l : List (Nat × AObj)} {x : Nat × AObj}, x ∈ dropAllocs b l ↔ x ∈ l ∧ b.testBit x.1 = false := by
  intro l
  induction l with
  | nil => intro x; simp [dropAllocs]
  | cons y l ih =>
    intro x
    obtain ⟨j, ob⟩ := y
    simp only [dropAllocs]
    cases h : Nat.testBit b j with
    | true =>
      simp only [cond, ih, List.mem_cons]
      constructor
      · exact fun ⟨h1, h2⟩ => ⟨.inr h1, h2⟩
      · rintro ⟨rfl | h1, h2⟩
        · rw [h] at h2; cases h2
        · exact ⟨h1, h2⟩
    | false =>
      simp only [cond, List.mem_cons, ih]
      constructor
      · rintro (rfl | ⟨h1, h2⟩)
        · exact ⟨.inl rfl, h⟩
        · exact ⟨.inr h1, h2⟩
      · rintro ⟨rfl | h1, h2⟩
        · exact .inl rfl
        · exact .inr ⟨h1, h2⟩
/-- what stands in the reckoning's records behind k operations -/
structure Recs (c : Nat → Cl) (ops : Array Oper) (B : List Nat) (M0 : Mem) (S : Nat → DS) (k : Nat) : Prop where
  effs : ∀ e m, (e, m) ∈ (S k).effs ↔ e < k ∧ ∃ v, c e = .eff v m
  sorted : (S k).effs.Pairwise (fun x y => y.1 < x.1)
  chain : (S k).chain = chainOf c M0 (fun _ => true) k
  allocs : ∀ i ob, (i, ob) ∈ (S k).allocs ↔ i < k ∧ (∃ mk, c i = .alloc ob mk) ∧ ∀ e, e < k → i < e → (c e).isEff = true → (B.getD e 0).testBit i = false
  reads : ∀ i o t v, (i, o, t, v) ∈ (S k).reads ↔ i < k ∧ ops.toList[i]? = some o ∧ c i = .read v ∧ t = (S i).t
  mask : ∀ j, (S k).mask.testBit j = true ↔ ∃ e, e < k ∧ (c e).isEff = true ∧ (B.getD e 0).testBit j = true
theorem recs (R : RunOK E call ops B n N N0 M0 t0 S c) : ∀ k, k ≤ ops.toList.length → Recs c ops B M0 S k := by
  intro k
  induction k with
  | zero =>
    intro _
    refine ⟨fun e m => ?_, ?_, ?_, fun i ob => ?_, fun i o t v => ?_, fun j => ?_⟩ <;> rw [R.start] <;> simp [chainOf]
  | succ k ih =>
    intro hk
    have I := ih (by omega)
    have ho : ops.toList[k]? = some (ops.toList[k]'(by omega)) := List.getElem?_eq_getElem (by omega)
    generalize ops.toList[k]'(by omega) = o at ho
    have hs := R.step k o ho
    have lt : ∀ {e : Nat}, e < k + 1 ↔ e < k ∨ e = k := fun {e} => by omega
    have noEff : (c k).isEff = false → ∀ {e m}, ((e < k + 1 ∧ ∃ v, c e = .eff v m) ↔ (e < k ∧ ∃ v, c e = .eff v m)) := by
      intro hne e m
      constructor
      · rintro ⟨h1, v, h2⟩
        rcases lt.1 h1 with h3 | rfl
        · exact ⟨h3, v, h2⟩
        · rw [h2] at hne; cases hne
      · rintro ⟨h1, h2⟩; exact ⟨by omega, h2⟩
    have noAlloc : (c k).isEff = false → (∀ ob mk, c k ≠ .alloc ob mk) → ∀ {i ob}, ((i < k + 1 ∧ (∃ mk, c i = .alloc ob mk) ∧ ∀ e, e < k + 1 → i < e → (c e).isEff = true → (B.getD e 0).testBit i = false) ↔ (i < k ∧ (∃ mk, c i = .alloc ob mk) ∧ ∀ e, e < k → i < e → (c e).isEff = true → (B.getD e 0).testBit i = false)) := by
      intro hne hna i ob
      constructor
      · rintro ⟨h1, ⟨mk, h2⟩, h3⟩
        rcases lt.1 h1 with h4 | rfl
        · exact ⟨h4, ⟨mk, h2⟩, fun e he => h3 e (by omega)⟩
        · exact absurd h2 (hna ob mk)
      · rintro ⟨h1, h2, h3⟩
        refine ⟨by omega, h2, fun e he hie hef => ?_⟩
        rcases lt.1 he with h4 | rfl
        · exact h3 e h4 hie hef
        · rw [hne] at hef; cases hef
    have noMask : (c k).isEff = false → ∀ {j}, ((∃ e, e < k + 1 ∧ (c e).isEff = true ∧ (B.getD e 0).testBit j = true) ↔ (∃ e, e < k ∧ (c e).isEff = true ∧ (B.getD e 0).testBit j = true)) := by
      intro hne j
      constructor
      · rintro ⟨e, h1, h2, h3⟩
        rcases lt.1 h1 with h4 | rfl
        · exact ⟨e, h4, h2, h3⟩
        · rw [hne] at h2; cases h2
      · rintro ⟨e, h1, h2⟩; exact ⟨e, by omega, h2⟩
    have noRead : (∀ v, c k ≠ .read v) → ∀ {i o t v}, ((i < k + 1 ∧ ops.toList[i]? = some o ∧ c i = .read v ∧ t = (S i).t) ↔ (i < k ∧ ops.toList[i]? = some o ∧ c i = .read v ∧ t = (S i).t)) := by
      intro hnr i o t v
      constructor
      · rintro ⟨h1, h2, h3, h4⟩
        rcases lt.1 h1 with h5 | rfl
        · exact ⟨h5, h2, h3, h4⟩
        · exact absurd h3 (hnr v)
      · rintro ⟨h1, h2⟩; exact ⟨by omega, h2⟩
    have chN : (c k).isEff = false → chainOf c M0 (fun _ => true) (k + 1) = chainOf c M0 (fun _ => true) k := by
      intro hne
      simp only [chainOf]
      split
      · rename_i h2; rw [h2] at hne; cases hne
      · rfl
    cases hc : c k with
    | skip =>
      have e1 : (c k).isEff = false := by rw [hc]; rfl
      rw [hc] at hs
      refine ⟨fun e m => ?_, ?_, ?_, fun i ob => ?_, fun i o t v => ?_, fun j => ?_⟩ <;> rw [hs] <;> simp only [applyD]
      · rw [noEff e1]; exact I.effs e m
      · exact I.sorted
      · rw [chN e1]; exact I.chain
      · rw [noAlloc e1 (fun ob mk => by rw [hc]; simp)]; exact I.allocs i ob
      · rw [noRead (fun v => by rw [hc]; simp)]; exact I.reads i o t v
      · rw [noMask e1]; exact I.mask j
    | pure v0 =>
      have e1 : (c k).isEff = false := by rw [hc]; rfl
      rw [hc] at hs
      refine ⟨fun e m => ?_, ?_, ?_, fun i ob => ?_, fun i o t v => ?_, fun j => ?_⟩ <;> rw [hs] <;> simp only [applyD]
      · rw [noEff e1]; exact I.effs e m
      · exact I.sorted
      · rw [chN e1]; exact I.chain
      · rw [noAlloc e1 (fun ob mk => by rw [hc]; simp)]; exact I.allocs i ob
      · rw [noRead (fun v => by rw [hc]; simp)]; exact I.reads i o t v
      · rw [noMask e1]; exact I.mask j
    | read v0 =>
      have e1 : (c k).isEff = false := by rw [hc]; rfl
      have hs' := hs
      rw [hc] at hs
      refine ⟨fun e m => ?_, ?_, ?_, fun i ob => ?_, fun i p t v => ?_, fun j => ?_⟩ <;> rw [hs] <;> simp only [applyD]
      · rw [noEff e1]; exact I.effs e m
      · exact I.sorted
      · rw [chN e1]; exact I.chain
      · rw [noAlloc e1 (fun ob mk => by rw [hc]; simp)]; exact I.allocs i ob
      · rw [List.mem_cons, I.reads i p t v]
        constructor
        · rintro (h | ⟨h1, h2⟩)
          · cases h; exact ⟨by omega, ho, hc, rfl⟩
          · exact ⟨by omega, h2⟩
        · rintro ⟨h1, h2, h3, h4⟩
          rcases lt.1 h1 with h5 | rfl
          · exact .inr ⟨h5, h2, h3, h4⟩
          · rw [ho] at h2; cases h2
            rw [hc] at h3; cases h3
            exact .inl (by rw [h4])
      · rw [noMask e1]; exact I.mask j
    | alloc ob0 mk0 =>
      have e1 : (c k).isEff = false := by rw [hc]; rfl
      rw [hc] at hs
      refine ⟨fun e m => ?_, ?_, ?_, fun i ob => ?_, fun i o t v => ?_, fun j => ?_⟩ <;> rw [hs] <;> simp only [applyD]
      · rw [noEff e1]; exact I.effs e m
      · exact I.sorted
      · rw [chN e1]; exact I.chain
      · rw [List.mem_cons, I.allocs i ob]
        constructor
        · rintro (h | ⟨h1, h2, h3⟩)
          · cases h; exact ⟨by omega, ⟨mk0, hc⟩, fun e he hie => by omega⟩
          · refine ⟨by omega, h2, fun e he hie hef => ?_⟩
            rcases lt.1 he with h4 | rfl
            · exact h3 e h4 hie hef
            · rw [e1] at hef; cases hef
        · rintro ⟨h1, ⟨mk, h2⟩, h3⟩
          rcases lt.1 h1 with h4 | rfl
          · exact .inr ⟨h4, ⟨mk, h2⟩, fun e he => h3 e (by omega)⟩
          · rw [hc] at h2; cases h2; exact .inl rfl
      · rw [noRead (fun v => by rw [hc]; simp)]; exact I.reads i o t v
      · rw [noMask e1]; exact I.mask j
    | eff v0 m0 =>
      rw [hc] at hs
      refine ⟨fun e m => ?_, ?_, ?_, fun i ob => ?_, fun i o t v => ?_, fun j => ?_⟩ <;> rw [hs] <;> simp only [applyD]
      · rw [List.mem_cons, I.effs e m]
        constructor
        · rintro (h | ⟨h1, h2⟩)
          · cases h; exact ⟨by omega, v0, hc⟩
          · exact ⟨by omega, h2⟩
        · rintro ⟨h1, v, h2⟩
          rcases lt.1 h1 with h3 | rfl
          · exact .inr ⟨h3, v, h2⟩
          · rw [hc] at h2; cases h2; exact .inl rfl
      · rw [List.pairwise_cons]
        exact ⟨fun x hx => ((I.effs x.1 x.2).1 hx).1, I.sorted⟩
      · simp only [chainOf, hc]
      · rw [dropAllocs_mem, I.allocs i ob]
        constructor
        · rintro ⟨⟨h1, h2, h3⟩, h4⟩
          refine ⟨by omega, h2, fun e he hie hef => ?_⟩
          rcases lt.1 he with h5 | rfl
          · exact h3 e h5 hie hef
          · exact h4
        · rintro ⟨h1, ⟨mk, h2⟩, h3⟩
          rcases lt.1 h1 with h4 | rfl
          · exact ⟨⟨h4, ⟨mk, h2⟩, fun e he => h3 e (by omega)⟩, h3 k (by omega) h4 (by rw [hc]; rfl)⟩
          · rw [hc] at h2; cases h2
      · rw [noRead (fun v => by rw [hc]; simp)]; exact I.reads i o t v
      · rw [Nat.testBit_or, Bool.or_eq_true, I.mask j]
        constructor
        · rintro (⟨e, h1, h2⟩ | h)
          · exact ⟨e, by omega, h2⟩
          · exact ⟨k, by omega, by rw [hc]; rfl, h⟩
        · rintro ⟨e, h1, h2, h3⟩
          rcases lt.1 h1 with h4 | rfl
          · exact .inl ⟨e, h4, h2, h3⟩
          · exact .inr h3
theorem allBits_spec {b : Nat} : ∀ {l : List (Nat × Mem)}, allBits b l = true → ∀ x ∈ l, b.testBit x.1 = true := by
  intro l
  induction l with
  | nil => intro _ x hx; cases hx
  | cons y l ih =>
    intro h x hx
    obtain ⟨e, m⟩ := y
    simp only [allBits] at h
    cases hb : Nat.testBit b e with
    | false => rw [hb] at h; cases h
    | true =>
      rw [hb] at h
      cases hx with
      | head => exact hb
      | tail _ hm => exact ih h x hm
theorem notLive_spec {t : T AObj} {i : Nat} (h : notLive t i = true) : ∀ o, t.get i = some o → o.live = false := by
  intro o ho
  unfold notLive at h
  rw [ho] at h
  cases o with
  | dead => rfl
  | _ => cases h
theorem freshIds_spec {N0 mask : Nat} {t : T AObj} : ∀ {n : Nat}, freshIds N0 mask t n = true → ∀ j, j < n → mask.testBit j = true ∨ notLive t (N0 + j) = true := by
  intro n
  induction n with
  | zero => intro _ j hj; omega
  | succ n ih =>
    intro h j hj
    simp only [freshIds] at h
    have h1 : cond (Nat.testBit mask n) true (notLive t (N0 + n)) = true := by
      cases hx : cond (Nat.testBit mask n) true (notLive t (N0 + n)) with
      | true => rfl
      | false => rw [hx] at h; cases h
    rw [h1] at h
    rcases Nat.lt_or_ge j n with h2 | h2
    · exact ih h j h2
    · obtain rfl : j = n := by omega
      cases hb : Nat.testBit mask j with
      | true => exact .inl rfl
      | false => rw [hb] at h1; exact .inr h1
theorem checkReads_spec {b : Nat} {m : Mem} : ∀ {l : List (Nat × Oper × T Value × Value)}, checkReads E b m l = true → ∀ x ∈ l, b.testBit x.1 = true ∨ readsAs E x.2.1 x.2.2.1 x.2.2.2 m = true := by
  intro l
  induction l with
  | nil => intro _ x hx; cases hx
  | cons y l ih =>
    intro h x hx
    obtain ⟨j, o, t, v⟩ := y
    simp only [checkReads] at h
    have h1 : cond (Nat.testBit b j) true (readsAs E o t v m) = true := by
      cases hx : cond (Nat.testBit b j) true (readsAs E o t v m) with
      | true => rfl
      | false => rw [hx] at h; cases h
    rw [h1] at h
    cases hx with
    | head =>
      cases hb : Nat.testBit b j with
      | true => exact .inl (by first | exact hb | rfl)
      | false => rw [hb] at h1; exact .inr h1
    | tail _ hm => exact ih h x hm
theorem readsAs_spec {o : Oper} {t : T Value} {v : Value} {m : Mem} (h : readsAs E o t v m = true) : evOp E (evalT t) o m = [.val v] := by
  unfold readsAs at h
  split at h
  · rename_i x hx
    rw [hx, (veq_sound 30).1 x v h]
  · cases h
/-- back through the memories of the chain, as far as the order lets -/
theorem checkBack_spec {M0 : Mem} {o : Oper} {t : T Value} {v : Value} {b : Nat} : ∀ {l : List (Nat × Mem)}, l.Pairwise (fun x y => y.1 < x.1) → checkBack E M0 o t v b l = true →
    (∀ x ∈ l, (∀ y ∈ l, x.1 < y.1 → b.testBit y.1 = false) → readsAs E o t v x.2 = true) ∧ ((∀ y ∈ l, b.testBit y.1 = false) → readsAs E o t v M0 = true) := by
  intro l
  induction l with
  | nil => intro _ h; exact ⟨fun x hx => absurd hx (by simp), fun _ => h⟩
  | cons p l ih =>
    intro hs h
    obtain ⟨e, m⟩ := p
    rw [List.pairwise_cons] at hs
    simp only [checkBack] at h
    cases h1 : readsAs E o t v m with
    | false => rw [h1] at h; cases h
    | true =>
      rw [h1] at h
      refine ⟨fun x hx hy => ?_, fun hy => ?_⟩
      · cases hx with
        | head => exact h1
        | tail _ hm =>
          have hlt := hs.1 x hm
          have hbe := hy (e, m) (by simp) hlt
          simp only at hbe
          rw [hbe] at h
          exact (ih hs.2 h).1 x hm (fun y hy2 => hy y (by simp [hy2]))
      · have hbe := hy (e, m) (by simp)
        simp only at hbe
        rw [hbe] at h
        exact (ih hs.2 h).2 (fun y hy2 => hy y (by simp [hy2]))
end
end Go.AE
namespace Go.AE
open Go.RowKit
variable {E : Env} {P : Program} {w0 : World}
theorem MR.sub {σ : Sg} {m m1 : Mem} {w : World} (h : MR E w0 σ m w) (hn : m1.n = m.n) (hs : ∀ i o, m1.t.get i = some o → o.live = true → m.t.get i = some o) : MR E w0 σ m1 w :=
  ⟨h.below, fun i o hi ho => h.obj i o (hs i o hi ho) ho, fun i j o o' x y hi ho hj ho' => h.inj i j o o' x y (hs i o hi ho) ho (hs j o' hj ho') ho', fun i hi => h.fresh i (hn ▸ hi)⟩
theorem LiveB.sub {σ : Sg} {m m1 : Mem} {b : Nat} (hs : ∀ i o, m1.t.get i = some o → o.live = true → m.t.get i = some o) (h : LiveB σ m1 b) : LiveB σ m b := by
  obtain ⟨i, o, x, h1, h2, h3, h4⟩ := h
  exact ⟨i, o, x, hs i o h1 h2, h2, h3, h4⟩
/-- something that is there in the world, and has a number, is laid back -/
theorem MR.putBack {σ : Sg} {m : Mem} {w : World} (h : MR E w0 σ m w) {id : Nat} {x : Inf} (hx : σ id = some x) {o : AObj} {ob : Obj} (hB : w0.heap.size ≤ x.b) (hl : ¬ LiveB σ m x.b)
    (hob : w.heap[x.b]? = some ob) (hor : OR E σ x o ob) : MR E w0 σ ⟨m.n, m.t.set id o⟩ w := by
  refine ⟨h.below, ?_, ?_, h.fresh⟩
  · intro j p hj hp
    by_cases e : id = j
    · subst e
      rw [T.get_set_same] at hj
      cases hj
      exact ⟨x, ob, hx, hB, hob, hor⟩
    · rw [T.get_set_ne _ _ e] at hj
      exact h.obj j p hj hp
  · intro j k p q z z' hj hp hk hq hz hz' e
    by_cases e1 : id = j <;> by_cases e2 : id = k
    · omega
    · subst e1
      rw [T.get_set_ne _ _ e2] at hk
      rw [hx] at hz; cases hz
      exact absurd ⟨k, q, z', hk, hq, hz', e.symm⟩ hl
    · subst e2
      rw [T.get_set_ne _ _ e1] at hj
      rw [hx] at hz'; cases hz'
      exact absurd ⟨j, p, z, hj, hp, hz, e⟩ hl
    · rw [T.get_set_ne _ _ e1] at hj
      rw [T.get_set_ne _ _ e2] at hk
      exact h.inj j k p q z z' hj hp hk hq hz hz' e
section
variable {call : CallF} {ops : Array Oper} {B : List Nat} {n N N0 : Nat} {M0 : Mem} {t0 : T Value} {S : Nat → DS} {c : Nat → Cl}
open Classical in
/-- the temporaries behind the operations of D, one by one in the order of the text -/
noncomputable def W (c : Nat → Cl) (ops : Array Oper) (N N0 : Nat) (t0 : T Value) (D : Nat → Bool) : Nat → Nat → Value
  | 0, τ => tv t0 τ
  | k + 1, τ => if D k = true ∧ (∃ o, ops.toList[k]? = some o ∧ o.dst = some τ) ∧ τ < N then (c k).val N0 k else W c ops N N0 t0 D k τ
open Classical in
/-- the memory: the chain's, and what was laid by operations of D and not taken in -/
noncomputable def PM (c : Nat → Cl) (B : List Nat) (n N0 : Nat) (M0 : Mem) (D : Nat → Bool) : Nat → T AObj
  | 0 => (chainOf c M0 D n).t
  | k + 1 => match c k with
    | .alloc ob _ => if D k = true ∧ ¬ Mg c B n D k then (PM c B n N0 M0 D k).set (N0 + k) ob else PM c B n N0 M0 D k
    | _ => PM c B n N0 M0 D k
theorem tv_put (N : Nat) (t : T Value) (d : Option Tmp) (v : Value) (τ : Nat) : tv (put N t d v) τ = if d = some τ ∧ τ < N then v else tv t τ := by
  cases d with
  | none => simp [AE.put]
  | some d =>
    simp only [AE.put]
    cases h : Nat.blt d N with
    | true =>
      have h' : d < N := Nat.le_of_ble_eq_true h
      simp only [tv, T.get_set]
      by_cases e : d = τ
      · subst e; simp [h']
      · simp [e]
    | false =>
      have h' : ¬ d < N := fun h1 => by
        have h2 : Nat.blt d N = true := Nat.ble_eq_true_of_le h1
        rw [h2] at h; cases h
      by_cases e : d = τ
      · subst e; simp [h']
      · simp [e]
theorem applyD_t (S : DS) (i : Nat) (o : Oper) (b : Nat) (c : Cl) : (applyD N N0 S i o b c).t = put N S.t o.dst (c.val N0 i) := by cases c <;> rfl
theorem W_all (R : RunOK E call ops B n N N0 M0 t0 S c) : ∀ k, k ≤ ops.toList.length → ∀ τ, tv (S k).t τ = W c ops N N0 t0 (fun _ => true) k τ := by
  intro k
  induction k with
  | zero => intro _ τ; rw [R.start]; rfl
  | succ k ih =>
    intro hk τ
    have ho : ops.toList[k]? = some (ops.toList[k]'(by omega)) := List.getElem?_eq_getElem (by omega)
    generalize ops.toList[k]'(by omega) = o at ho
    rw [R.step k o ho, applyD_t, tv_put, W]
    by_cases h : o.dst = some τ ∧ τ < N
    · rw [if_pos h, if_pos ⟨rfl, ⟨o, ho, h.1⟩, h.2⟩]
    · rw [if_neg h, if_neg (fun ⟨_, ⟨p, hp, hd⟩, hN⟩ => h ⟨by rw [ho] at hp; cases hp; exact hd, hN⟩)]
      exact ih (by omega) τ
/-- D and 'all' come to one temporary where they have the same writers of it -/
theorem W_same {D D' : Nat → Bool} {τ : Nat} : ∀ k, (∀ i, i < k → (∃ o, ops.toList[i]? = some o ∧ o.dst = some τ) → D i = D' i) → W c ops N N0 t0 D k τ = W c ops N N0 t0 D' k τ := by
  intro k
  induction k with
  | zero => intro _; rfl
  | succ k ih =>
    intro h
    simp only [W]
    rw [ih (fun i hi => h i (by omega))]
    by_cases hw : ∃ o, ops.toList[k]? = some o ∧ o.dst = some τ
    · rw [h k (by omega) hw]
    · rw [if_neg (fun ⟨_, h2, _⟩ => hw h2), if_neg (fun ⟨_, h2, _⟩ => hw h2)]
/-- no writer of it from i on -/
theorem W_cut {D : Nat → Bool} {τ i : Nat} : ∀ k, i ≤ k → (∀ j, i ≤ j → j < k → (∃ o, ops.toList[j]? = some o ∧ o.dst = some τ) → D j = false) → W c ops N N0 t0 D k τ = W c ops N N0 t0 D i τ := by
  intro k
  induction k with
  | zero => intro h _; obtain rfl : i = 0 := by omega
            rfl
  | succ k ih =>
    intro h h2
    rcases Nat.lt_or_ge k i with h3 | h3
    · obtain rfl : i = k + 1 := by omega
      rfl
    · simp only [W]
      rw [if_neg (fun ⟨h4, h5, _⟩ => by rw [h2 k h3 (by omega) h5] at h4; cases h4)]
      exact ih h3 (fun j hj hjk => h2 j hj (by omega))
theorem confl_dst_looks {x y : Oper} {d : Tmp} (hx : x.dst = some d) (hy : d ∈ looks ops y) : confl ops x y = true := by
  simp [confl, hx, memN_iff.2 hy]
theorem confl_looks_dst {x y : Oper} {d : Tmp} (hy : y.dst = some d) (hx : d ∈ looks ops x) : confl ops x y = true := by
  simp [confl, hy, memN_iff.2 hx]
theorem confl_dst_dst {x y : Oper} {d : Tmp} (hx : x.dst = some d) (hy : y.dst = some d) : confl ops x y = true := by
  simp [confl, hx, hy, Nat.beq_refl]
/-- the static facts on a region -/
structure Stat (ops : Array Oper) (B : List Nat) (n : Nat) : Prop where
  len : ops.toList.length = n
  back : ∀ (i : Nat) (o : Oper), ops.toList[i]? = some o → ∀ e ∈ o.after.toList, Region.binds .any e = true → e.on < i
  closed : ∀ {D : Nat → Bool}, (∀ (i : Nat) (o : Oper), ops.toList[i]? = some o → D i = true → ∀ e ∈ o.after.toList, Region.binds .any e = true → D e.on = true) → ∀ (i j : Nat), D i = true → (B.getD i 0).testBit j = true → D j = true
  tmps : ∀ (k i : Nat) (o p : Oper), ops.toList[k]? = some o → i < k → ops.toList[i]? = some p → confl ops p o = true → (B.getD k 0).testBit i = true
/-- what is ready: itself not in D, all that must come before in D -/
structure Ready (ops : Array Oper) (B : List Nat) (D : Nat → Bool) (i : Nat) (o : Oper) : Prop where
  op : ops.toList[i]? = some o
  out : D i = false
  before : ∀ j, (B.getD i 0).testBit j = true → D j = true
def Down (ops : Array Oper) (D : Nat → Bool) : Prop := ∀ (i : Nat) (o : Oper), ops.toList[i]? = some o → D i = true → ∀ e ∈ o.after.toList, Region.binds .any e = true → D e.on = true
theorem getElem?_lt {α : Type} {l : List α} {i : Nat} {x : α} (h : l[i]? = some x) : i < l.length := (List.getElem?_eq_some_iff.1 h).1
theorem W_looks (T : Stat ops B n) {D : Nat → Bool} (hD : Down ops D) {i : Nat} {o : Oper} (r : Ready ops B D i o) (R : RunOK E call ops B n N N0 M0 t0 S c) {τ : Nat} (hτ : τ ∈ looks ops o) : W c ops N N0 t0 D n τ = tv (S i).t τ := by
  have hi := getElem?_lt r.op
  rw [W_all R i (by omega)]
  rw [W_cut (i := i) n (by rw [← T.len]; omega) ?_]
  · refine W_same i (fun j hj ⟨p, hp, hd⟩ => ?_)
    exact r.before j (T.tmps i j o p r.op hj hp (confl_dst_looks hd hτ))
  · rintro j hj hjn ⟨p, hp, hd⟩
    by_cases e : i = j
    · subst e; exact r.out
    · cases hDj : D j with
      | false => rfl
      | true =>
        have h1 := T.tmps j i p o hp (by omega) r.op (confl_looks_dst hd hτ)
        have := T.closed hD j i hDj h1
        rw [r.out] at this; cases this
def addD (D : Nat → Bool) (i : Nat) : Nat → Bool := fun j => D j || Nat.beq i j
theorem addD_iff {D : Nat → Bool} {i j : Nat} : addD D i j = true ↔ D j = true ∨ i = j := by
  simp only [addD, Bool.or_eq_true]
  constructor
  · rintro (h | h)
    · exact .inl h
    · exact .inr (Nat.eq_of_beq_eq_true h)
  · rintro (h | rfl)
    · exact .inl h
    · exact .inr (Nat.beq_refl _)
theorem addD_ne {D : Nat → Bool} {i j : Nat} (h : i ≠ j) : addD D i j = D j := by
  have : Nat.beq i j = false := by
    cases hb : Nat.beq i j with
    | false => rfl
    | true => exact absurd (Nat.eq_of_beq_eq_true hb) h
  simp [addD, this]
theorem W_add (T : Stat ops B n) {D : Nat → Bool} (hD : Down ops D) {i : Nat} {o : Oper} (r : Ready ops B D i o) (τ : Nat) : W c ops N N0 t0 (addD D i) n τ = if o.dst = some τ ∧ τ < N then (c i).val N0 i else W c ops N N0 t0 D n τ := by
  have hi : i < n := by rw [← T.len]; exact getElem?_lt r.op
  by_cases hd : o.dst = some τ
  · have hlate : ∀ j, i + 1 ≤ j → j < n → (∃ p, ops.toList[j]? = some p ∧ p.dst = some τ) → D j = false := by
      rintro j hj hjn ⟨p, hp, hpd⟩
      cases hDj : D j with
      | false => rfl
      | true =>
        have h1 := T.tmps j i p o hp (by omega) r.op (confl_dst_dst hd hpd)
        have := T.closed hD j i hDj h1
        rw [r.out] at this; cases this
    rw [W_cut (i := i + 1) n (by omega) (fun j hj hjn hw => by rw [addD_ne (by omega)]; exact hlate j hj hjn hw)]
    rw [W_cut (D := D) (i := i + 1) n (by omega) hlate]
    simp only [W]
    have h2 : W c ops N N0 t0 (addD D i) i τ = W c ops N N0 t0 D i τ := W_same i (fun j hj _ => addD_ne (by omega))
    by_cases hN : τ < N
    · rw [if_pos ⟨addD_iff.2 (.inr rfl), ⟨o, r.op, hd⟩, hN⟩, if_pos ⟨hd, hN⟩]
    · rw [if_neg (fun h => hN h.2.2), if_neg (fun h => hN h.2), if_neg (fun h => hN h.2.2), h2]
  · rw [if_neg (fun h => hd h.1)]
    refine W_same n (fun j hj ⟨p, hp, hpd⟩ => addD_ne ?_)
    rintro rfl
    rw [r.op] at hp; cases hp
    exact hd hpd
end
end Go.AE
