/- Regions whose order is open: whatever order is drawn, the world fits what was reckoned in the order of the text. -/
import Derived.Test.YtkbbpjknakajeaaAEDrawB
namespace Go.AE
open Go.RowKit
variable {E : Env} {P : Program} {w0 : World}
theorem MR.sub {σ : Sg} {m m1 : Mem} {w : World} (h : MR E w0 σ m w) (hn : m1.n = m.n) (hs : ∀ i o, m1.t.get i = some o → o.live = true → m.t.get i = some o) : MR E w0 σ m1 w :=
  ⟨h.below, fun i o hi ho => h.obj i o (hs i o hi ho) ho, fun i j o o' x y hi ho hj ho' => h.inj i j o o' x y (hs i o hi ho) ho (hs j o' hj ho') ho', fun i hi => h.fresh i (hn ▸ hi)⟩
theorem LiveB.sub {σ : Sg} {m m1 : Mem} {b : Nat} (hs : ∀ i o, m1.t.get i = some o → o.live = true → m.t.get i = some o) (h : LiveB σ m1 b) : LiveB σ m b := by
  obtain ⟨i, o, x, h1, h2, h3, h4⟩ := h
  exact ⟨i, o, x, hs i o h1 h2, h2, h3, h4⟩
/-- something that is there in the world, and has a number, is laid back -/
theorem MR.putBack {σ : Sg} {m : Mem} {w : World} (h : MR E w0 σ m w) {id : Nat} {x : Inf} (hx : σ id = some x) {o : AObj} {ob : Obj} (hB : w0.heap.size ≤ x.b) (hl : ¬ LiveB σ m x.b)
    (hob : w.heap[x.b]? = some ob) (hor : OR E σ x o ob) : MR E w0 σ ⟨m.n, m.t.set id o⟩ w := by
  refine ⟨h.below, ?_, ?_, h.fresh⟩
  · intro j p hj hp
    by_cases e : id = j
    · subst e
      rw [T.get_set_same] at hj
      cases hj
      exact ⟨x, ob, hx, hB, hob, hor⟩
    · rw [T.get_set_ne _ _ e] at hj
      exact h.obj j p hj hp
  · intro j k p q z z' hj hp hk hq hz hz' e
    by_cases e1 : id = j <;> by_cases e2 : id = k
    · omega
    · subst e1
      rw [T.get_set_ne _ _ e2] at hk
      rw [hx] at hz; cases hz
      exact absurd ⟨k, q, z', hk, hq, hz', e.symm⟩ hl
    · subst e2
      rw [T.get_set_ne _ _ e1] at hj
      rw [hx] at hz'; cases hz'
      exact absurd ⟨j, p, z, hj, hp, hz, e⟩ hl
    · rw [T.get_set_ne _ _ e1] at hj
      rw [T.get_set_ne _ _ e2] at hk
      exact h.inj j k p q z z' hj hp hk hq hz hz' e
section
variable {call : CallF} {ops : Array Oper} {B : List Nat} {n N N0 : Nat} {M0 : Mem} {t0 : T Value} {S : Nat → DS} {c : Nat → Cl}
open Classical in
/-- the temporaries behind the operations of D, one by one in the order of the text -/
noncomputable def W (c : Nat → Cl) (ops : Array Oper) (N N0 : Nat) (t0 : T Value) (D : Nat → Bool) : Nat → Nat → Value
  | 0, τ => tv t0 τ
  | k + 1, τ => if D k = true ∧ (∃ o, ops.toList[k]? = some o ∧ o.dst = some τ) ∧ τ < N then (c k).val N0 k else W c ops N N0 t0 D k τ
open Classical in
/-- the memory: the chain's, and what was laid by operations of D and not taken in -/
noncomputable def PM (c : Nat → Cl) (B : List Nat) (n N0 : Nat) (M0 : Mem) (D : Nat → Bool) : Nat → T AObj
  | 0 => (chainOf c M0 D n).t
  | k + 1 => match c k with
    | .alloc ob _ => if D k = true ∧ ¬ Mg c B n D k then (PM c B n N0 M0 D k).set (N0 + k) ob else PM c B n N0 M0 D k
    | _ => PM c B n N0 M0 D k
theorem tv_put (N : Nat) (t : T Value) (d : Option Tmp) (v : Value) (τ : Nat) : tv (put N t d v) τ = if d = some τ ∧ τ < N then v else tv t τ := by
  cases d with
  | none => simp [AE.put]
  | some d =>
    simp only [AE.put]
    cases h : Nat.blt d N with
    | true =>
      have h' : d < N := Nat.le_of_ble_eq_true h
      simp only [tv, T.get_set]
      by_cases e : d = τ
      · subst e; simp [h']
      · simp [e]
    | false =>
      have h' : ¬ d < N := fun h1 => by
        have h2 : Nat.blt d N = true := Nat.ble_eq_true_of_le h1
        rw [h2] at h; cases h
      by_cases e : d = τ
      · subst e; simp [h']
      · simp [e]
theorem applyD_t (S : DS) (i : Nat) (o : Oper) (b : Nat) (c : Cl) : (applyD N N0 S i o b c).t = put N S.t o.dst (c.val N0 i) := by cases c <;> rfl
theorem W_all (R : RunOK E call ops B n N N0 M0 t0 S c) : ∀ k, k ≤ ops.toList.length → ∀ τ, tv (S k).t τ = W c ops N N0 t0 (fun _ => true) k τ := by
  intro k
  induction k with
  | zero => intro _ τ; rw [R.start]; rfl
  | succ k ih =>
    intro hk τ
    have ho : ops.toList[k]? = some (ops.toList[k]'(by omega)) := List.getElem?_eq_getElem (by omega)
    generalize ops.toList[k]'(by omega) = o at ho
    rw [R.step k o ho, applyD_t, tv_put, W]
    by_cases h : o.dst = some τ ∧ τ < N
    · rw [if_pos h, if_pos ⟨rfl, ⟨o, ho, h.1⟩, h.2⟩]
    · rw [if_neg h, if_neg (fun ⟨_, ⟨p, hp, hd⟩, hN⟩ => h ⟨by rw [ho] at hp; cases hp; exact hd, hN⟩)]
      exact ih (by omega) τ
/-- D and 'all' come to one temporary where they have the same writers of it -/
theorem W_same {D D' : Nat → Bool} {τ : Nat} : ∀ k, (∀ i, i < k → (∃ o, ops.toList[i]? = some o ∧ o.dst = some τ) → D i = D' i) → W c ops N N0 t0 D k τ = W c ops N N0 t0 D' k τ := by
  intro k
  induction k with
  | zero => intro _; rfl
  | succ k ih =>
    intro h
    simp only [W]
    rw [ih (fun i hi => h i (by omega))]
    by_cases hw : ∃ o, ops.toList[k]? = some o ∧ o.dst = some τ
    · rw [h k (by omega) hw]
    · rw [if_neg (fun ⟨_, h2, _⟩ => hw h2), if_neg (fun ⟨_, h2, _⟩ => hw h2)]
/-- no writer of it from i on -/
theorem W_cut {D : Nat → Bool} {τ i : Nat} : ∀ k, i ≤ k → (∀ j, i ≤ j → j < k → (∃ o, ops.toList[j]? = some o ∧ o.dst = some τ) → D j = false) → W c ops N N0 t0 D k τ = W c ops N N0 t0 D i τ := by
  intro k
  induction k with
  | zero => intro h _; obtain rfl : i = 0 := by omega
            rfl
  | succ k ih =>
    intro h h2
    rcases Nat.lt_or_ge k i with h3 | h3
    · obtain rfl : i = k + 1 := by omega
      rfl
    · simp only [W]
      rw [if_neg (fun ⟨h4, h5, _⟩ => by rw [h2 k h3 (by omega) h5] at h4; cases h4)]
      exact ih h3 (fun j hj hjk => h2 j hj (by omega))
theorem confl_dst_looks {x y : Oper} {d : Tmp} (hx : x.dst = some d) (hy : d ∈ looks ops y) : confl ops x y = true := by
  simp [confl, hx, memN_iff.2 hy]
theorem confl_looks_dst {x y : Oper} {d : Tmp} (hy : y.dst = some d) (hx : d ∈ looks ops x) : confl ops x y = true := by
  simp [confl, hy, memN_iff.2 hx]
theorem confl_dst_dst {x y : Oper} {d : Tmp} (hx : x.dst = some d) (hy : y.dst = some d) : confl ops x y = true := by
  simp [confl, hx, hy, Nat.beq_refl]
/-- the static facts on a region -/
structure Stat (ops : Array Oper) (B : List Nat) (n : Nat) : Prop where
  len : ops.toList.length = n
  back : ∀ (i : Nat) (o : Oper), ops.toList[i]? = some o → ∀ e ∈ o.after.toList, Region.binds .any e = true → e.on < i
  closed : ∀ {D : Nat → Bool}, (∀ (i : Nat) (o : Oper), ops.toList[i]? = some o → D i = true → ∀ e ∈ o.after.toList, Region.binds .any e = true → D e.on = true) → ∀ (i j : Nat), D i = true → (B.getD i 0).testBit j = true → D j = true
  tmps : ∀ (k i : Nat) (o p : Oper), ops.toList[k]? = some o → i < k → ops.toList[i]? = some p → confl ops p o = true → (B.getD k 0).testBit i = true
/-- what is ready: itself not in D, all that must come before in D -/
structure Ready (ops : Array Oper) (B : List Nat) (D : Nat → Bool) (i : Nat) (o : Oper) : Prop where
  op : ops.toList[i]? = some o
  out : D i = false
  before : ∀ j, (B.getD i 0).testBit j = true → D j = true
def Down (ops : Array Oper) (D : Nat → Bool) : Prop := ∀ (i : Nat) (o : Oper), ops.toList[i]? = some o → D i = true → ∀ e ∈ o.after.toList, Region.binds .any e = true → D e.on = true
theorem getElem?_lt {α : Type} {l : List α} {i : Nat} {x : α} (h : l[i]? = some x) : i < l.length := (List.getElem?_eq_some_iff.1 h).1
theorem W_looks (T : Stat ops B n) {D : Nat → Bool} (hD : Down ops D) {i : Nat} {o : Oper} (r : Ready ops B D i o) (R : RunOK E call ops B n N N0 M0 t0 S c) {τ : Nat} (hτ : τ ∈ looks ops o) : W c ops N N0 t0 D n τ = tv (S i).t τ := by
  have hi := getElem?_lt r.op
  rw [W_all R i (by omega)]
  rw [W_cut (i := i) n (by rw [← T.len]; omega) ?_]
  · refine W_same i (fun j hj ⟨p, hp, hd⟩ => ?_)
    exact r.before j (T.tmps i j o p r.op hj hp (confl_dst_looks hd hτ))
  · rintro j hj hjn ⟨p, hp, hd⟩
    by_cases e : i = j
    · subst e; exact r.out
    · cases hDj : D j with
      | false => rfl
      | true =>
        have h1 := T.tmps j i p o hp (by omega) r.op (confl_looks_dst hd hτ)
        have := T.closed hD j i hDj h1
        rw [r.out] at this; cases this
def addD (D : Nat → Bool) (i : Nat) : Nat → Bool := fun j => D j || Nat.beq i j
theorem addD_iff {D : Nat → Bool} {i j : Nat} : addD D i j = true ↔ D j = true ∨ i = j := by
  simp only [addD, Bool.or_eq_true]
  constructor
  · rintro (h | h)
    · exact .inl h
    · exact .inr (Nat.eq_of_beq_eq_true h)
  · rintro (h | rfl)
    · exact .inl h
    · exact .inr (Nat.beq_refl _)
theorem addD_ne {D : Nat → Bool} {i j : Nat} (h : i ≠ j) : addD D i j = D j := by
  have : Nat.beq i j = false := by
    cases hb : Nat.beq i j with
    | false => rfl
    | true => exact absurd (Nat.eq_of_beq_eq_true hb) h
  simp [addD, this]
theorem W_add (T : Stat ops B n) {D : Nat → Bool} (hD : Down ops D) {i : Nat} {o : Oper} (r : Ready ops B D i o) (τ : Nat) : W c ops N N0 t0 (addD D i) n τ = if o.dst = some τ ∧ τ < N then (c i).val N0 i else W c ops N N0 t0 D n τ := by
  have hi : i < n := by rw [← T.len]; exact getElem?_lt r.op
  by_cases hd : o.dst = some τ
  · have hlate : ∀ j, i + 1 ≤ j → j < n → (∃ p, ops.toList[j]? = some p ∧ p.dst = some τ) → D j = false := by
      rintro j hj hjn ⟨p, hp, hpd⟩
      cases hDj : D j with
      | false => rfl
      | true =>
        have h1 := T.tmps j i p o hp (by omega) r.op (confl_dst_dst hd hpd)
        have := T.closed hD j i hDj h1
        rw [r.out] at this; cases this
    rw [W_cut (i := i + 1) n (by omega) (fun j hj hjn hw => by rw [addD_ne (by omega)]; exact hlate j hj hjn hw)]
    rw [W_cut (D := D) (i := i + 1) n (by omega) hlate]
    simp only [W]
    have h2 : W c ops N N0 t0 (addD D i) i τ = W c ops N N0 t0 D i τ := W_same i (fun j hj _ => addD_ne (by omega))
    by_cases hN : τ < N
    · rw [if_pos ⟨addD_iff.2 (.inr rfl), ⟨o, r.op, hd⟩, hN⟩, if_pos ⟨hd, hN⟩]
    · rw [if_neg (fun h => hN h.2.2), if_neg (fun h => hN h.2), if_neg (fun h => hN h.2.2), h2]
  · rw [if_neg (fun h => hd h.1)]
    refine W_same n (fun j hj ⟨p, hp, hpd⟩ => addD_ne ?_)
    rintro rfl
    rw [r.op] at hp; cases hp
    exact hd hpd
end
end Go.AE
