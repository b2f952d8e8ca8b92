/- The relation between the abstract memory and a world; what each primitive does to both. -/
import Derived.Test.YtpbhfckefmboaaaGreatDoorGp26
import Derived.Below
import Derived.Laws.Cells
set_option linter.unusedVariables false
set_option linter.unusedSimpArgs false
set_option linter.unusedSectionVars false
namespace Go.AE
open Go.RowKit
namespace T
variable {α : Type}
theorem beq_mod (m : Nat) : Nat.beq (Nat.mod m 2) 0 = decide (m % 2 = 0) := by
  show Nat.beq (m % 2) 0 = _
  rcases Nat.mod_two_eq_zero_or_one m with h | h <;> rw [h] <;> rfl
theorem half_inj {m k : Nat} {t : Bool} (h : Nat.beq (Nat.mod m 2) 0 = t) (h' : Nat.beq (Nat.mod k 2) 0 = t) (h2 : Nat.div m 2 = Nat.div k 2) : m = k := by
  rw [beq_mod] at h h'
  have h3 : decide (m % 2 = 0) = decide (k % 2 = 0) := h.trans h'.symm
  have h2' : m / 2 = k / 2 := h2
  have hm := Nat.div_add_mod m 2
  have hk := Nat.div_add_mod k 2
  rcases Nat.mod_two_eq_zero_or_one m with a | a <;> rcases Nat.mod_two_eq_zero_or_one k with b | b
  · omega
  · rw [a, b] at h3; exact absurd h3 (by decide)
  · rw [a, b] at h3; exact absurd h3 (by decide)
  · omega
theorem half_ne {m k : Nat} {t : Bool} (h : Nat.beq (Nat.mod m 2) 0 = t) (h' : Nat.beq (Nat.mod k 2) 0 = !t) : m + 1 ≠ k + 1 := by
  intro e
  obtain rfl : m = k := by omega
  rw [h] at h'; cases t <;> cases h'
theorem half_le {m f : Nat} (h : m + 1 ≤ f + 1) : Nat.div m 2 ≤ f := by
  have : Nat.div m 2 = m / 2 := rfl
  omega
theorem get_single (v : α) : ∀ (f n j : Nat), n ≤ f → (single v f n).get j = if n = j then some v else none := by
  intro f
  induction f with
  | zero =>
    intro n j h
    obtain rfl : n = 0 := by omega
    rw [single_zero]
    cases j with
    | zero => rfl
    | succ k => simp only [get_succ, get_nil]; cases Nat.beq (Nat.mod k 2) 0 <;> rfl
  | succ f ih =>
    intro n j h
    cases n with
    | zero =>
      rw [single_succ_zero]
      cases j with
      | zero => rfl
      | succ k => simp only [get_succ, get_nil]; cases Nat.beq (Nat.mod k 2) 0 <;> rfl
    | succ m =>
      rw [single_succ]
      cases hm : Nat.beq (Nat.mod m 2) 0 <;> cases j with
      | zero => rfl
      | succ k =>
        cases hk : Nat.beq (Nat.mod k 2) 0 <;> simp only [cond, get_succ, hk] <;> first
          | (rw [ih _ _ (half_le h)]
             by_cases e : Nat.div m 2 = Nat.div k 2
             · rw [if_pos e, if_pos (by rw [half_inj hm hk e])]
             · rw [if_neg e, if_neg (by intro e2; apply e; obtain rfl : m = k := by omega
                                        rfl)])
          | (first | rw [get_nil, if_neg (half_ne hm hk)] | rw [if_neg (half_ne hm hk)])
theorem get_set (t : T α) : ∀ (i j : Nat) (v : α), (t.set i v).get j = if i = j then some v else t.get j := by
  induction t with
  | nil => intro i j v; rw [get_nil, set_nil]; exact get_single v i i j (Nat.le_refl _)
  | node x l r ihl ihr =>
    intro i j v
    cases i with
    | zero =>
      rw [set_zero]
      cases j with
      | zero => rfl
      | succ k => rw [get_succ, get_succ]; simp
    | succ m =>
      rw [set_succ]
      cases hm : Nat.beq (Nat.mod m 2) 0 <;> cases j with
      | zero => simp [cond, get_zero]
      | succ k =>
        cases hk : Nat.beq (Nat.mod k 2) 0 <;> simp only [cond, get_succ, hk] <;> first
          | (first | rw [ihl] | rw [ihr]
             by_cases e : Nat.div m 2 = Nat.div k 2
             · rw [if_pos e, if_pos (by rw [half_inj hm hk e])]
             · rw [if_neg e, if_neg (by intro e2; apply e; obtain rfl : m = k := by omega
                                        rfl)])
          | (rw [if_neg (half_ne hm hk)])
theorem get_set_same (t : T α) (i : Nat) (v : α) : (t.set i v).get i = some v := by rw [get_set, if_pos rfl]
theorem get_set_ne (t : T α) {i j : Nat} (v : α) (h : i ≠ j) : (t.set i v).get j = t.get j := by rw [get_set, if_neg h]
theorem get_setL (l : List α) : ∀ (t : T α) (i j : Nat), (t.setL i l).get j = if i ≤ j ∧ j < i + l.length then l[j - i]? else t.get j := by
  induction l with
  | nil => intro t i j; simp only [setL, List.length_nil]; rw [if_neg (by omega)]
  | cons x l ih =>
    intro t i j
    simp only [setL, List.length_cons]
    rw [ih, get_set]
    by_cases h1 : i + 1 ≤ j ∧ j < i + 1 + l.length
    · rw [if_pos h1, if_pos (by omega)]
      obtain ⟨d, hd⟩ : ∃ d, j - i = d + 1 := ⟨j - i - 1, by omega⟩
      rw [hd, List.getElem?_cons_succ, show j - (i + 1) = d from by omega]
    · rw [if_neg h1]
      by_cases h2 : i = j
      · subst h2; simp
      · rw [if_neg h2, if_neg (by omega)]
theorem get_ofList (l : List α) (j : Nat) : (ofList l).get j = l[j]? := by
  unfold ofList
  rw [get_setL]
  by_cases h : j < l.length
  · rw [if_pos (by omega)]; simp
  · rw [if_neg (by omega), get_nil, List.getElem?_eq_none (by omega)]
theorem getL_spec {t : T α} : ∀ {n i : Nat} {l : List α}, t.getL n i = some l → l.length = n ∧ ∀ j, j < n → t.get (i + j) = l[j]? := by
  intro n
  induction n with
  | zero => intro i l h; simp [getL] at h; subst h; exact ⟨rfl, fun j hj => by omega⟩
  | succ n ih =>
    intro i l h
    simp only [getL] at h
    split at h
    · cases h
    · rename_i x hx
      split at h
      · cases h
      · rename_i l' hl
        cases h
        obtain ⟨h1, h2⟩ := ih hl
        refine ⟨by simp [h1], fun j hj => ?_⟩
        cases j with
        | zero => simpa using hx
        | succ j => rw [List.getElem?_cons_succ, ← h2 j (by omega)]; congr 1; omega
end T
/-! ### values -/
structure Inf where
  b : Nat
  sh : Nat
  N : Nat
  s : Nat
abbrev Sg := Nat → Option Inf
inductive VR (σ : Sg) : Value → Value → Prop where
  | any (v' : Value) : VR σ bad v'
  | topB (b : Bool) : VR σ topB (.bool b)
  | topI (k : IntKind) (n : Int) : VR σ (topI k) (.int k n)
  | topS (a : Option Addr) (n c : Nat) : VR σ topS (.slice a n c)
  | topStr (s : ByteArray) : VR σ topStr (.string s)
  | topE (a : Option Addr) (c : Nat) : VR σ topE (.slice a 0 c)
  | refl {v : Value} (h : simple v = true) : VR σ v v
  | ptr {i o : Nat} {x : Inf} (h : σ i = some x) : VR σ (.pointer (some ⟨i, o, none⟩)) (.pointer (some ⟨x.b, x.sh + o, none⟩))
  | slice {i o n c c' : Nat} {x : Inf} (h : σ i = some x) (hc : c < OPEN → c' = c) (ho : OPEN ≤ c → n ≤ c' ∧ o + c' * x.s ≤ x.N) :
      VR σ (.slice (some ⟨i, o, none⟩) n c) (.slice (some ⟨x.b, x.sh + o, none⟩) n c')
  | map {r : Nat} {x : Inf} (h : σ r = some x) : VR σ (.map (some r)) (.map (some x.b))
  | yld {i : Nat} {x : Inf} (h : σ i = some x) : VR σ (AE.yld i) (.func (.yield x.b) #[] #[])
  | func {fn : Fn} {f f' c c' : Array Value} (hf : f.size = f'.size) (hf' : ∀ i, i < f.size → VR σ (f.getD i und) (f'.getD i und))
      (hc : c.size = c'.size) (hc' : ∀ i, i < c.size → VR σ (c.getD i und) (c'.getD i und)) : VR σ (.func fn f c) (.func fn f' c')
  | iface {t : TypeId} {v v' : Value} (h : VR σ v v') : VR σ (.iface t v) (.iface t v')
  | agg {c c' : Array Value} (hc : c.size = c'.size) (hc' : ∀ i, i < c.size → VR σ (c.getD i und) (c'.getD i und)) : VR σ (.agg c) (.agg c')
  | tuple {c c' : Array Value} (hc : c.size = c'.size) (hc' : ∀ i, i < c.size → VR σ (c.getD i und) (c'.getD i und)) : VR σ (.tuple c) (.tuple c')
def Ext (σ σ' : Sg) : Prop := ∀ i x, σ i = some x → σ' i = some x
theorem Ext.refl (σ : Sg) : Ext σ σ := fun _ _ h => h
theorem Ext.trans {a b c : Sg} (h : Ext a b) (k : Ext b c) : Ext a c := fun i x hx => k i x (h i x hx)
theorem VR.mono {σ σ' : Sg} (he : Ext σ σ') {v v' : Value} (h : VR σ v v') : VR σ' v v' := by
  induction h with
  | any v' => exact .any v'
  | topB b => exact .topB b
  | topI k n => exact .topI k n
  | topS a n c => exact .topS a n c
  | topStr s => exact .topStr s
  | topE a c => exact .topE a c
  | refl h => exact .refl h
  | ptr h => exact .ptr (he _ _ h)
  | slice h hc ho => exact .slice (he _ _ h) hc ho
  | map h => exact .map (he _ _ h)
  | yld h => exact .yld (he _ _ h)
  | func hf _ hc _ ih1 ih2 => exact .func hf ih1 hc ih2
  | iface _ ih => exact .iface ih
  | agg hc _ ih => exact .agg hc ih
  | tuple hc _ ih => exact .tuple hc ih
theorem VR.undef (σ : Sg) : VR σ und und := .tuple rfl (fun i hi => by simp at hi)
/-- lists of values -/
def VRL (σ : Sg) (l l' : List Value) : Prop := l.length = l'.length ∧ ∀ i, i < l.length → VR σ (l.getD i und) (l'.getD i und)
theorem VRL.mono {σ σ' : Sg} (he : Ext σ σ') {l l' : List Value} (h : VRL σ l l') : VRL σ' l l' := ⟨h.1, fun i hi => (h.2 i hi).mono he⟩
theorem VRL.nil (σ : Sg) : VRL σ [] [] := ⟨rfl, fun i hi => by simp at hi⟩
theorem VRL.cons {σ : Sg} {v v' : Value} {l l' : List Value} (h : VR σ v v') (hl : VRL σ l l') : VRL σ (v :: l) (v' :: l') :=
  ⟨by simp [hl.1], fun i hi => by
    cases i with
    | zero => simpa using h
    | succ i => simpa using hl.2 i (by simpa using hi)⟩
theorem VRL.head {σ : Sg} {v v' : Value} {l l' : List Value} (h : VRL σ (v :: l) (v' :: l')) : VR σ v v' := by simpa using h.2 0 (by simp)
theorem VRL.tail {σ : Sg} {v v' : Value} {l l' : List Value} (h : VRL σ (v :: l) (v' :: l')) : VRL σ l l' :=
  ⟨by simpa using h.1, fun i hi => by simpa using h.2 (i + 1) (by simpa using hi)⟩
theorem VRL.append {σ : Sg} {a a' b b' : List Value} (h : VRL σ a a') (k : VRL σ b b') : VRL σ (a ++ b) (a' ++ b') := by
  induction a generalizing a' with
  | nil =>
    cases a' with
    | nil => exact k
    | cons _ _ => exact absurd h.1 (by simp)
  | cons x a ih =>
    cases a' with
    | nil => exact absurd h.1 (by simp)
    | cons y a' => exact VRL.cons h.head (ih h.tail)
theorem getD_of {l : List Value} {i : Nat} (h : i < l.length) : l.getD i und = l[i] := by simp [List.getD_eq_getElem?_getD, h]
theorem VRL.getElem? {σ : Sg} {l l' : List Value} (h : VRL σ l l') {i : Nat} {v : Value} (hv : l[i]? = some v) : ∃ v', l'[i]? = some v' ∧ VR σ v v' := by
  obtain ⟨hi, he⟩ := List.getElem?_eq_some_iff.1 hv
  have hr := h.2 i hi
  have hi' : i < l'.length := by rw [← h.1]; exact hi
  refine ⟨l'[i], List.getElem?_eq_getElem hi', ?_⟩
  rw [getD_of hi, getD_of hi', he] at hr
  exact hr
theorem VRL.of_getElem? {σ : Sg} {l l' : List Value} (hl : l.length = l'.length) (h : ∀ (i : Nat) (v v' : Value), l[i]? = some v → l'[i]? = some v' → VR σ v v') : VRL σ l l' :=
  ⟨hl, fun i hi => by
    have hi' : i < l'.length := by rw [← hl]; exact hi
    rw [getD_of hi, getD_of hi']
    exact h i _ _ (List.getElem?_eq_getElem hi) (List.getElem?_eq_getElem hi')⟩
theorem arr_getD (c : Array Value) (i : Nat) : c.getD i und = c.toList.getD i und := by
  cases c; simp
theorem VR.arr {σ : Sg} {c c' : Array Value} (hc : c.size = c'.size) (hc' : ∀ i, i < c.size → VR σ (c.getD i und) (c'.getD i und)) : VRL σ c.toList c'.toList :=
  ⟨by simpa using hc, fun i hi => by rw [← arr_getD, ← arr_getD]; exact hc' i (by simpa using hi)⟩
theorem VRL.arr_size {σ : Sg} {c c' : Array Value} (h : VRL σ c.toList c'.toList) : c.size = c'.size := by simpa using h.1
theorem VRL.arr_get {σ : Sg} {c c' : Array Value} (h : VRL σ c.toList c'.toList) : ∀ i, i < c.size → VR σ (c.getD i und) (c'.getD i und) :=
  fun i hi => by rw [arr_getD, arr_getD]; exact h.2 i (by simpa using hi)
theorem VR.agg_of {σ : Sg} {c c' : Array Value} (h : VRL σ c.toList c'.toList) : VR σ (.agg c) (.agg c') := .agg h.arr_size h.arr_get
theorem VR.tuple_of {σ : Sg} {c c' : Array Value} (h : VRL σ c.toList c'.toList) : VR σ (.tuple c) (.tuple c') := .tuple h.arr_size h.arr_get
theorem VR.one {σ : Sg} {v v' : Value} (h : VR σ v v') (ho : one v = true) : v'.oneCell' = true := by
  cases h <;> first | rfl | (simp [AE.one, bad] at ho; done) | skip
  rename_i hs
  cases v <;> first | rfl | (simp [AE.one] at ho; done)
theorem VR.cells {σ : Sg} {v v' : Value} (h : VR σ v v') (hb : v ≠ bad) : VRL σ (cellsOf v) v'.cells.toList := by
  have key : ∀ {u u' : Value}, VR σ u u' → VRL σ [u] [u'] := fun hu => VRL.cons hu (VRL.nil σ)
  cases h with
  | any v' => exact absurd rfl hb
  | agg hc hc' => exact VR.arr hc hc'
  | refl hs =>
    have : cellsOf v = [v] ∧ v.cells.toList = [v] := by cases v <;> first | exact ⟨rfl, rfl⟩ | (simp [simple] at hs; done)
    rw [this.1, this.2]
    exact key (.refl hs)
  | topB b => exact key (.topB b)
  | topI k n => exact key (.topI k n)
  | topS a n c => exact key (.topS a n c)
  | topStr s => exact key (.topStr s)
  | topE a c => exact key (.topE a c)
  | ptr h => exact key (.ptr h)
  | slice h a b => exact key (.slice h a b)
  | map h => exact key (.map h)
  | yld h => exact key (.yld h)
  | func a b c d => exact key (.func a b c d)
  | iface a => exact key (.iface a)
  | tuple a b => exact key (.tuple a b)
end Go.AE
