/- AEFast3, AEFast4, AEFast5, FixT: in one text. -/
import Derived.Test.YtpbhfckefmboaaaGreatDoorGp43
import Derived.Test.YtpbhfckefmboaaaGreatDoorProg
import Derived.Test.YtpbhfckefmboaaaGreatDoorGp41
import Derived.Shelf.Spec.TrailingZeros
set_option linter.unusedVariables false
set_option linter.unusedSimpArgs false
set_option linter.unusedSectionVars false
namespace Go.AE
open Go.RowKit
noncomputable section
/-! ### a memory within a memory -/
def cellsIn (a b : T Value) : Bool :=
  match a with
  | .nil => true
  | .node x l r => match b with
    | .nil => match x with
      | none => cond (cellsIn l .nil) (cellsIn r .nil) false
      | some _ => false
    | .node y l' r' => match x with
      | none => cond (cellsIn l l') (cellsIn r r') false
      | some v => match y with
        | none => false
        | some v' => cond (veq 30 v' v) (cond (cellsIn l l') (cellsIn r r') false) false
theorem cellsIn_spec : ∀ (a b : T Value), cellsIn a b = true → ∀ i v, a.get i = some v → b.get i = some v := by
  intro a
  induction a with
  | nil => intro b _ i v h; rw [T.get_nil] at h; cases h
  | node x l r ihl ihr =>
    intro b hb i v h
    have key : ∀ y l' r', (∀ w, x = some w → y = some w) → cellsIn l l' = true → cellsIn r r' = true → (T.node y l' r').get i = some v := by
      intro y l' r' hx hl hr
      cases i with
      | zero => rw [T.get_zero] at h ⊢; exact hx v h
      | succ m =>
        rw [T.get_succ] at h ⊢
        cases hc : Nat.beq (Nat.mod m 2) 0 with
        | true => rw [hc] at h; exact ihl l' hl _ v h
        | false => rw [hc] at h; exact ihr r' hr _ v h
    cases b with
    | nil =>
      cases x with
      | some w => exact absurd hb (by simp [cellsIn])
      | none =>
        unfold cellsIn at hb
        have hb : cond (cellsIn l .nil) (cellsIn r .nil) false = true := hb
        cases hl : cellsIn l .nil with
        | false => rw [hl] at hb; exact Bool.noConfusion (show false = true from hb)
        | true =>
          rw [hl] at hb
          have := key none .nil .nil (fun w hw => by cases hw) hl hb
          cases i with
          | zero => rw [T.get_zero] at this; cases this
          | succ m => rw [T.get_succ, T.get_nil] at this; cases hc : Nat.beq (Nat.mod m 2) 0 <;> rw [hc] at this <;> cases this
    | node y l' r' =>
      unfold cellsIn at hb
      cases x with
      | none =>
        have hb : cond (cellsIn l l') (cellsIn r r') false = true := hb
        cases hl : cellsIn l l' with
        | false => rw [hl] at hb; exact Bool.noConfusion (show false = true from hb)
        | true => rw [hl] at hb; exact key y l' r' (fun w hw => by cases hw) hl hb
      | some w =>
        cases y with
        | none => exact absurd hb (by simp)
        | some w' =>
          have hb : cond (veq 30 w' w) (cond (cellsIn l l') (cellsIn r r') false) false = true := hb
          cases hv : veq 30 w' w with
          | false => rw [hv] at hb; exact Bool.noConfusion (show false = true from hb)
          | true =>
            rw [hv] at hb
            have hb : cond (cellsIn l l') (cellsIn r r') false = true := hb
            cases hl : cellsIn l l' with
            | false => rw [hl] at hb; exact Bool.noConfusion (show false = true from hb)
            | true => rw [hl] at hb; exact key (some w') l' r' (fun u hu => by rw [← Option.some.inj hu, (veq_sound 30).1 _ _ hv]) hl hb
def esIn (a b : List MapEntry) : Bool :=
  match a with
  | [] => match b with
    | [] => true
    | _ :: _ => false
  | x :: a => match b with
    | [] => false
    | y :: b => cond (Nat.beq x.born y.born) (cond (veq 30 x.key y.key) (cond (veq 30 x.val y.val) (esIn a b) false) false) false
theorem esIn_spec : ∀ (a b : List MapEntry), esIn a b = true → a = b := by
  intro a
  induction a with
  | nil => intro b h; cases b with | nil => rfl | cons => exact absurd h (by simp [esIn])
  | cons x a ih =>
    intro b h
    cases b with
    | nil => exact absurd h (by simp [esIn])
    | cons y b =>
      unfold esIn at h
      have h : cond (Nat.beq x.born y.born) (cond (veq 30 x.key y.key) (cond (veq 30 x.val y.val) (esIn a b) false) false) false = true := h
      cases h1 : Nat.beq x.born y.born with
      | false => rw [h1] at h; exact Bool.noConfusion (show false = true from h)
      | true =>
        cases h2 : veq 30 x.key y.key with
        | false => rw [h1, h2] at h; exact Bool.noConfusion (show false = true from h)
        | true =>
          cases h3 : veq 30 x.val y.val with
          | false => rw [h1, h2, h3] at h; exact Bool.noConfusion (show false = true from h)
          | true =>
            rw [h1, h2, h3] at h
            have hb : x.born = y.born := Nat.eq_of_beq_eq_true h1
            have hk := (veq_sound 30).1 _ _ h2
            have hv := (veq_sound 30).1 _ _ h3
            rw [ih b h]
            congr 1
            cases x; cases y; simp only at hb hk hv; subst hb hk hv; rfl
def objIn (a b : AObj) : Bool :=
  match a with
  | .row c n e => match b with
    | .row c' n' e' => cond (Nat.beq n 0) (Nat.beq e e') (cond (Nat.beq n n') (cond (Nat.beq e e') (cellsIn c' c) false) false)
    | _ => false
  | .map es k => match b with
    | .map es' k' => cond (Nat.beq k k') (esIn es es') false
    | _ => false
  | .dead => match b with
    | .dead => true
    | _ => false
  | _ => false
/-- what is asked of an object within another -/
def OIn (a b : AObj) : Prop := b.live = a.live ∧ ∀ (E : Env) (σ : Sg) (x : Inf) (ob : Obj), OR E σ x b ob → OR E σ x a ob
theorem objIn_spec (a b : AObj) (h : objIn a b = true) : OIn a b := by
  unfold objIn at h
  cases a with
  | row c n e =>
    cases b with
    | row c' n' e' =>
      have h : cond (Nat.beq n 0) (Nat.beq e e') (cond (Nat.beq n n') (cond (Nat.beq e e') (cellsIn c' c) false) false) = true := h
      cases h0 : Nat.beq n 0 with
      | true =>
        rw [h0] at h
        obtain rfl := Nat.eq_of_beq_eq_true h0
        obtain rfl : e = e' := Nat.eq_of_beq_eq_true h
        refine ⟨rfl, fun E σ x ob hor => ?_⟩
        cases ob with
        | cells C e' fz =>
          obtain ⟨g1, g2, g3, _, g5, _⟩ := hor
          exact ⟨g1, g2, g3, Nat.zero_le _, g5, fun j hj => absurd hj (Nat.not_lt_zero _)⟩
        | _ => exact hor.elim
      | false =>
        rw [h0] at h
        have h : cond (Nat.beq n n') (cond (Nat.beq e e') (cellsIn c' c) false) false = true := h
        cases h1 : Nat.beq n n' with
        | false => rw [h1] at h; exact Bool.noConfusion (show false = true from h)
        | true =>
          cases h2 : Nat.beq e e' with
          | false => rw [h1, h2] at h; exact Bool.noConfusion (show false = true from h)
          | true =>
            rw [h1, h2] at h
            have hc := cellsIn_spec c' c h
            obtain rfl := Nat.eq_of_beq_eq_true h1
            obtain rfl : e = e' := Nat.eq_of_beq_eq_true h2
            refine ⟨rfl, fun E σ x ob hor => ?_⟩
            cases ob with
            | cells C e' fz =>
              obtain ⟨g1, g2, g3, g4, g5, g6⟩ := hor
              exact ⟨g1, g2, g3, g4, g5, fun j hj => let ⟨v, v', k1, k2, k3⟩ := g6 j hj; ⟨v, v', hc j v k1, k2, k3⟩⟩
            | _ => exact hor.elim
    | _ => exact Bool.noConfusion (show false = true from h)
  | map es k =>
    cases b with
    | map es' k' =>
      have h : cond (Nat.beq k k') (esIn es es') false = true := h
      cases h1 : Nat.beq k k' with
      | false => rw [h1] at h; exact Bool.noConfusion (show false = true from h)
      | true =>
        rw [h1] at h
        rw [esIn_spec es es' h, Nat.eq_of_beq_eq_true h1]
        exact ⟨rfl, fun _ _ _ _ h => h⟩
    | _ => exact Bool.noConfusion (show false = true from h)
  | dead =>
    cases b with
    | dead => exact ⟨rfl, fun _ _ _ _ h => h⟩
    | _ => exact Bool.noConfusion (show false = true from h)
  | _ => exact Bool.noConfusion (show false = true from h)
def treeIn (a b : T AObj) : Bool :=
  match a with
  | .nil => true
  | .node x l r => match b with
    | .nil => match x with
      | none => cond (treeIn l .nil) (treeIn r .nil) false
      | some _ => false
    | .node y l' r' => match x with
      | none => cond (treeIn l l') (treeIn r r') false
      | some v => match y with
        | none => false
        | some v' => cond (objIn v v') (cond (treeIn l l') (treeIn r r') false) false
theorem treeIn_spec : ∀ (a b : T AObj), treeIn a b = true → ∀ i v, a.get i = some v → ∃ v', b.get i = some v' ∧ OIn v v' := by
  intro a
  induction a with
  | nil => intro b _ i v h; rw [T.get_nil] at h; cases h
  | node x l r ihl ihr =>
    intro b hb i v h
    have key : ∀ y l' r', (∀ w, x = some w → ∃ w', y = some w' ∧ OIn w w') → treeIn l l' = true → treeIn r r' = true → ∃ v', (T.node y l' r').get i = some v' ∧ OIn v v' := by
      intro y l' r' hx hl hr
      cases i with
      | zero => rw [T.get_zero] at h ⊢; exact hx v h
      | succ m =>
        rw [T.get_succ] at h ⊢
        cases hc : Nat.beq (Nat.mod m 2) 0 with
        | true => rw [hc] at h; exact ihl l' hl _ v h
        | false => rw [hc] at h; exact ihr r' hr _ v h
    cases b with
    | nil =>
      cases x with
      | some w => exact absurd hb (by simp [treeIn])
      | none =>
        unfold treeIn at hb
        have hb : cond (treeIn l .nil) (treeIn r .nil) false = true := hb
        cases hl : treeIn l .nil with
        | false => rw [hl] at hb; exact Bool.noConfusion (show false = true from hb)
        | true =>
          rw [hl] at hb
          obtain ⟨v', this, _⟩ := key none .nil .nil (fun w hw => by cases hw) hl hb
          cases i with
          | zero => rw [T.get_zero] at this; cases this
          | succ m => rw [T.get_succ, T.get_nil] at this; cases hc : Nat.beq (Nat.mod m 2) 0 <;> rw [hc] at this <;> cases this
    | node y l' r' =>
      unfold treeIn at hb
      cases x with
      | none =>
        have hb : cond (treeIn l l') (treeIn r r') false = true := hb
        cases hl : treeIn l l' with
        | false => rw [hl] at hb; exact Bool.noConfusion (show false = true from hb)
        | true => rw [hl] at hb; exact key y l' r' (fun w hw => by cases hw) hl hb
      | some w =>
        cases y with
        | none => exact absurd hb (by simp)
        | some w' =>
          have hb : cond (objIn w w') (cond (treeIn l l') (treeIn r r') false) false = true := hb
          cases hv : objIn w w' with
          | false => rw [hv] at hb; exact Bool.noConfusion (show false = true from hb)
          | true =>
            rw [hv] at hb
            have hb : cond (treeIn l l') (treeIn r r') false = true := hb
            cases hl : treeIn l l' with
            | false => rw [hl] at hb; exact Bool.noConfusion (show false = true from hb)
            | true => rw [hl] at hb; exact key (some w') l' r' (fun u hu => ⟨w', rfl, Option.some.inj hu ▸ objIn_spec _ _ hv⟩) hl hb
/-- a memory holds another one -/
def MIn (a b : Mem) : Prop := a.n = b.n ∧ ∀ i v, a.t.get i = some v → ∃ v', b.t.get i = some v' ∧ OIn v v'
def memIn (a b : Mem) : Bool := cond (Nat.beq a.n b.n) (treeIn a.t b.t) false
theorem memIn_spec {a b : Mem} (h : memIn a b = true) : MIn a b := by
  unfold memIn at h
  cases h1 : Nat.beq a.n b.n with
  | false => rw [h1] at h; exact Bool.noConfusion (show false = true from h)
  | true => rw [h1] at h; exact ⟨Nat.eq_of_beq_eq_true h1, treeIn_spec _ _ h⟩
theorem LiveB.within {σ : Sg} {a b : Mem} (h : MIn a b) {c : Nat} (hl : LiveB σ a c) : LiveB σ b c := by
  obtain ⟨i, o, x, h1, h2, h3, h4⟩ := hl
  obtain ⟨o', h5, h6, _⟩ := h.2 i o h1
  exact ⟨i, o', x, h5, h6.trans h2, h3, h4⟩
theorem MR.within {E : Env} {w0 : World} {σ : Sg} {a b : Mem} {w : World} (h : MIn a b) (hM : MR E w0 σ b w) : MR E w0 σ a w where
  below := hM.below
  obj := fun i o hi hl => by
    obtain ⟨o', h1, h2, h3⟩ := h.2 i o hi
    obtain ⟨x, ob, k1, k2, k3, k4⟩ := hM.obj i o' h1 (h2.trans hl)
    exact ⟨x, ob, k1, k2, k3, h3 E σ x ob k4⟩
  inj := fun i j o p x y hi hl hj hp hx hy e => by
    obtain ⟨o', h1, h2, _⟩ := h.2 i o hi
    obtain ⟨p', g1, g2, _⟩ := h.2 j p hj
    exact hM.inj i j o' p' x y h1 (h2.trans hl) g1 (g2.trans hp) hx hy e
  fresh := fun i hi => hM.fresh i (h.1 ▸ hi)
/-! ### stations -/
structure Ent where
  f : FuncId
  args : List Value
  M : Mem
  v : Value
  M' : Mem
def EntOK (P : Program) (e : Ent) : Prop := ∀ (w0 w : World) (σ : Sg) (args' : Array Value), VRL σ e.args args'.toList → MR (mkEnvL P) w0 σ e.M w → Calls P e.f args' w (After (mkEnvL P) w0 σ e.M w [(e.v, e.M')])
def sumsOf : List Ent → Sums
  | [], _, _, _ => none
  | e :: l, f, args, m => cond (Nat.beq e.M.n m.n) (cond (Nat.beq e.f f) (cond (veqL 100 e.args args) (cond (memIn e.M m) (some [(e.v, e.M')]) none) (sumsOf l f args m)) (sumsOf l f args m)) (sumsOf l f args m)
theorem sumsOf_inv : ∀ (L : List Ent) (f : FuncId) (args : List Value) (m : Mem) (l : List (Value × Mem)), sumsOf L f args m = some l → ∃ e ∈ L, e.f = f ∧ e.args = args ∧ MIn e.M m ∧ l = [(e.v, e.M')]
  | [], f, args, m, l, h => by cases h
  | e :: L, f, args, m, l, h => by
    unfold sumsOf at h
    have more : sumsOf L f args m = some l → ∃ e' ∈ e :: L, e'.f = f ∧ e'.args = args ∧ MIn e'.M m ∧ l = [(e'.v, e'.M')] := fun h => by
      obtain ⟨e', h1, h2⟩ := sumsOf_inv L f args m l h
      exact ⟨e', List.mem_cons_of_mem _ h1, h2⟩
    cases h1 : Nat.beq e.M.n m.n with
    | false => rw [h1] at h; exact more h
    | true =>
      cases h2 : Nat.beq e.f f with
      | false => rw [h1, h2] at h; exact more h
      | true =>
        cases h3 : veqL 100 e.args args with
        | false => rw [h1, h2, h3] at h; exact more h
        | true =>
          rw [h1, h2, h3] at h
          have h : cond (memIn e.M m) (some [(e.v, e.M')]) none = some l := h
          cases h4 : memIn e.M m with
          | false => rw [h4] at h; cases h
          | true => rw [h4] at h; exact ⟨e, List.mem_cons_self, Nat.eq_of_beq_eq_true h2, (veq_sound 100).2 _ _ h3, memIn_spec h4, (Option.some.inj h).symm⟩
theorem sumsOf_ok {P : Program} {L : List Ent} (h : ∀ e ∈ L, EntOK P e) (w0 : World) : SOK (mkEnvL P) P w0 (sumsOf L) := by
  intro f args m l hs hne σ w args' hargs hM
  obtain ⟨e, he, h1, h2, h3, h4⟩ := sumsOf_inv L f args m l hs
  subst h1 h2 h4
  refine (h e he w0 w σ args' hargs (hM.within h3)).mono ?_
  rintro x w' ⟨r, hr, σ', v', h1, h2, h5, h6⟩
  refine ⟨r, hr, σ', v', h1, ?_, h5, h6⟩
  exact { ext := h2.ext, size := h2.size, frame := fun b hb hl => h2.frame b hb fun hl' => hl (hl'.within h3), grow := fun b hb => (h2.grow b hb).imp (fun h => h.within h3) id, n := h3.1 ▸ h2.n, old := fun i hi => h2.old i (h3.1 ▸ hi) }
def chk (v : Value) (M' : Mem) (l : List (Value × Mem)) : Bool :=
  match l with
  | [] => false
  | r :: l => match l with
    | [] => cond (veq 100 r.1 v) (memIn M' r.2) false
    | _ :: _ => false
/-- a call is a station -/
theorem station {P : Program} (hP : P.follows .mixedOrders = true) {L : List Ent} (hL : ∀ e ∈ L, EntOK P e) {e : Ent} {fuel d : Nat} (h : chk e.v e.M' (evCallF (mkEnvL P) (sumsOf L) fuel d (.fn e.f) e.args e.M) = true) : EntOK P e := by
  intro w0 w σ args' hargs hM
  rw [evCallF_eq] at h
  have hne : evCall (mkEnvL P) (sumsOf L) fuel d (.fn e.f) e.args e.M ≠ [] := fun h' => by rw [h'] at h; cases h
  refine ((evCall_ok (w0 := w0) (mkEnvL_ok P) hP (sumsOf_ok hL w0) fuel d).fn e.f e.args e.M hne σ w args' hargs hM).mono ?_
  rintro x w' ⟨r, hr, σ', v', h1, h2, h5, h6⟩
  generalize evCall (mkEnvL P) (sumsOf L) fuel d (.fn e.f) e.args e.M = l at h hr
  match l, h, hr with
  | [q], h, hr =>
    obtain rfl : r = q := by simpa using hr
    have h : cond (veq 100 r.1 e.v) (memIn e.M' r.2) false = true := h
    cases hv : veq 100 r.1 e.v with
    | false => rw [hv] at h; exact Bool.noConfusion (show false = true from h)
    | true =>
      rw [hv] at h
      have hs := memIn_spec h
      have he := (veq_sound 100).1 _ _ hv
      refine ⟨(e.v, e.M'), List.mem_singleton.2 rfl, σ', v', h1, ?_, he ▸ h5, h6.within hs⟩
      exact { ext := h2.ext, size := h2.size, frame := h2.frame, grow := fun b hb => h2.grow b (hb.within hs), n := Nat.le_trans h2.n (Nat.le_of_eq hs.1.symm), old := h2.old }
  | _ :: _ :: _, h, _ => cases h
end
end Go.AE
namespace Go.AE
open Go.RowKit
noncomputable section
def ups (t : T Value) (l : List (Nat × Value)) : T Value := @List.rec (Nat × Value) (fun _ => T Value → T Value) (fun t => t) (fun x _ ih t => ih (T.set t x.1 x.2)) l t
def upd (t : T AObj) (l : List (Nat × AObj)) : T AObj := @List.rec (Nat × AObj) (fun _ => T AObj → T AObj) (fun t => t) (fun x _ ih t => ih (T.set t x.1 x.2)) l t
def celO (o : AObj) : T Value :=
  match o with
  | .row c _ _ => c
  | _ => .nil
def celM (o : Option AObj) : T Value := @Option.rec AObj (fun _ => T Value) .nil celO o
/-- an object's cells -/
def cel (t : T AObj) (i : Nat) : T Value := celM (T.getP t (posOf i))
def runN (n : Nat) (v : Value) (l : List Value) : List Value := @Nat.rec (fun _ => List Value) l (fun _ ih => v :: ih) n
def runs (l : List (Nat × Value)) : List Value := @List.rec (Nat × Value) (fun _ => List Value) [] (fun x _ ih => runN x.1 x.2 ih) l
theorem all0 {P : Program} : ∀ e ∈ ([] : List Ent), EntOK P e := fun _ h => by cases h
theorem allc {P : Program} {e : Ent} {l : List Ent} (h : EntOK P e) (k : ∀ e ∈ l, EntOK P e) : ∀ x ∈ e :: l, EntOK P x := fun x hx => by
  rcases List.mem_cons.1 hx with rfl | h'
  · exact h
  · exact k x h'
end
end Go.AE
namespace Go.AE
open Go.RowKit
def EntT (P : Program) (T : World → Prop) (e : Ent) : Prop := ∀ (w0 w : World) (σ : Sg) (args' : Array Value), T w0 → VRL σ e.args args'.toList → MR (mkEnvL P) w0 σ e.M w → Calls P e.f args' w (After (mkEnvL P) w0 σ e.M w [(e.v, e.M')])
def orS (S : Sums) (L : List Ent) : Sums := fun f args m => match S f args m with
  | some l => some l
  | none => sumsOf L f args m
theorem orS_ok {P : Program} {T : World → Prop} {S : Sums} (hS : ∀ w0, T w0 → SOK (mkEnvL P) P w0 S) {L : List Ent} (h : ∀ e ∈ L, EntT P T e) (w0 : World) (hT : T w0) : SOK (mkEnvL P) P w0 (orS S L) := by
  intro f args m l hs hne σ w args' hargs hM
  unfold orS at hs
  split at hs
  · rename_i l' hl
    obtain rfl := Option.some.inj hs
    exact hS w0 hT f args m _ hl hne σ w args' hargs hM
  · obtain ⟨e, he, h1, h2, h3, h4⟩ := sumsOf_inv L f args m l hs
    subst h1 h2 h4
    refine (h e he w0 w σ args' hT hargs (hM.within h3)).mono ?_
    rintro x w' ⟨r, hr, σ', v', h1, h2, h5, h6⟩
    refine ⟨r, hr, σ', v', h1, ?_, h5, h6⟩
    exact { ext := h2.ext, size := h2.size, frame := fun b hb hl => h2.frame b hb fun hl' => hl (hl'.within h3), grow := fun b hb => (h2.grow b hb).imp (fun h => h.within h3) id, n := h3.1 ▸ h2.n, old := fun i hi => h2.old i (h3.1 ▸ hi) }
theorem stationT {P : Program} (hP : P.follows .mixedOrders = true) {T : World → Prop} {S : Sums} (hS : ∀ w0, T w0 → SOK (mkEnvL P) P w0 S) {L : List Ent} (hL : ∀ e ∈ L, EntT P T e) {e : Ent} {fuel d : Nat} (h : chk e.v e.M' (evCallF (mkEnvL P) (orS S L) fuel d (.fn e.f) e.args e.M) = true) : EntT P T e := by
  intro w0 w σ args' hT hargs hM
  rw [evCallF_eq] at h
  have hne : evCall (mkEnvL P) (orS S L) fuel d (.fn e.f) e.args e.M ≠ [] := fun h' => by rw [h'] at h; cases h
  refine ((evCall_ok (w0 := w0) (mkEnvL_ok P) hP (orS_ok hS hL w0 hT) fuel d).fn e.f e.args e.M hne σ w args' hargs hM).mono ?_
  rintro x w' ⟨r, hr, σ', v', h1, h2, h5, h6⟩
  generalize evCall (mkEnvL P) (orS S L) fuel d (.fn e.f) e.args e.M = l at h hr
  match l, h, hr with
  | [q], h, hr =>
    obtain rfl : r = q := by simpa using hr
    have h : cond (veq 100 r.1 e.v) (memIn e.M' r.2) false = true := h
    cases hv : veq 100 r.1 e.v with
    | false => rw [hv] at h; exact Bool.noConfusion (show false = true from h)
    | true =>
      rw [hv] at h
      have hs := memIn_spec h
      have he := (veq_sound 100).1 _ _ hv
      refine ⟨(e.v, e.M'), List.mem_singleton.2 rfl, σ', v', h1, ?_, he ▸ h5, h6.within hs⟩
      exact { ext := h2.ext, size := h2.size, frame := h2.frame, grow := fun b hb => h2.grow b (hb.within hs), n := Nat.le_trans h2.n (Nat.le_of_eq hs.1.symm), old := h2.old }
  | _ :: _ :: _, h, _ => cases h
theorem allT0 {P : Program} {T : World → Prop} : ∀ e ∈ ([] : List Ent), EntT P T e := fun _ h => by cases h
theorem allTc {P : Program} {T : World → Prop} {e : Ent} {l : List Ent} (h : EntT P T e) (k : ∀ e ∈ l, EntT P T e) : ∀ x ∈ e :: l, EntT P T x := fun x hx => by
  cases hx with
  | head => exact h
  | tail _ h' => exact k x h'
end Go.AE
namespace Go.Proofs.YtpbhfckefmboaaaGreatDoor.Fx
open Go Go.AE Go.RowKit
theorem mixed : Tryz.prog.follows .mixedOrders = true := by kernel_rfl
set_option maxHeartbeats 1000000 in
theorem tz_core (x k idx : Nat) (w : World) (hx0 : ((x : Int) == 0) = false)
    (key : IntKind.u64.wrap (bits BinOp.and IntKind.u64 (x : Int) (IntKind.u64.wrap (-(x : Int))) * 285870213051353865) / 288230376151711744 = (idx : Int))
    (hi : idx < 64) (hk : k < 64) (hcell : w.cell? ⟨0, idx, none⟩ = some (.int .u8 k)) :
    Calls Tryz.prog 224 #[.int .u64 x] w fun e w' => e = .returned (.int .i64 k) ∧ w' = w := by
  go_enter Tryz.func224, Tryz.ntmps224
  go_wp2_with (simp only [key])
  go_ret
  exact ⟨rfl, rfl⟩
theorem tz_zero (w : World) : Calls Tryz.prog 224 #[.int .u64 0] w fun e w' => e = .returned (.int .i64 64) ∧ w' = w := by
  go_enter Tryz.func224, Tryz.ntmps224
  go_wp2
  go_ret
  exact ⟨rfl, rfl⟩
theorem tz (x : Nat) (hx : x < 18446744073709551616) (w : World) (hT : TabAt 0 Lib.deBruijn64tab w) :
    Calls Tryz.prog 224 #[.int .u64 x] w fun e w' => e = .returned (.int .i64 (Lib.ctz 64 x)) ∧ w' = w := by
  by_cases hx0 : x = 0
  · subst hx0
    exact tz_zero w
  · obtain ⟨hlow, hk⟩ := Lib.lowest_bit 64 x hx0 hx
    obtain ⟨hi, htab⟩ := Lib.deBruijn64_at _ hk
    have hcell := hT _ hi
    rw [htab] at hcell
    exact tz_core x _ _ w (by simp; omega) (tz64_key x _ hx hx0 hlow) hi hk hcell
def S : Sums := fun f args m => match Nat.beq f 224, args with
  | true, [.int .u64 (.ofNat n)] => cond (Nat.blt n 18446744073709551616) (some [(.int .i64 (Lib.ctz 64 n), m)]) none
  | _, _ => none
theorem vrl_one {σ : Sg} {v : Value} {args' : Array Value} (h : VRL σ [v] args'.toList) : ∃ v', args' = #[v'] ∧ VR σ v v' := by
  obtain ⟨h1, h2⟩ := h
  obtain ⟨l⟩ := args'
  match l, h1 with
  | [v'], _ => exact ⟨v', rfl, by simpa using h2 0 (by simp)⟩
theorem S_ok (w0 : World) (hT : TabAt 0 Lib.deBruijn64tab w0) : SOK (mkEnvL Tryz.prog) Tryz.prog w0 S := by
  intro f args m l h hne σ w args' hargs hM
  unfold S at h
  split at h
  · rename_i n hf
    obtain rfl : f = 224 := Nat.eq_of_beq_eq_true hf
    cases hn : Nat.blt n 18446744073709551616 with
    | false => rw [hn] at h; cases h
    | true =>
      rw [hn] at h
      cases h
      obtain ⟨v', rfl, hv⟩ := vrl_one hargs
      obtain rfl := hv.simple_inv rfl
      have hlt : n < 18446744073709551616 := by simpa [Nat.blt_eq] using hn
      have hT' : TabAt 0 Lib.deBruijn64tab w := fun j hj => (hM.below.cell (p := ⟨0, j, none⟩) (World.block_lt_of_cell? w0 _ (hT j hj))).trans (hT j hj)
      refine (tz n hlt w hT').mono ?_
      rintro e w' ⟨rfl, rfl⟩
      exact ⟨_, List.mem_singleton.2 rfl, σ, _, rfl, FG.refl _ _ _, .refl rfl, hM⟩
  · cases h
end Go.Proofs.YtpbhfckefmboaaaGreatDoor.Fx
