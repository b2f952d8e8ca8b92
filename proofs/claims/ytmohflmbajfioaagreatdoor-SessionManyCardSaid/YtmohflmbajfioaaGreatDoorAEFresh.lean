/- A call that looks at nothing that stands, and whose first result leads to what it has made: an answer known beforehand, wherever it is called. -/
import Derived.Test.YtmohflmbajfioaaGreatDoorAEDefer
namespace Go.AE
open Go.RowKit
noncomputable section
/-- does the first stand for all that the second stands for? numbers, and what has no address -/
def wk1 (a b : Value) : Bool :=
  match a, b with
  | .complex .f32 2 c, .int k _ => Nat.beq c (kcode k)
  | a, b => cond (simple a) (cond (simple b) (veq 30 a b) false) false
def wkC : List Value → List Value → Bool
  | [], [] => true
  | a :: l, b :: r => cond (wk1 a b) (wkC l r) false
  | _, _ => false
def wk (a b : Value) : Bool :=
  match a, b with
  | .agg x, .agg y => wkC x.toList y.toList
  | a, b => wk1 a b
def wkL : List Value → List Value → Bool
  | [], [] => true
  | a :: l, b :: r => cond (wk a b) (wkL l r) false
  | _, _ => false
/-- the answer: what was made, and a number -/
def freshS (f : FuncId) (as : List Value) (k : IntKind) (e : Int) : Sums := fun g args m =>
  match Nat.beq f g, wkL as args with
  | true, true => some [(.tuple #[.pointer (some ⟨m.n, 0, none⟩), .int k e], ⟨m.n + 1, m.t⟩)]
  | _, _ => none
def chkNew (l : List (Value × Mem)) (k : IntKind) (e : Int) : Bool :=
  match l with
  | [(.tuple vs, _)] => match vs.toList with
    | [.pointer (some ⟨_, _, none⟩), .int j x] => sameKind j k && x == e
    | _ => false
  | _ => false
variable {P : Program}
theorem wk1_sound {σ τ : Sg} {a b v : Value} (h : wk1 a b = true) (hv : VR σ b v) : VR τ a v := by
  unfold wk1 at h
  split at h
  · rename_i c k n
    obtain rfl := hv.simple_inv rfl
    obtain rfl := Nat.eq_of_beq_eq_true h
    exact .topI k n
  · cases h1 : simple a with
    | false => rw [h1] at h; cases h
    | true =>
      cases h2 : simple b with
      | false => rw [h1, h2] at h; cases h
      | true =>
        rw [h1, h2] at h
        have := (veq_sound 30).1 _ _ h
        subst this
        obtain rfl := hv.simple_inv h1
        exact .refl h1
theorem wkC_sound {σ τ : Sg} : ∀ {as bs vs : List Value}, wkC as bs = true → VRL σ bs vs → VRL τ as vs
  | [], [], vs, _, hv => by
    cases vs with
    | nil => exact VRL.nil τ
    | cons => exact absurd hv.1 (by simp)
  | a :: as, b :: bs, vs, h, hv => by
    cases vs with
    | nil => exact absurd hv.1 (by simp)
    | cons v vs =>
      have h : cond (wk1 a b) (wkC as bs) false = true := h
      cases h1 : wk1 a b with
      | false => rw [h1] at h; cases h
      | true => rw [h1] at h; exact .cons (wk1_sound h1 hv.head) (wkC_sound h hv.tail)
  | [], _ :: _, _, h, _ => by cases h
  | _ :: _, [], _, h, _ => by cases h
theorem wk_sound {σ τ : Sg} {a b v : Value} (h : wk a b = true) (hv : VR σ b v) : VR τ a v := by
  unfold wk at h
  split at h
  · rename_i x y
    obtain ⟨cs, rfl, hc⟩ := hv.agg_inv
    exact .agg_of (wkC_sound h hc)
  · exact wk1_sound h hv
theorem wkL_sound {σ τ : Sg} : ∀ {as bs vs : List Value}, wkL as bs = true → VRL σ bs vs → VRL τ as vs
  | [], [], vs, _, hv => by
    cases vs with
    | nil => exact VRL.nil τ
    | cons => exact absurd hv.1 (by simp)
  | a :: as, b :: bs, vs, h, hv => by
    cases vs with
    | nil => exact absurd hv.1 (by simp)
    | cons v vs =>
      have h : cond (wk a b) (wkL as bs) false = true := h
      cases h1 : wk a b with
      | false => rw [h1] at h; cases h
      | true => rw [h1] at h; exact .cons (wk_sound h1 hv.head) (wkL_sound h hv.tail)
  | [], _ :: _, _, h, _ => by cases h
  | _ :: _, [], _, h, _ => by cases h
theorem chkNew_inv {l : List (Value × Mem)} {k : IntKind} {e : Int} (h : chkNew l k e = true) : ∃ i o m, l = [(.tuple #[.pointer (some ⟨i, o, none⟩), .int k e], m)] := by
  unfold chkNew at h
  split at h
  · rename_i vs m
    split at h
    · rename_i i o j x hvs
      simp only [Bool.and_eq_true, beq_iff_eq] at h
      obtain ⟨h1, rfl⟩ := h
      obtain rfl := sameKind_eq h1
      refine ⟨i, o, m, ?_⟩
      obtain ⟨l⟩ := vs
      simp only at hvs
      rw [hvs]
    · cases h
  · cases h
theorem fresh_ok (hP : P.follows .mixedOrders = true) {S : Sums} (hS : ∀ w0, SOK (mkEnvL P) P w0 S) {fuel d : Nat} {f : FuncId} {as : List Value} {k : IntKind} {e : Int}
    (h : chkNew (evCallF (mkEnvL P) S fuel d (.fn f) as ⟨0, .nil⟩) k e = true) (w0 : World) : SOK (mkEnvL P) P w0 (freshS f as k e) := by
  intro g args m l hl hne σ w args' hargs hM
  unfold freshS at hl
  split at hl
  · rename_i hg hw
    obtain rfl := Nat.eq_of_beq_eq_true hg
    cases hl
    obtain ⟨i, o, m1, hr⟩ := chkNew_inv h
    rw [evCallF_eq] at hr
    have hne' : evCall (mkEnvL P) S fuel d (.fn f) as ⟨0, .nil⟩ ≠ [] := by rw [hr]; simp
    refine ((evCall_ok (w0 := w) (mkEnvL_ok P) hP (hS w) fuel d).fn f as ⟨0, .nil⟩ hne' (fun _ => none) w args' (wkL_sound hw hargs) (MR.start _ w)).mono ?_
    rintro x w' ⟨r, hr', σ1, v', rfl, hf, hv, hm⟩
    rw [hr] at hr'
    obtain rfl := List.mem_singleton.1 hr'
    simp only at hv hm
    obtain ⟨vs', rfl, hvs⟩ := hv.tuple_inv
    obtain ⟨l'⟩ := vs'
    match l', hvs with
    | [], hvs => exact absurd hvs.1 (by simp)
    | [_], hvs => exact absurd hvs.1 (by simp)
    | _ :: _ :: _ :: _, hvs => exact absurd hvs.1 (by simp)
    | [p', n'], hvs =>
      have hp := hvs.head
      have hn := hvs.tail.head
      obtain rfl := hn.simple_inv rfl
      cases hp with
      | refl hs => simp [simple] at hs
      | ptr hy =>
        rename_i y
        have hB := hm.below
        have hfr : σ m.n = none := hM.fresh m.n (Nat.le_refl _)
        have hno : ∀ q ob, m.t.get q = some ob → ob.live = true → q ≠ m.n := fun q ob hq hl e => by
          obtain ⟨z, _, hz, _⟩ := hM.obj q ob hq hl
          rw [e, hfr] at hz; cases hz
        refine ⟨_, List.mem_singleton.2 rfl, fun q => if q = m.n then some ⟨y.b, y.sh + o, y.N, y.s⟩ else σ q, _, rfl, ?_, ?_, ?_⟩
        · refine ⟨fun q z hz => ?_, hB.size, fun b hb _ => hB.block b hb, fun b hb => ?_, Nat.le_succ _, fun q hq => if_neg (by omega)⟩
          · have : q ≠ m.n := fun e => by rw [e, hfr] at hz; cases hz
            show (if q = m.n then _ else σ q) = _
            rw [if_neg this]; exact hz
          · obtain ⟨q, ob, z, h1, h2, h3, h4⟩ := hb
            have hq := hno q ob h1 h2
            have h3 : (if q = m.n then _ else σ q) = some z := h3
            rw [if_neg hq] at h3
            exact .inl ⟨q, ob, z, h1, h2, h3, h4⟩
        · refine .tuple_of (.cons ?_ (.cons (.refl rfl) (VRL.nil _)))
          exact VR.ptr (σ := fun q => if q = m.n then some ⟨y.b, y.sh + o, y.N, y.s⟩ else σ q) (i := m.n) (o := 0) (x := ⟨y.b, y.sh + o, y.N, y.s⟩) (if_pos rfl)
        · have hext : Ext σ (fun q => if q = m.n then some ⟨y.b, y.sh + o, y.N, y.s⟩ else σ q) := fun q z hz => by
            have : q ≠ m.n := fun e => by rw [e, hfr] at hz; cases hz
            show (if q = m.n then _ else σ q) = _
            rw [if_neg this]; exact hz
          refine ⟨hM.below.trans (hB.mono hM.below.size), fun q ob hq hl => ?_, fun q j o1 o2 x1 x2 hq hl1 hj hl2 hx hy' he => ?_, fun q hq => ?_⟩
          · obtain ⟨z, ob', h1, h2, h3, h4⟩ := hM.obj q ob hq hl
            have hlt : z.b < w.heap.size := (Array.getElem?_eq_some_iff.1 h3).1
            exact ⟨z, ob', hext q z h1, h2, (hB.block z.b hlt).trans h3, h4.mono hext⟩
          · have h1 := hno q o1 hq hl1
            have h2 := hno j o2 hj hl2
            have hx : (if q = m.n then _ else σ q) = some x1 := hx
            have hy' : (if j = m.n then _ else σ j) = some x2 := hy'
            rw [if_neg h1] at hx
            rw [if_neg h2] at hy'
            exact hM.inj q j o1 o2 x1 x2 hq hl1 hj hl2 hx hy' he
          · have : m.n + 1 ≤ q := hq
            show (if q = m.n then _ else σ q) = none
            rw [if_neg (by omega)]
            exact hM.fresh q (by omega)
  · cases hl
end
end Go.AE
