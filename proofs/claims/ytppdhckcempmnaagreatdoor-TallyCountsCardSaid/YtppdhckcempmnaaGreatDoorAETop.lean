/- The environment made of a program is a true one; what an evaluation says of every world. -/
import Derived.Test.YtppdhckcempmnaaGreatDoorAECode2
import Derived.Test.YtppdhckcempmnaaGreatDoorAEEnv
namespace Go.AE
open Go.RowKit
theorem fillT_inv {α : Type} (f : Nat → Option α) : ∀ n i t, (∀ j x, t.get j = some x → f j = some x) → ∀ j x, (fillT f n i t).get j = some x → f j = some x := by
  intro n
  induction n with
  | zero => intro i t h j x hj; exact h j x hj
  | succ n ih =>
    intro i t h j x hj
    simp only [fillT] at hj
    split at hj
    · rename_i y hy
      refine ih (i + 1) (t.set i y) (fun k z hk => ?_) j x hj
      rw [T.get_set] at hk
      split at hk
      · rename_i e; subst e; cases hk; exact hy
      · exact h k z hk
    · exact ih (i + 1) t h j x hj
theorem find_of {fn : Func} {n : String} {e : Array Value → Sem Value} (hn : fn.name = n) (h1 : Extern.allGenericRows.lookup n = none) (h2 : Extern.allTypedRows.lookup n = none) (h3 : Extern.allRows.lookup n = some e) : Extern.find fn = some e := by
  unfold Extern.find
  simp only [hn, h1, h2, h3]
  rfl
theorem extNamed_find {fn : Func} {x : Xtn} (h : extNamed fn.name = some x) : Extern.find fn = some x.impl := by
  unfold extNamed at h
  by_cases e : fn.name = atomicName "AddInt64"
  · rw [if_pos e] at h; cases h; exact find_of e (by kernel_rfl) (by kernel_rfl) (by kernel_rfl)
  rw [if_neg e] at h; clear e
  by_cases e : fn.name = atomicName "AddUint64"
  · rw [if_pos e] at h; cases h; exact find_of e (by kernel_rfl) (by kernel_rfl) (by kernel_rfl)
  rw [if_neg e] at h; clear e
  by_cases e : fn.name = atomicName "AddInt32"
  · rw [if_pos e] at h; cases h; exact find_of e (by kernel_rfl) (by kernel_rfl) (by kernel_rfl)
  rw [if_neg e] at h; clear e
  by_cases e : fn.name = atomicName "LoadUint64"
  · rw [if_pos e] at h; cases h; exact find_of e (by kernel_rfl) (by kernel_rfl) (by kernel_rfl)
  rw [if_neg e] at h; clear e
  by_cases e : fn.name = atomicName "LoadInt64"
  · rw [if_pos e] at h; cases h; exact find_of e (by kernel_rfl) (by kernel_rfl) (by kernel_rfl)
  rw [if_neg e] at h; clear e
  by_cases e : fn.name = atomicName "LoadUint32"
  · rw [if_pos e] at h; cases h; exact find_of e (by kernel_rfl) (by kernel_rfl) (by kernel_rfl)
  rw [if_neg e] at h; clear e
  by_cases e : fn.name = atomicName "StoreUint32"
  · rw [if_pos e] at h; cases h; exact find_of e (by kernel_rfl) (by kernel_rfl) (by kernel_rfl)
  rw [if_neg e] at h; clear e
  by_cases e : fn.name = atomicName "CompareAndSwapUint64"
  · rw [if_pos e] at h; cases h; exact find_of e (by kernel_rfl) (by kernel_rfl) (by kernel_rfl)
  rw [if_neg e] at h; clear e
  by_cases e : fn.name = atomicName "CompareAndSwapInt64"
  · rw [if_pos e] at h; cases h; exact find_of e (by kernel_rfl) (by kernel_rfl) (by kernel_rfl)
  rw [if_neg e] at h; clear e
  by_cases e : fn.name = atomicName "CompareAndSwapInt32"
  · rw [if_pos e] at h; cases h; exact find_of e (by kernel_rfl) (by kernel_rfl) (by kernel_rfl)
  rw [if_neg e] at h; clear e
  by_cases e : fn.name = cmpName
  · rw [if_pos e] at h; cases h; exact find_of e (by kernel_rfl) (by kernel_rfl) (by kernel_rfl)
  rw [if_neg e] at h; clear e
  by_cases e : fn.name = raceName "Disable"
  · rw [if_pos e] at h; cases h; exact find_of e (by kernel_rfl) (by kernel_rfl) (by kernel_rfl)
  rw [if_neg e] at h; clear e
  by_cases e : fn.name = raceName "Enable"
  · rw [if_pos e] at h; cases h; exact find_of e (by kernel_rfl) (by kernel_rfl) (by kernel_rfl)
  rw [if_neg e] at h; clear e
  by_cases e : fn.name = raceName "Acquire"
  · rw [if_pos e] at h; cases h; exact find_of e (by kernel_rfl) (by kernel_rfl) (by kernel_rfl)
  rw [if_neg e] at h; clear e
  by_cases e : fn.name = raceName "ReleaseMerge"
  · rw [if_pos e] at h; cases h; exact find_of e (by kernel_rfl) (by kernel_rfl) (by kernel_rfl)
  rw [if_neg e] at h; clear e
  cases h
theorem mkEnv_ok (P : Program) : EOK (mkEnv P) P where
  prog := rfl
  types := fun t ti h => by
    have h1 : mkTI P t = some ti := fillT_inv (mkTI P) _ _ _ (fun j x hj => by rw [T.get_nil] at hj; cases hj) t ti h
    unfold mkTI at h1
    split at h1
    · rename_i i d hi hd
      split at h1
      · rename_i z hz
        split at h1
        · rename_i a1 a2 a3
          cases h1
          have e1 := Nat.eq_of_beq_eq_true a1
          refine ⟨hd, i, z, hi, rfl, rfl, hz, rfl, e1, allSimple_spec a2, fun hg => ?_, fun hg => ?_⟩
          · simp only at hg
            cases z with
            | agg vs => simp only at a3; rw [a3] at hg; cases hg
            | _ => simp only [Value.cells]
          · simp only at hg
            cases z with
            | agg vs => simp [Value.cells]
            | _ => simp only at a3; rw [hg] at a3; cases a3
        · cases h1
      · cases h1
    · cases h1
  funcs := fun f fn h => by
    have h1 : mkFn P f = some fn := fillT_inv (mkFn P) _ _ _ (fun j x hj => by rw [T.get_nil] at hj; cases hj) f fn h
    unfold mkFn at h1
    split at h1
    · rename_i fn' hf
      split at h1
      · rename_i c hc hn
        cases h1
        exact ⟨hf, hn, c, hc⟩
      · cases h1
    · cases h1
  exts := fun f x h => by
    have h1 : mkExt P f = some x := fillT_inv (mkExt P) _ _ _ (fun j y hj => by rw [T.get_nil] at hj; cases hj) f x h
    unfold mkExt at h1
    split at h1
    · rename_i fn hf
      split at h1
      · rename_i hb hx hn
        exact ⟨fn, hf, hn, hb, by simpa using hx, extNamed_find h1⟩
      · cases h1
    · cases h1
def allTrue : List (Value × Mem) → Bool
  | [] => true
  | (.bool true, _) :: l => allTrue l
  | _ :: _ => false
theorem allTrue_spec : ∀ {l}, allTrue l = true → ∀ r ∈ l, r.1 = .bool true := by
  intro l
  induction l with
  | nil => intro _ r hr; cases hr
  | cons x l ih =>
    intro h r hr
    unfold allTrue at h
    split at h
    · rename_i e
      cases e
    · rename_i e
      cases e
      cases hr with
      | head => rfl
      | tail _ hm => exact ih h r hm
    · cases h
def isTrue (l : List (Value × Mem)) : Bool :=
  match l with
  | [] => false
  | x :: l => allTrue (x :: l)
def noSums : Sums := fun _ _ _ => none
theorem noSums_ok (E : Env) (P : Program) (w0 : World) : SOK E P w0 noSums := fun _ _ _ _ h => by cases h
theorem MR.start (E : Env) (w : World) : MR E w (fun _ => none) ⟨0, .nil⟩ w :=
  { below := Below.refl _ w
    obj := fun i o hg => by simp only [T.get_nil] at hg; cases hg
    inj := fun i j o p x y hi => by simp only [T.get_nil] at hi; cases hi
    fresh := fun i _ => rfl }
/-- what an evaluation from nothing says of every world -/
theorem ae_true_with {P : Program} (hP : P.follows .mixedOrders = true) {S : Sums} {fuel d : Nat} {f : FuncId} {args : List Value} {args' : Array Value} (hargs : VRL (fun _ => none) args args'.toList) (h : isTrue (evCall (mkEnv P) S fuel d (.fn f) args ⟨0, .nil⟩) = true) (w : World) (hS : SOK (mkEnv P) P w S) :
    Calls P f args' w fun e w' => e = .returned (.bool true) ∧ Below w.heap.size w w' := by
  have hne : evCall (mkEnv P) S fuel d (.fn f) args ⟨0, .nil⟩ ≠ [] := fun e => by rw [e] at h; cases h
  refine ((evCall_ok (w0 := w) (mkEnv_ok P) hP hS fuel d).fn f args ⟨0, .nil⟩ hne _ w args' hargs (MR.start _ w)).mono ?_
  rintro e w' ⟨r, hr, σ', v', rfl, hf, hv, hm⟩
  have ht : r.1 = .bool true := by
    cases hl : evCall (mkEnv P) S fuel d (.fn f) args ⟨0, .nil⟩ with
    | nil => exact absurd hl hne
    | cons x l => rw [hl] at h hr; exact allTrue_spec h r hr
  rw [ht] at hv
  exact ⟨congrArg _ (hv.simple_inv rfl), hm.below⟩
theorem ae_true {P : Program} (hP : P.follows .mixedOrders = true) {fuel d : Nat} {f : FuncId} {args : List Value} {args' : Array Value} (hargs : VRL (fun _ => none) args args'.toList) (h : isTrue (evCall (mkEnv P) noSums fuel d (.fn f) args ⟨0, .nil⟩) = true) (w : World) :
    Calls P f args' w fun e w' => e = .returned (.bool true) ∧ Below w.heap.size w w' := ae_true_with hP hargs h w (noSums_ok _ _ _)
end Go.AE
