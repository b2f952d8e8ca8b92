/- AEEnv, AETop, AEFastA: in one text. -/
import Derived.Test.YtpbhfckefmboaaaGreatDoorGp29
import Derived.Test.YtpbhfckefmboaaaGreatDoorGp40
set_option linter.unusedVariables false
set_option linter.unusedSimpArgs false
set_option linter.unusedSectionVars false
namespace Go.AE
noncomputable section
def mkTI (P : Program) (t : TypeId) : Option TI :=
  match P.info? t, P.underlying t with
  | some i, some d => match i.zero with
    | some z => match Nat.beq z.cells.toList.length i.size, allSimple z.cells.toList, (match z with | .agg _ => agg? d | _ => !agg? d) with
      | true, true, true => some ⟨d, i.size, i.bytes, z.cells.toList⟩
      | _, _, _ => none
    | none => none
  | _, _ => none
def fillT {α : Type} (f : Nat → Option α) : Nat → Nat → T α → T α
  | 0, _, t => t
  | n + 1, i, t => match f i with
    | some x => fillT f n (i + 1) (t.set i x)
    | none => fillT f n (i + 1) t
def mkFn (P : Program) (f : FuncId) : Option Func :=
  match P.funcs[f]? with
  | some fn => match fn.body, fn.name == "runtime.NumGoroutine" with
    | some _, false => some fn
    | _, _ => none
  | none => none
def atomicName (n : String) : String := "sync" ++ String.singleton (Char.ofNat 47) ++ "atomic." ++ n
def raceName (n : String) : String := "internal" ++ String.singleton (Char.ofNat 47) ++ "race." ++ n
def cmpName : String := "internal" ++ String.singleton (Char.ofNat 47) ++ "bytealg.abigen_runtime_cmpstring"
def extNamed (n : String) : Option Xtn :=
  if n = atomicName "AddInt64" then some (.add .i64)
  else if n = atomicName "AddUint64" then some (.add .u64)
  else if n = atomicName "AddInt32" then some (.add .i32)
  else if n = atomicName "LoadUint64" then some (.load .u64)
  else if n = atomicName "LoadInt64" then some (.load .i64)
  else if n = atomicName "LoadUint32" then some (.load .u32)
  else if n = atomicName "StoreUint32" then some .store
  else if n = atomicName "CompareAndSwapUint64" then some (.cas .u64)
  else if n = atomicName "CompareAndSwapInt64" then some (.cas .i64)
  else if n = atomicName "CompareAndSwapInt32" then some (.cas .i32)
  else if n = cmpName then some .cmps
  else if n = raceName "Disable" then some (.nop .disable)
  else if n = raceName "Enable" then some (.nop .enable)
  else if n = raceName "Acquire" then some (.markd .acquire)
  else if n = raceName "ReleaseMerge" then some (.markd .releaseMerge)
  else none
def mkExt (P : Program) (f : FuncId) : Option Xtn :=
  match P.funcs[f]? with
  | some fn => match fn.body, (Extern.findNext fn).isNone, fn.name == "runtime.NumGoroutine" with
    | none, true, false => extNamed fn.name
    | _, _, _ => none
  | none => none
def mkEnv (P : Program) : Env := ⟨P, fillT (mkTI P) P.types.size 0 .nil, fillT (mkFn P) P.funcs.size 0 .nil, fillT (mkExt P) P.funcs.size 0 .nil⟩
end
end Go.AE
namespace Go.AE
open Go.RowKit
theorem fillT_inv {α : Type} (f : Nat → Option α) : ∀ n i t, (∀ j x, t.get j = some x → f j = some x) → ∀ j x, (fillT f n i t).get j = some x → f j = some x := by
  intro n
  induction n with
  | zero => intro i t h j x hj; exact h j x hj
  | succ n ih =>
    intro i t h j x hj
    simp only [fillT] at hj
    split at hj
    · rename_i y hy
      refine ih (i + 1) (t.set i y) (fun k z hk => ?_) j x hj
      rw [T.get_set] at hk
      split at hk
      · rename_i e; subst e; cases hk; exact hy
      · exact h k z hk
    · exact ih (i + 1) t h j x hj
theorem find_of {fn : Func} {n : String} {e : Array Value → Sem Value} (hn : fn.name = n) (h1 : Extern.allGenericRows.lookup n = none) (h2 : Extern.allTypedRows.lookup n = none) (h3 : Extern.allRows.lookup n = some e) : Extern.find fn = some e := by
  unfold Extern.find
  simp only [hn, h1, h2, h3]
  rfl
theorem extNamed_find {fn : Func} {x : Xtn} (h : extNamed fn.name = some x) : Extern.find fn = some x.impl := by
  unfold extNamed at h
  by_cases e : fn.name = atomicName "AddInt64"
  · rw [if_pos e] at h; cases h; exact find_of e (by kernel_rfl) (by kernel_rfl) (by kernel_rfl)
  rw [if_neg e] at h; clear e
  by_cases e : fn.name = atomicName "AddUint64"
  · rw [if_pos e] at h; cases h; exact find_of e (by kernel_rfl) (by kernel_rfl) (by kernel_rfl)
  rw [if_neg e] at h; clear e
  by_cases e : fn.name = atomicName "AddInt32"
  · rw [if_pos e] at h; cases h; exact find_of e (by kernel_rfl) (by kernel_rfl) (by kernel_rfl)
  rw [if_neg e] at h; clear e
  by_cases e : fn.name = atomicName "LoadUint64"
  · rw [if_pos e] at h; cases h; exact find_of e (by kernel_rfl) (by kernel_rfl) (by kernel_rfl)
  rw [if_neg e] at h; clear e
  by_cases e : fn.name = atomicName "LoadInt64"
  · rw [if_pos e] at h; cases h; exact find_of e (by kernel_rfl) (by kernel_rfl) (by kernel_rfl)
  rw [if_neg e] at h; clear e
  by_cases e : fn.name = atomicName "LoadUint32"
  · rw [if_pos e] at h; cases h; exact find_of e (by kernel_rfl) (by kernel_rfl) (by kernel_rfl)
  rw [if_neg e] at h; clear e
  by_cases e : fn.name = atomicName "StoreUint32"
  · rw [if_pos e] at h; cases h; exact find_of e (by kernel_rfl) (by kernel_rfl) (by kernel_rfl)
  rw [if_neg e] at h; clear e
  by_cases e : fn.name = atomicName "CompareAndSwapUint64"
  · rw [if_pos e] at h; cases h; exact find_of e (by kernel_rfl) (by kernel_rfl) (by kernel_rfl)
  rw [if_neg e] at h; clear e
  by_cases e : fn.name = atomicName "CompareAndSwapInt64"
  · rw [if_pos e] at h; cases h; exact find_of e (by kernel_rfl) (by kernel_rfl) (by kernel_rfl)
  rw [if_neg e] at h; clear e
  by_cases e : fn.name = atomicName "CompareAndSwapInt32"
  · rw [if_pos e] at h; cases h; exact find_of e (by kernel_rfl) (by kernel_rfl) (by kernel_rfl)
  rw [if_neg e] at h; clear e
  by_cases e : fn.name = cmpName
  · rw [if_pos e] at h; cases h; exact find_of e (by kernel_rfl) (by kernel_rfl) (by kernel_rfl)
  rw [if_neg e] at h; clear e
  by_cases e : fn.name = raceName "Disable"
  · rw [if_pos e] at h; cases h; exact find_of e (by kernel_rfl) (by kernel_rfl) (by kernel_rfl)
  rw [if_neg e] at h; clear e
  by_cases e : fn.name = raceName "Enable"
  · rw [if_pos e] at h; cases h; exact find_of e (by kernel_rfl) (by kernel_rfl) (by kernel_rfl)
  rw [if_neg e] at h; clear e
  by_cases e : fn.name = raceName "Acquire"
  · rw [if_pos e] at h; cases h; exact find_of e (by kernel_rfl) (by kernel_rfl) (by kernel_rfl)
  rw [if_neg e] at h; clear e
  by_cases e : fn.name = raceName "ReleaseMerge"
  · rw [if_pos e] at h; cases h; exact find_of e (by kernel_rfl) (by kernel_rfl) (by kernel_rfl)
  rw [if_neg e] at h; clear e
  cases h
theorem mkEnv_ok (P : Program) : EOK (mkEnv P) P where
  prog := rfl
  types := fun t ti h => by
    have h1 : mkTI P t = some ti := fillT_inv (mkTI P) _ _ _ (fun j x hj => by rw [T.get_nil] at hj; cases hj) t ti h
    unfold mkTI at h1
    split at h1
    · rename_i i d hi hd
      split at h1
      · rename_i z hz
        split at h1
        · rename_i a1 a2 a3
          cases h1
          have e1 := Nat.eq_of_beq_eq_true a1
          refine ⟨hd, i, z, hi, rfl, rfl, hz, rfl, e1, allSimple_spec a2, fun hg => ?_, fun hg => ?_⟩
          · simp only at hg
            cases z with
            | agg vs => simp only at a3; rw [a3] at hg; cases hg
            | _ => simp only [Value.cells]
          · simp only at hg
            cases z with
            | agg vs => simp [Value.cells]
            | _ => simp only at a3; rw [hg] at a3; cases a3
        · cases h1
      · cases h1
    · cases h1
  funcs := fun f fn h => by
    have h1 : mkFn P f = some fn := fillT_inv (mkFn P) _ _ _ (fun j x hj => by rw [T.get_nil] at hj; cases hj) f fn h
    unfold mkFn at h1
    split at h1
    · rename_i fn' hf
      split at h1
      · rename_i c hc hn
        cases h1
        exact ⟨hf, hn, c, hc⟩
      · cases h1
    · cases h1
  exts := fun f x h => by
    have h1 : mkExt P f = some x := fillT_inv (mkExt P) _ _ _ (fun j y hj => by rw [T.get_nil] at hj; cases hj) f x h
    unfold mkExt at h1
    split at h1
    · rename_i fn hf
      split at h1
      · rename_i hb hx hn
        exact ⟨fn, hf, hn, hb, by simpa using hx, extNamed_find h1⟩
      · cases h1
    · cases h1
def allTrue : List (Value × Mem) → Bool
  | [] => true
  | (.bool true, _) :: l => allTrue l
  | _ :: _ => false
theorem allTrue_spec : ∀ {l}, allTrue l = true → ∀ r ∈ l, r.1 = .bool true := by
  intro l
  induction l with
  | nil => intro _ r hr; cases hr
  | cons x l ih =>
    intro h r hr
    unfold allTrue at h
    split at h
    · rename_i e
      cases e
    · rename_i e
      cases e
      cases hr with
      | head => rfl
      | tail _ hm => exact ih h r hm
    · cases h
def isTrue (l : List (Value × Mem)) : Bool :=
  match l with
  | [] => false
  | x :: l => allTrue (x :: l)
def noSums : Sums := fun _ _ _ => none
theorem noSums_ok (E : Env) (P : Program) (w0 : World) : SOK E P w0 noSums := fun _ _ _ _ h => by cases h
theorem MR.start (E : Env) (w : World) : MR E w (fun _ => none) ⟨0, .nil⟩ w :=
  { below := Below.refl _ w
    obj := fun i o hg => by simp only [T.get_nil] at hg; cases hg
    inj := fun i j o p x y hi => by simp only [T.get_nil] at hi; cases hi
    fresh := fun i _ => rfl }
/-- what an evaluation from nothing says of every world -/
theorem ae_true_with {P : Program} (hP : P.follows .mixedOrders = true) {S : Sums} {fuel d : Nat} {f : FuncId} {args : List Value} {args' : Array Value} (hargs : VRL (fun _ => none) args args'.toList) (h : isTrue (evCall (mkEnv P) S fuel d (.fn f) args ⟨0, .nil⟩) = true) (w : World) (hS : SOK (mkEnv P) P w S) :
    Calls P f args' w fun e w' => e = .returned (.bool true) ∧ Below w.heap.size w w' := by
  have hne : evCall (mkEnv P) S fuel d (.fn f) args ⟨0, .nil⟩ ≠ [] := fun e => by rw [e] at h; cases h
  refine ((evCall_ok (w0 := w) (mkEnv_ok P) hP hS fuel d).fn f args ⟨0, .nil⟩ hne _ w args' hargs (MR.start _ w)).mono ?_
  rintro e w' ⟨r, hr, σ', v', rfl, hf, hv, hm⟩
  have ht : r.1 = .bool true := by
    cases hl : evCall (mkEnv P) S fuel d (.fn f) args ⟨0, .nil⟩ with
    | nil => exact absurd hl hne
    | cons x l => rw [hl] at h hr; exact allTrue_spec h r hr
  rw [ht] at hv
  exact ⟨congrArg _ (hv.simple_inv rfl), hm.below⟩
theorem ae_true {P : Program} (hP : P.follows .mixedOrders = true) {fuel d : Nat} {f : FuncId} {args : List Value} {args' : Array Value} (hargs : VRL (fun _ => none) args args'.toList) (h : isTrue (evCall (mkEnv P) noSums fuel d (.fn f) args ⟨0, .nil⟩) = true) (w : World) :
    Calls P f args' w fun e w' => e = .returned (.bool true) ∧ Below w.heap.size w w' := ae_true_with hP hargs h w (noSums_ok _ _ _)
end Go.AE
namespace Go.AE
noncomputable section
/-! ### operands -/
inductive Opd where | tmp (p : Pos) | val (v : Value)
def opdOf (x : Operand) : Opd := @Operand.rec (fun _ => Opd) (fun i => .tmp (posOf i)) (fun v => .val (cst v)) (fun _ => .val bad) (fun f => .val (.func (.func f) #[] #[])) x
def dS (v : Value) : Value := v
def optD (o : Option Value) : Value := @Option.rec Value (fun _ => Value) und dS o
def opT (p : Pos) (t : T Value) : Value := optD (t.getP p)
def opV (v : Value) (_ : T Value) : Value := v
def Opd.ev (x : Opd) (t : T Value) : Value := @Opd.rec (fun _ => T Value → Value) opT opV x t
theorem opdOf_ev (x : Operand) (t : T Value) : (opdOf x).ev t = evalT t x := by
  cases x with
  | tmp i =>
    show optD (t.getP (posOf i)) = match t.get i with | some v => v | none => und
    rw [T.getP_of]
    cases t.get i <;> rfl
  | _ => rfl
def dstOf (N : Nat) (d : Option Tmp) : Option Pos := match d with | none => none | some i => match Nat.blt i N with | true => some (posOf i) | false => none
def pN (t : T Value) (_ : Value) : T Value := t
def pS (p : Pos) (t : T Value) (v : Value) : T Value := t.setP p v
def putP (t : T Value) (d : Option Pos) (v : Value) : T Value := @Option.rec Pos (fun _ => T Value → Value → T Value) pN pS d t v
theorem putP_eq (N : Nat) (t : T Value) (d : Option Tmp) (v : Value) : putP t (dstOf N d) v = put N t d v := by
  cases d with
  | none => rfl
  | some i =>
    show putP t (match Nat.blt i N with | true => some (posOf i) | false => none) v = match Nat.blt i N with | true => t.set i v | false => t
    cases Nat.blt i N with
    | false => rfl
    | true => exact T.setP_of t i v
/-! ### values, taken apart -/
abbrev RT := List (T Value × Mem)
abbrev KT := T Value → Mem → RT
section
variable {γ : Type} (b : Bool → Option γ) (i : IntKind → Int → Option γ) (p : Option Addr → Option γ) (u : Array Value → Option γ)
def vFl (_ : FloatKind) (_ : Nat) : Option γ := none
def vCx (_ : FloatKind) (_ _ : Nat) : Option γ := none
def vSt (_ : ByteArray) : Option γ := none
def vSl (_ : Option Addr) (_ _ : Nat) : Option γ := none
def vOn (_ : Option Nat) : Option γ := none
def vFn (_ : Fn) (_ _ : Array Value) (_ _ : Unit) : Option γ := none
def vIf (_ : TypeId) (_ : Value) (_ : Option γ) : Option γ := none
def vAg (_ : Array Value) (_ : Unit) : Option γ := none
def vTu (a : Array Value) (_ : Unit) : Option γ := u a
def vAr (_ : List Value) (_ : Unit) : Unit := ()
def vCo (_ : Value) (_ : List Value) (_ : Option γ) (_ : Unit) : Unit := ()
def pick4 (v : Value) : Option γ :=
  @Value.rec (fun _ => Option γ) (fun _ => Unit) (fun _ => Unit) b i vFl vCx vSt p vSl vOn vOn vFn none vIf none vAg (vTu u) vAr () vCo v
end
def no1 {α γ : Type} (_ : α) : Option γ := none
def no2 {α β γ : Type} (_ : α) (_ : β) : Option γ := none
def idO (a : Option Addr) : Option Addr := a
def mkP (k : IntKind) (n : Int) : Option (IntKind × Int) := some (k, n)
def asPtr (v : Value) : Option Addr := pick4 no1 no2 idO no1 v
def asInt (v : Value) : Option (IntKind × Int) := pick4 no1 mkP no1 no1 v
def asBool (v : Value) : Option Bool := pick4 some no2 no1 no1 v
def asTup (v : Value) : Option (Array Value) := pick4 no1 no2 no1 some v
/-! ### operations, each under a name -/
abbrev OF := Env → Oper → T Value → Mem → List Out
def oNone (_ : Env) (_ : Oper) (_ : T Value) (_ : Mem) : List Out := []
def oMove (x : Operand) : OF := fun _ _ t _ => [.val (evalT t x)]
def oPick (c a b : Operand) : OF := fun _ _ t _ => match evalT t c with
    | .bool q => [.val (cond q (evalT t a) (evalT t b))]
    | .complex .f32 1 0 => [.val (evalT t a), .val (evalT t b)]
    | _ => []
def oAlloc (ty : TypeId) : OF := fun E _ _ _ => match E.types.get ty with
    | some ti => [.new (newRow ty ti.zero) .ptr]
    | none => []
def oBox (ty : TypeId) (x : Operand) : OF := fun E _ t _ => match E.types.get ty, isBad (evalT t x) with
    | some _, false => [.new (newRow ty (cellsOf (evalT t x))) .ptr]
    | _, _ => []
def oBuild (ty : TypeId) (parts : Array (Nat × Operand)) : OF := fun E _ t _ => valO (buildA E ty (parts.toList.map fun p => (p.1, evalT t p.2)))
def oBuildS (ty : TypeId) (len : Nat) (parts : Array (Nat × Operand)) : OF := fun E _ t _ => ofO (buildSliceA E ty len (parts.toList.map fun p => (p.1, evalT t p.2)))
def oUpd (ty : TypeId) (x k v : Operand) : OF := fun E _ t m => match mapUpdateA E ty (evalT t x) (evalT t k) (evalT t v) m with
    | some m' => [.eff und m']
    | none => []
def lP (ty : TypeId) (m : Mem) (E : Env) (a : Addr) : List Out := valO (loadAt E ty a m)
def oLoad (ty : TypeId) (x : Operand) : OF := fun E _ t m => match asPtr (evalT t x) with
    | some a => valO (loadAt E ty a m)
    | none => []
def oStore (ty : TypeId) (a x : Operand) : OF := fun E _ t m => match storeA E ty (evalT t a) (evalT t x) m with
    | some m' => [.eff und m']
    | none => []
def oNil (x : Operand) : OF := fun E _ t _ => match evalT t x with
    | .pointer (some a) => [.val (.pointer (some a))]
    | .func (.func g) a b => [.val (.func (.func g) a b)]
    | .func (.method name) a b => match a.toList with
      | .iface t v :: _ => match methodA E t name v with
        | some _ => [.val (.func (.method name) a b)]
        | none => []
      | _ => []
    | .iface t v => [.val (.iface t v)]
    | .complex .f32 7 i => [.val (yld i)]
    | _ => []
def oBin (op : BinOp) (ty : TypeId) (x y : Operand) (_ : TypeId) : OF := fun E _ t _ => valO (binopC E op ty (isConst x || isConst y) (evalT t x) (evalT t y))
def oUn (op : UnOp) (_ : TypeId) (x : Operand) : OF := fun _ _ t _ => match op, evalT t x with
    | .not, .bool b => [.val (.bool !b)]
    | .not, .complex .f32 1 0 => [.val topB]
    | .neg, .int k n => [.val (.int k (k.wrap (0 - n)))]
    | .xor, .int k n => valO (intBin .xor k (if k.signed then -1 else k.max) n)
    | _, _ => []
def oConv (src dst : TypeId) (x : Operand) : OF := fun E _ t m => ofO (convertA E src dst (evalT t x) m)
def oIface (ty : TypeId) (x : Operand) : OF := fun E _ t _ => match E.types.get ty with
    | some ti => match isIface ti.desc with
      | false => [.val (.iface ty (evalT t x))]
      | true => []
    | none => []
def oFunc (fn : Fn) (first captured : Array Operand) : OF := fun _ _ t _ => [.val (.func fn (first.map (evalT t)) (captured.map (evalT t)))]
def oMap (_ : TypeId) (r : Option Operand) : OF := fun _ _ _ _ => match r with
    | none => [.new (.map [] 0) .map]
    | some _ => []
def oMkS (ty : TypeId) (l c : Operand) : OF := fun E _ t _ => ofO (makeSliceA E ty (evalT t l) (evalT t c))
def oSlice (ty : TypeId) (x : Operand) (lo hi mx : Option Operand) : OF := fun E _ t m => sliceA E ty (evalT t x) (lo.map (evalT t)) (hi.map (evalT t)) (mx.map (evalT t)) m
def oFA (ty : TypeId) (x : Operand) (f : Nat) : OF := fun E _ t _ => valO (fieldAddrA E ty (evalT t x) f)
def oF (ty : TypeId) (x : Operand) (f : Nat) : OF := fun E _ t _ => valO (fieldA E ty (evalT t x) f)
def oIA (ty : TypeId) (x i : Operand) : OF := fun E _ t _ => valO (indexAddrA E ty (evalT t x) (evalT t i))
def oI (ty : TypeId) (x i : Operand) : OF := fun E _ t _ => valO (indexA E ty (evalT t x) (evalT t i))
def oLook (ty : TypeId) (x k : Operand) (ok : Bool) : OF := fun E _ t m => valO (lookupA E ty (evalT t x) (evalT t k) ok m)
def oRange (ty : TypeId) (x : Operand) : OF := fun E _ t m => ofO (rangeA E ty (evalT t x) m)
def oNext (x : Operand) (s : Bool) : OF := fun _ _ t m => nextA (evalT t x) s m
def oEntry (x : Operand) : OF := fun _ _ t m => valO (entryA (evalT t x) m)
def oTA (x : Operand) (_ asserted : TypeId) (ok : Bool) : OF := fun E _ t _ => valO (assertA E asserted (evalT t x) ok)
def oEx (x : Operand) (i : Nat) : OF := fun _ _ t _ => match asTup (evalT t x) with
    | some vs => match vs.toList[i]? with
      | some v => [.val v]
      | none => []
    | none => []
/-! calls -/
def cLen (c : Call) (E : Env) (t : T Value) (m : Mem) : List Out := match c.argTypes.toList, c.args.toList with
    | [ty], [x] => valO (lenA E ty (evalT t x) m)
    | _, _ => []
def cVal (f : Operand) (c : Call) (E : Env) (t : T Value) (m : Mem) : List Out := match evalT t f with
    | .func (.func g) first cap => match E.funcs.get g with
      | some _ => [.enter (.fn g) (first.toList ++ c.args.toList.map (evalT t) ++ cap.toList)]
      | none => match E.exts.get g with
        | some x => ofO (extA x (first.toList ++ c.args.toList.map (evalT t) ++ cap.toList) m)
        | none => []
    | .func (.method name) first _ => match first.toList with
      | .iface ty v :: r => match methodA E ty name v with
        | some (g, u) => match E.funcs.get g with
          | some _ => [.enter (.fn g) (u :: (r ++ c.args.toList.map (evalT t)))]
          | none => []
        | none => []
      | _ => []
    | .complex .f32 7 i => [.enter (.yld i) (c.args.toList.map (evalT t))]
    | _ => []
def cInv (r : Operand) (name : String) (c : Call) (E : Env) (t : T Value) (_ : Mem) : List Out := match evalT t r with
    | .iface ty v => match methodA E ty name v with
      | some (g, u) => match E.funcs.get g with
        | some _ => [.enter (.fn g) (u :: c.args.toList.map (evalT t))]
        | none => []
      | none => []
    | _ => []
def isLen : Builtin → Bool
  | .len => true
  | _ => false
def cBl (b : Builtin) (c : Call) (E : Env) (t : T Value) (m : Mem) : List Out := match isLen b with
  | true => cLen c E t m
  | false => callA E (evalT t) c m
def oCall (c : Call) : OF := fun E _ t m => @Callee.rec (fun _ => Call → Env → T Value → Mem → List Out) cVal cInv cBl c.callee c E t m
def oN1 {α : Type} (_ : α) : OF := oNone
def oN2 {α β : Type} (_ : α) (_ : β) : OF := oNone
def oN3 {α β γ : Type} (_ : α) (_ : β) (_ : γ) : OF := oNone
def oN4 {α β γ δ : Type} (_ : α) (_ : β) (_ : γ) (_ : δ) : OF := oNone
def opF (op : Op) : OF :=
  @Op.rec (fun _ => OF) oMove oMove oPick oAlloc oBox oBuild oBuildS oUpd oLoad oStore oN1 oN1 oNil oBin oUn oConv oN2 oIface oFunc oMap oN2 oMkS oSlice oFA oF oIA oI oLook oUpd oN3 oN4 oRange oNext oEntry oTA oEx oCall oN1 oN1 oN1 oN2 oN3 oN2 op
def evOpF (E : Env) (o : Oper) (t : T Value) (m : Mem) : List Out := opF o.op E o t m
theorem evOpF_eq (E : Env) (o : Oper) (t : T Value) (m : Mem) : evOpF E o t m = evOp E (evalT t) o m := by
  obtain ⟨dst, op, ty, pos, after, guard⟩ := o
  cases op <;> try rfl
  case makeMap t r => cases r <;> rfl
  case load ty x =>
    show (match asPtr (evalT t x) with | some a => valO (loadAt E ty a m) | none => []) = (match evalT t x with | .pointer (some a) => valO (loadAt E ty a m) | _ => [])
    cases evalT t x with
    | pointer a => cases a <;> rfl
    | _ => rfl
  case extract x i =>
    show (match asTup (evalT t x) with | some vs => (match vs.toList[i]? with | some v => [Out.val v] | none => []) | none => []) = (match evalT t x with | .tuple vs => (match vs.toList[i]? with | some v => [Out.val v] | none => []) | _ => [])
    cases evalT t x <;> rfl
  case call c =>
    obtain ⟨callee, args, tys⟩ := c
    cases callee with
    | builtin b => cases b <;> rfl
    | _ => rfl
end
end Go.AE
