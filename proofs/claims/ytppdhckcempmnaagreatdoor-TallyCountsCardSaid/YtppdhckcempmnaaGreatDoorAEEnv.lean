/- The evaluator's environment, made of a program. -/
import Derived.Test.YtppdhckcempmnaaGreatDoorAEEv
namespace Go.AE
noncomputable section
def mkTI (P : Program) (t : TypeId) : Option TI :=
  match P.info? t, P.underlying t with
  | some i, some d => match i.zero with
    | some z => match Nat.beq z.cells.toList.length i.size, allSimple z.cells.toList, (match z with | .agg _ => agg? d | _ => !agg? d) with
      | true, true, true => some ⟨d, i.size, i.bytes, z.cells.toList⟩
      | _, _, _ => none
    | none => none
  | _, _ => none
def fillT {α : Type} (f : Nat → Option α) : Nat → Nat → T α → T α
  | 0, _, t => t
  | n + 1, i, t => match f i with
    | some x => fillT f n (i + 1) (t.set i x)
    | none => fillT f n (i + 1) t
def mkFn (P : Program) (f : FuncId) : Option Func :=
  match P.funcs[f]? with
  | some fn => match fn.body, fn.name == "runtime.NumGoroutine" with
    | some _, false => some fn
    | _, _ => none
  | none => none
def atomicName (n : String) : String := "sync" ++ String.singleton (Char.ofNat 47) ++ "atomic." ++ n
def raceName (n : String) : String := "internal" ++ String.singleton (Char.ofNat 47) ++ "race." ++ n
def cmpName : String := "internal" ++ String.singleton (Char.ofNat 47) ++ "bytealg.abigen_runtime_cmpstring"
def extNamed (n : String) : Option Xtn :=
  if n = atomicName "AddInt64" then some (.add .i64)
  else if n = atomicName "AddUint64" then some (.add .u64)
  else if n = atomicName "AddInt32" then some (.add .i32)
  else if n = atomicName "LoadUint64" then some (.load .u64)
  else if n = atomicName "LoadInt64" then some (.load .i64)
  else if n = atomicName "LoadUint32" then some (.load .u32)
  else if n = atomicName "StoreUint32" then some .store
  else if n = atomicName "CompareAndSwapUint64" then some (.cas .u64)
  else if n = atomicName "CompareAndSwapInt64" then some (.cas .i64)
  else if n = atomicName "CompareAndSwapInt32" then some (.cas .i32)
  else if n = cmpName then some .cmps
  else if n = raceName "Disable" then some (.nop .disable)
  else if n = raceName "Enable" then some (.nop .enable)
  else if n = raceName "Acquire" then some (.markd .acquire)
  else if n = raceName "ReleaseMerge" then some (.markd .releaseMerge)
  else none
def mkExt (P : Program) (f : FuncId) : Option Xtn :=
  match P.funcs[f]? with
  | some fn => match fn.body, (Extern.findNext fn).isNone, fn.name == "runtime.NumGoroutine" with
    | none, true, false => extNamed fn.name
    | _, _, _ => none
  | none => none
def mkEnv (P : Program) : Env := ⟨P, fillT (mkTI P) P.types.size 0 .nil, fillT (mkFn P) P.funcs.size 0 .nil, fillT (mkExt P) P.funcs.size 0 .nil⟩
end
end Go.AE
