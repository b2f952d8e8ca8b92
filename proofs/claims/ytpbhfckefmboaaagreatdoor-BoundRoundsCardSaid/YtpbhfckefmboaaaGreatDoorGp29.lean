/- The abstract evaluator: operations, code, calls. Definitions only. -/
import Derived.Test.YtpbhfckefmboaaaGreatDoorGp26
import Derived.Lib.Bytealg
set_option linter.unusedVariables false
set_option linter.unusedSimpArgs false
set_option linter.unusedSectionVars false
namespace Go.AE
noncomputable section
def allSimple : List Value → Bool
  | [] => true
  | v :: l => cond (simple v) (allSimple l) false
def places (E : Env) : List Field → Option (List (Nat × Nat))
  | [] => some []
  | f :: fs => match E.types.get f.type, places E fs with
    | some ti, some l => some ((f.offset, ti.size) :: l)
    | _, _ => none
def anyBad : List (Nat × Value) → Bool
  | [] => false
  | (_, v) :: l => cond (isBad v) true (anyBad l)
def buildA (E : Env) (t : TypeId) (parts : List (Nat × Value)) : Option Value :=
  match E.types.get t, anyBad parts with
  | some ti, false => match ti.desc with
    | .struct fs => match places E fs.toList with
      | some pl => match Instr.fill (pl.toArray[·]?) ti.zero.toArray parts with
        | some cells => some (.agg cells)
        | none => none
      | none => none
    | .array _ e => match E.types.get e with
      | some te => match Instr.fill (fun i => some (i * te.size, te.size)) ti.zero.toArray parts with
        | some cells => some (.agg cells)
        | none => none
      | none => none
    | _ => none
  | _, _ => none
def rep (n : Nat) (z : List Value) : List Value :=
  match n with
  | 0 => []
  | n + 1 => z ++ rep n z
def buildSliceA (E : Env) (t : TypeId) (len : Nat) (parts : List (Nat × Value)) : Option Out :=
  match elemSize E t, anyBad parts with
  | some (e, te), false => match Nat.ble (len * te.size) 100000, te.size with
    | true, s + 1 => match Instr.fill (fun i => some (i * (s + 1), s + 1)) (rep len te.zero).toArray parts with
      | some cells => some (.new (newRow e cells.toList) (.slice len len))
      | none => none
    | _, _ => none
  | _, _ => none
def makeSliceA (E : Env) (t : TypeId) (l c : Value) : Option Out :=
  match elemSize E t, l, c with
  | some (e, te), .int _ (.ofNat l), .int _ (.ofNat c) => match Nat.ble l c, Nat.ble (c * te.size) 100000, Nat.ble c 1000000, Nat.ble te.bytes 100000 with
    | true, true, true, true => some (.new (newRow e (rep c te.zero)) (.slice l c))
    | _, _, _, _ => none
  | _, _, _ => none
def fieldAddrA (E : Env) (t : TypeId) (x : Value) (f : Nat) : Option Value :=
  match E.types.get t, x with
  | some ti, .pointer (some a) => match ti.desc with
    | .struct fs => match fs[f]? with
      | some fd => match E.types.get fd.type with
        | some tf => match tf.size with
          | 0 => none
          | _ => some (.pointer (some ⟨a.block, a.off + fd.offset, none⟩))
        | none => none
      | none => none
    | _ => none
  | _, _ => none
def fieldA (E : Env) (t : TypeId) (x : Value) (f : Nat) : Option Value :=
  match E.types.get t, x with
  | some ti, .agg cs => match ti.desc with
    | .struct fs => match fs[f]? with
      | some fd => partA E fd.type cs fd.offset
      | none => none
    | _ => none
  | _, _ => none
def indexAddrA (E : Env) (t : TypeId) (x i : Value) : Option Value :=
  match E.types.get t, i with
  | some ti, .int _ (.ofNat i) => match ti.desc, x with
    | .slice e, .slice (some a) n _ => match E.types.get e, Nat.blt i n with
      | some te, true => some (.pointer (some ⟨a.block, a.off + i * te.size, none⟩))
      | _, _ => none
    | .array n e, .pointer (some a) => match E.types.get e, Nat.blt i n with
      | some te, true => some (.pointer (some ⟨a.block, a.off + i * te.size, none⟩))
      | _, _ => none
    | _, _ => none
  | _, _ => none
def indexA (E : Env) (t : TypeId) (x i : Value) : Option Value :=
  match E.types.get t, i with
  | some ti, .int _ (.ofNat i) => match ti.desc, x with
    | .array n e, .agg cs => match E.types.get e, Nat.blt i n with
      | some te, true => partA E e cs (i * te.size)
      | _, _ => none
    | .string, .string s => match s.data.toList[i]? with
      | some b => some (.int .u8 b.toNat)
      | none => none
    | _, _ => none
  | _, _ => none
def convertA (E : Env) (src dst : TypeId) (x : Value) (m : Mem) : Option Out :=
  match E.types.get src, E.types.get dst with
  | some ts, some td => match ts.desc, td.desc, x with
    | _, .int k, .int _ n => some (.val (.int k (k.wrap n)))
    | _, .string, .string s => some (.val (.string s))
    | _, .slice e, .string s => match E.types.get e with
      | some te => match te.desc, te.size, Nat.ble s.data.toList.length 1000000 with
        | .int .u8, 1, true => some (.eff (.slice (some ⟨m.n, 0, none⟩) s.data.toList.length OPEN) ⟨m.n + 1, m.t.set m.n (newRow e (s.data.toList.map fun b => .int .u8 b.toNat))⟩)
        | _, _, _ => none
      | none => none
    | _, .slice e, .slice (some a) n c => match E.types.get e, Nat.beq src dst, m.t.get a.block with
      | some te, true, some (.row _ _ _) => match te.desc with
        | .int .u8 => some (.eff (.slice (some a) n c) m)
        | _ => none
      | _, _, _ => none
    | .slice e, .string, .slice none _ _ => match E.types.get e with
      | some te => match te.desc with
        | .int .u8 => some (.val (.string ⟨#[]⟩))
        | _ => none
      | none => none
    | .slice e, .string, .slice (some a) n _ => match E.types.get e, m.t.get a.block with
      | some te, some (.row cells k _) => match te.desc, Nat.ble (a.off + n) k with
        | .int .u8, true => match cells.getL n a.off with
          | some l => match l.mapM (fun v => match v with | .int .u8 (.ofNat b) => some (UInt8.ofNat b) | _ => none) with
            | some bs => some (.val (.string ⟨bs.toArray⟩))
            | none => none
          | none => none
        | _, _ => none
      | _, _ => none
    | .pointer e, .unsafePointer, .pointer (some a) => match E.types.get e, m.t.get a.block with
      | some te, some (.row _ n _) => match te.size, Nat.ble (a.off + 1) n with
        | _ + 1, true => some (.val (.pointer (some a)))
        | _, _ => none
      | _, _ => none
    | _, _, _ => none
  | _, _ => none
/-! ### maps -/
def sameNowA (kind : TypeDesc) (a b : Value) : Option Bool :=
  match kind, a, b with
  | .int _, .int j x, .int k y => match sameKind j k with | true => some (x == y) | false => none
  | .string, .string a, .string b => some (a.data.toList == b.data.toList)
  | _, _, _ => none
/-- simple keys, and structs of simple fields -/
def keyEq (E : Env) (t : TypeId) (d : TypeDesc) (a b : Value) : Option Bool :=
  match d with
  | .struct _ => eqA E 20 t a b
  | _ => sameNowA d a b
def findA (E : Env) (t : TypeId) (d : TypeDesc) (k : Value) : List MapEntry → Nat → Option (Option (Nat × Value))
  | [], _ => some none
  | e :: es, i => match keyEq E t d k e.key with
    | some true => some (some (i, e.val))
    | some false => findA E t d k es (i + 1)
    | none => none
def basicT (E : Env) (t : TypeId) : Bool :=
  match E.types.get t with
  | some ti => match ti.desc with
    | .int _ | .string | .bool => true
    | _ => false
  | none => false
def keyFields (E : Env) (cs : Array Value) : List Field → Bool
  | [] => true
  | f :: fs => match f.name == "_" with
    | true => keyFields E cs fs
    | false => match basicT E f.type, partA E f.type cs f.offset with
      | true, some _ => keyFields E cs fs
      | _, _ => false
def mapType (E : Env) (t : TypeId) : Option (TypeId × TI × TI) :=
  match E.types.get t with
  | some ti => match ti.desc with
    | .map k e => match E.types.get k, E.types.get e with
      | some tk, some te => some (k, tk, te)
      | _, _ => none
    | _ => none
  | none => none
def keyOK (E : Env) (d : TypeDesc) (k : Value) : Bool :=
  match d, k with
  | .int _, .int _ _ => true
  | .string, .string _ => true
  | .struct fs, .agg cs => keyFields E cs fs.toList
  | _, _ => false
def eq1 (a b : Value) : Bool :=
  match a, b with
  | .int j x, .int k y => sameKind j k && x == y
  | .string a, .string b => a.data.toList == b.data.toList
  | .bool a, .bool b => a == b
  | _, _ => false
def eqCells : List Value → List Value → Bool
  | [], [] => true
  | a :: l, b :: r => cond (eq1 a b) (eqCells l r) false
  | _, _ => false
def eqKey (a b : Value) : Bool :=
  match a, b with
  | .agg x, .agg y => eqCells x.toList y.toList
  | a, b => eq1 a b
def zeroOf (te : TI) : Value :=
  match agg? te.desc, te.zero with
  | false, [z] => z
  | _, l => .agg l.toArray
def lookupA (E : Env) (t : TypeId) (x k : Value) (ok : Bool) (m : Mem) : Option Value :=
  match mapType E t with
  | some (kt, tk, te) => match keyOK E tk.desc k with
    | false => none
    | true => match x with
      | .map none => some (cond ok (.tuple #[zeroOf te, .bool false]) (zeroOf te))
      | .map (some r) => match m.t.get r with
        | some (.map es _) => match findA E kt tk.desc k es 0 with
          | some (some (_, v)) => some (cond ok (.tuple #[v, .bool true]) v)
          | some none => some (cond ok (.tuple #[zeroOf te, .bool false]) (zeroOf te))
          | none => none
        | _ => none
      | _ => none
  | none => none
def setVal (es : List MapEntry) (i : Nat) (k v : Value) : List MapEntry :=
  match es, i with
  | [], _ => []
  | e :: es, 0 => ⟨k, v, e.born⟩ :: es
  | e :: es, i + 1 => e :: setVal es i k v
def mapUpdateA (E : Env) (t : TypeId) (x k v : Value) (m : Mem) : Option Mem :=
  match mapType E t, x with
  | some (kt, tk, _), .map (some r) => match keyOK E tk.desc k, m.t.get r with
    | true, some (.map es clock) => match findA E kt tk.desc k es 0 with
      | some (some (i, _)) => match es[i]? with
        | some e => match eqKey e.key k with
          | true => some ⟨m.n, m.t.set r (.map (setVal es i k v) clock)⟩
          | false => none
        | none => none
      | some none => some ⟨m.n, m.t.set r (.map (es ++ [⟨k, v, clock⟩]) (clock + 1))⟩
      | none => none
    | _, _ => none
  | _, _ => none
def eraseAt : List MapEntry → Nat → List MapEntry
  | [], _ => []
  | _ :: es, 0 => es
  | e :: es, i + 1 => e :: eraseAt es i
def deleteA (E : Env) (t : TypeId) (x k : Value) (m : Mem) : Option Mem :=
  match mapType E t with
  | some (kt, tk, _) => match keyOK E tk.desc k with
    | false => none
    | true => match x with
      | .map none => some m
      | .map (some r) => match m.t.get r with
        | some (.map es clock) => match findA E kt tk.desc k es 0 with
          | some (some (i, _)) => some ⟨m.n, m.t.set r (.map (eraseAt es i) clock)⟩
          | some none => some m
          | none => none
        | _ => none
      | _ => none
  | none => none
def lenA (E : Env) (t : TypeId) (x : Value) (m : Mem) : Option Value :=
  match E.types.get t with
  | some ti => match ti.desc, x with
    | .string, .string s => some (.int .i64 s.data.toList.length)
    | .slice _, .slice _ n _ => some (.int .i64 n)
    | .slice _, .complex .f32 3 0 => some (topI .i64)
    | .slice _, .complex .f32 5 0 => some (.int .i64 0)
    | .string, .complex .f32 4 0 => some (topI .i64)
    | .array n _, _ => some (.int .i64 n)
    | .map _ _, .map none => some (.int .i64 0)
    | .map _ _, .map (some r) => match m.t.get r with
      | some (.map es _) => some (.int .i64 es.length)
      | _ => none
    | _, _ => none
  | none => none
def minmax (mx : Bool) (x y : Value) : Option Value :=
  match x, y with
  | .int k a, .int j b => match sameKind k j with
    | true => some (.int k (cond mx (if b > a then b else a) (if b < a then b else a)))
    | false => none
  | _, _ => none
def storeA (E : Env) (t : TypeId) (a x : Value) (m : Mem) : Option Mem :=
  match a, E.types.get t, isBad x with
  | .pointer (some a), some ti, false => match Nat.beq (cellsOf x).length ti.size with
    | true => storeL ⟨a.block, a.off, none⟩ (cellsOf x) m
    | false => none
  | _, _, _ => none
def isIface : TypeDesc → Bool
  | .interface _ => true
  | _ => false
def sliceA (E : Env) (t : TypeId) (x : Value) (lo hi mx : Option Value) (m : Mem) : List Out :=
  match E.types.get t, (hi.isNone && mx.isSome) with
  | some ti, false => match ti.desc with
    | .slice e => match E.types.get e with
      | some te => sliceS e te.size x lo hi mx m
      | none => []
    | .string => match x, mx with
      | .string s, none => match bound hi s.data.toList.length s.data.toList.length with
        | some h => match bound lo 0 h with
          | some l => [.val (.string ⟨((s.data.toList.drop l).take (h - l)).toArray⟩)]
          | none => []
        | none => []
      | _, _ => []
    | .array n e => match x, E.types.get e, Nat.ble n 1000000 with
      | .pointer (some a), some te, true => match bound mx n n with
        | some mm => match bound hi n mm with
          | some h => match bound lo 0 h with
            | some l => [.val (.slice (some (cond (Nat.beq mm l) a ⟨a.block, a.off + l * te.size, none⟩)) (h - l) (mm - l))]
            | none => []
          | none => []
        | none => []
      | _, _, _ => []
    | _ => []
  | _, _ => []
def isPtr : TypeDesc → Bool
  | .pointer _ => true
  | _ => false
/-- the method of a value's own type, taken as it is, or of a struct that lies in the struct that it points at -/
def methodA (E : Env) (t : TypeId) (name : String) (v : Value) : Option (FuncId × Value) :=
  match E.P.info? t, E.types.get t with
  | some i, some ti => match i.methods.toList.find? (fun m => m.name == name) with
    | some m => match m.path.toList, m.func with
      | [], some (f, ptr) => match ti.desc, ptr with
        | .pointer _, true => some (f, v)
        | .pointer _, false => none
        | _, false => some (f, v)
        | _, true => none
      | [st], some (f, true) => match st.deref, E.types.get st.struct, v with
        | true, some ts, .pointer (some a) => match ts.desc with
          | .struct fs => match fs[st.index]? with
            | some fd => match E.types.get fd.type with
              | some tf => match Nat.beq tf.size 0, isPtr tf.desc with
                | false, false => some (f, .pointer (some ⟨a.block, a.off + fd.offset, none⟩))
                | _, _ => none
              | none => none
            | none => none
          | _ => none
        | _, _, _ => none
      | _, _ => none
    | none => none
  | _, _ => none
/-- 'x.(T)' -/
def noT (ok : Bool) (z : Value) : Option Value := cond ok (some (.tuple #[z, .bool false])) none
def yesT (ok : Bool) (v : Value) : Option Value := some (cond ok (.tuple #[v, .bool true]) v)
def hasM (name : String) (sig : TypeId) : List Method → Bool
  | [] => false
  | m :: l => cond (m.name == name) (cond (Nat.beq m.sig sig) true (hasM name sig l)) (hasM name sig l)
/-- is a method wanted that is not there? -/
def missA (got : List Method) : List (String × TypeId) → Bool
  | [] => false
  | (n, s) :: l => cond (hasM n s got) (missA got l) true
def assertA (E : Env) (asserted : TypeId) (x : Value) (ok : Bool) : Option Value :=
  match E.types.get asserted with
  | none => none
  | some ta => match ta.desc, x with
    | .interface _, .nilIface => noT ok (zeroOf ta)
    | .interface want, .iface t v => match E.P.info? t with
      | none => none
      | some i => match missA i.methods.toList want.toList with
        | false => yesT ok (.iface t v)
        | true => noT ok (zeroOf ta)
    | _, .nilIface => noT ok (zeroOf ta)
    | _, .iface t v => match Nat.beq t asserted with
      | true => yesT ok v
      | false => noT ok (zeroOf ta)
    | _, _ => none
/-- 'range' over a string or a map -/
def rangeA (E : Env) (t : TypeId) (x : Value) (m : Mem) : Option Out :=
  match E.types.get t with
  | none => none
  | some ti => match ti.desc, x with
    | .string, .string s => some (.new (.sit s 0) .ptr)
    | .map _ _, .map none => some (.new (.mit none 0 [] 0) .ptr)
    | .map _ _, .map (some r) => match m.t.get r with
      | some (.map _ clock) => some (.new (.mit (some r) clock [] clock) .ptr)
      | _ => none
    | _, _ => none
def overV : Value := .tuple #[.bool false]
def allBorn (last : Nat) : List MapEntry → Bool
  | [] => true
  | e :: l => cond (Nat.ble last e.born) (allBorn last l) false
def isNil {α : Type} : List α → Bool
  | [] => true
  | _ :: _ => false
def memB (x : Nat) : List Nat → Bool
  | [] => false
  | y :: l => cond (Nat.beq x y) true (memB x l)
def nextEnts (m : Mem) (i r since : Nat) (seen : List Nat) (clock : Nat) : List MapEntry → List Out
  | [] => []
  | e :: l => .eff (.tuple #[.bool true, e.key, e.val]) ⟨m.n, m.t.set i (.mit (some r) since (seen ++ [e.born]) clock)⟩ :: nextEnts m i r since seen clock l
def leftOf (seen : List Nat) : List MapEntry → List MapEntry
  | [] => []
  | e :: l => cond (memB e.born seen) (leftOf seen l) (e :: leftOf seen l)
def oldOf (since : Nat) : List MapEntry → List MapEntry
  | [] => []
  | e :: l => cond (Nat.blt e.born since) (e :: oldOf since l) (oldOf since l)
def newOf (since : Nat) : List MapEntry → List MapEntry
  | [] => []
  | e :: l => cond (Nat.blt e.born since) (newOf since l) (e :: newOf since l)
/-- the next of a string or a map -/
def nextA (it : Value) (isString : Bool) (m : Mem) : List Out :=
  match it with
  | .pointer (some ⟨i, 0, none⟩) => match m.t.get i, isString with
    | some (.sit s p), true => match Nat.blt p s.size with
      | true => [.eff (.tuple #[.bool true, .int .i64 p, .int .i32 (Utf8.decode s p).1]) ⟨m.n, m.t.set i (.sit s (p + (Utf8.decode s p).2))⟩]
      | false => [.val overV]
    | some (.mit none _ _ _), false => [.val overV]
    | some (.mit (some r) since seen last), false => match m.t.get r with
      | some (.map es clock) => match isNil seen, isNil es, allBorn last es with
        | false, false, true => []
        | _, _, _ => cond (isNil (oldOf since (leftOf seen es))) [.eff overV m] [] ++ nextEnts m i r since seen clock (oldOf since (leftOf seen es) ++ newOf since (leftOf seen es))
      | _ => []
    | _, _ => []
  | _ => []
def lastN : List Nat → Option Nat
  | [] => none
  | [x] => some x
  | _ :: y :: l => lastN (y :: l)
def findBorn (b : Nat) : List MapEntry → Option MapEntry
  | [] => none
  | e :: l => cond (Nat.beq e.born b) (some e) (findBorn b l)
/-- the entry at which a walk through a map stands -/
def entryA (it : Value) (m : Mem) : Option Value :=
  match it with
  | .pointer (some ⟨i, 0, none⟩) => match m.t.get i with
    | some (.mit (some r) _ seen stepped) => match lastN seen, m.t.get r with
      | some stamp, some (.map es clock) => match Nat.beq clock stepped, findBorn stamp es with
        | true, some e => some (.tuple #[e.key, e.val])
        | _, _ => none
      | _, _ => none
    | _ => none
  | _ => none
def cellA (a : Addr) (m : Mem) : Option Value :=
  match m.t.get a.block with
  | some (.row cells n _) => match Nat.ble (a.off + 1) n with
    | true => cells.get a.off
    | false => none
  | _ => none
def extA (x : Xtn) (args : List Value) (m : Mem) : Option Out :=
  match x, args with
  | .load k, [.pointer (some a)] => match cellA a m with
    | some (.int j n) => match sameKind k j with
      | true => some (.val (.int j n))
      | false => none
    | _ => none
  | .store, [.pointer (some a), v] => match isBad v, storeL ⟨a.block, a.off, none⟩ [v] m with
    | false, some m' => some (.eff und m')
    | _, _ => none
  | .add k, [.pointer (some a), .int _ y] => match cellA a m with
    | some (.int j n) => match sameKind k j, storeL ⟨a.block, a.off, none⟩ [.int k (k.wrap (n + y))] m with
      | true, some m' => some (.eff (.int k (k.wrap (n + y))) m')
      | _, _ => none
    | _ => none
  | .cas k, [.pointer (some a), .int _ y, v] => match cellA a m, isBad v with
    | some (.int j n), false => match sameKind k j with
      | true => match n == y with
        | true => match storeL ⟨a.block, a.off, none⟩ [v] m with
          | some m' => some (.eff (.bool true) m')
          | none => none
        | false => some (.val (.bool false))
      | false => none
    | _, _ => none
  | .cmps, [.string a, .string b] => some (.val (.int .i64 (Lib.compareBytes a.data.toList b.data.toList)))
  | .nop _, _ => some (.val und)
  | .markd _, [.pointer (some _)] => some (.val und)
  | _, _ => none
def callA (E : Env) (ρ : Operand → Value) (c : Call) (m : Mem) : List Out :=
  match c.callee with
  | .builtin .len => match c.argTypes.toList, c.args.toList with
    | [t], [x] => valO (lenA E t (ρ x) m)
    | _, _ => []
  | .builtin .append => match c.argTypes.toList, c.args.toList with
    | [t, u], [s, x] => match Nat.beq t u with
      | true => ofO (appendB E t (ρ s) (ρ x) m)
      | false => []
    | _, _ => []
  | .builtin .copy => match c.argTypes.toList, c.args.toList with
    | [t, _], [s, x] => ofO (copyS E t (ρ s) (ρ x) m)
    | _, _ => []
  | .builtin .delete => match c.argTypes.toList, c.args.toList with
    | t :: _, [x, k] => match deleteA E t (ρ x) (ρ k) m with
      | some m' => [.eff und m']
      | none => []
    | _, _ => []
  | .builtin .min => match c.args.toList with
    | [x, y] => valO (minmax false (ρ x) (ρ y))
    | _ => []
  | .builtin .max => match c.args.toList with
    | [x, y] => valO (minmax true (ρ x) (ρ y))
    | _ => []
  | .value f => match ρ f with
    | .func (.func g) first cap => match E.funcs.get g with
      | some _ => [.enter (.fn g) (first.toList ++ c.args.toList.map ρ ++ cap.toList)]
      | none => match E.exts.get g with
        | some x => ofO (extA x (first.toList ++ c.args.toList.map ρ ++ cap.toList) m)
        | none => []
    | .func (.method name) first _ => match first.toList with
      | .iface t v :: r => match methodA E t name v with
        | some (g, u) => match E.funcs.get g with
          | some _ => [.enter (.fn g) (u :: (r ++ c.args.toList.map ρ))]
          | none => []
        | none => []
      | _ => []
    | .complex .f32 7 i => [.enter (.yld i) (c.args.toList.map ρ)]
    | _ => []
  | .invoke r name => match ρ r with
    | .iface t v => match methodA E t name v with
      | some (g, u) => match E.funcs.get g with
        | some _ => [.enter (.fn g) (u :: c.args.toList.map ρ)]
        | none => []
      | none => []
    | _ => []
  | _ => []
def evOp (E : Env) (ρ : Operand → Value) (o : Oper) (m : Mem) : List Out :=
  match o.op with
  | .move x | .assign x => [.val (ρ x)]
  | .pick c a b => match ρ c with
    | .bool t => [.val (cond t (ρ a) (ρ b))]
    | .complex .f32 1 0 => [.val (ρ a), .val (ρ b)]
    | _ => []
  | .alloc t => match E.types.get t with
    | some ti => [.new (newRow t ti.zero) .ptr]
    | none => []
  | .box t x => match E.types.get t, isBad (ρ x) with
    | some _, false => [.new (newRow t (cellsOf (ρ x))) .ptr]
    | _, _ => []
  | .build t parts => valO (buildA E t (parts.toList.map fun p => (p.1, ρ p.2)))
  | .buildSlice t len parts => ofO (buildSliceA E t len (parts.toList.map fun p => (p.1, ρ p.2)))
  | .load t a => match ρ a with
    | .pointer (some a) => valO (loadAt E t a m)
    | _ => []
  | .store t a x => match storeA E t (ρ a) (ρ x) m with
    | some m' => [.eff und m']
    | none => []
  | .nilCheck x => match ρ x with
    | .pointer (some a) => [.val (.pointer (some a))]
    | .func (.func g) a b => [.val (.func (.func g) a b)]
    | .func (.method name) a b => match a.toList with
      | .iface t v :: _ => match methodA E t name v with
        | some _ => [.val (.func (.method name) a b)]
        | none => []
      | _ => []
    | .iface t v => [.val (.iface t v)]
    | .complex .f32 7 i => [.val (yld i)]
    | _ => []
  | .binOp op t x y _ => valO (binopC E op t (isConst x || isConst y) (ρ x) (ρ y))
  | .unOp op _ x => match op, ρ x with
    | .not, .bool b => [.val (.bool !b)]
    | .not, .complex .f32 1 0 => [.val topB]
    | .neg, .int k n => [.val (.int k (k.wrap (0 - n)))]
    | .xor, .int k n => valO (intBin .xor k (if k.signed then -1 else k.max) n)
    | _, _ => []
  | .convert src dst x => ofO (convertA E src dst (ρ x) m)
  | .makeInterface t x => match E.types.get t with
    | some ti => match isIface ti.desc with
      | false => [.val (.iface t (ρ x))]
      | true => []
    | none => []
  | .makeFunc fn first captured => [.val (.func fn (first.map ρ) (captured.map ρ))]
  | .makeMap _ none => [.new (.map [] 0) .map]
  | .makeSlice t l c => ofO (makeSliceA E t (ρ l) (ρ c))
  | .slice t x lo hi mx => sliceA E t (ρ x) (lo.map ρ) (hi.map ρ) (mx.map ρ) m
  | .fieldAddr t x f => valO (fieldAddrA E t (ρ x) f)
  | .field t x f => valO (fieldA E t (ρ x) f)
  | .indexAddr t x i => valO (indexAddrA E t (ρ x) (ρ i))
  | .index t x i => valO (indexA E t (ρ x) (ρ i))
  | .lookup t x k ok => valO (lookupA E t (ρ x) (ρ k) ok m)
  | .mapUpdate t x k v | .insert t x k v => match mapUpdateA E t (ρ x) (ρ k) (ρ v) m with
    | some m' => [.eff und m']
    | none => []
  | .extract t i => match ρ t with
    | .tuple vs => match vs.toList[i]? with
      | some v => [.val v]
      | none => []
    | _ => []
  | .range t x => ofO (rangeA E t (ρ x) m)
  | .next it isString => nextA (ρ it) isString m
  | .entry it => valO (entryA (ρ it) m)
  | .typeAssert x _ asserted ok => valO (assertA E asserted (ρ x) ok)
  | .call c => callA E ρ c m
  | _ => []
/-! ### code -/
inductive Ex where | normal | exit (id : Nat) | ret
def cst : Value → Value
  | .bool b => .bool b
  | .int k n => .int k n
  | .string s => .string s
  | .pointer none => .pointer none
  | .slice none a b => .slice none a b
  | .map none => .map none
  | .nilFunc => .nilFunc
  | .nilIface => .nilIface
  | .tuple vs => match vs.toList with | [] => und | _ => bad
  | .agg vs => match allSimple vs.toList with | true => .agg vs | false => bad
  | _ => bad
def evalT (t : T Value) : Operand → Value
  | .tmp i => match t.get i with | some v => v | none => und
  | .const v => cst v
  | .global _ => bad
  | .func f => .func (.func f) #[] #[]
def put (N : Nat) (t : T Value) (d : Option Tmp) (v : Value) : T Value :=
  match d with
  | none => t
  | some i => match Nat.blt i N with
    | true => t.set i v
    | false => t
def wanted (ops : Array Oper) (o : Oper) (t : T Value) : Option Bool :=
  match o.guard with
  | none => some true
  | some (j, want) => match ops.toList[j]? with
    | some p => match p.dst with
      | some d => match t.get d with
        | some (.bool b) => some (b == want)
        | some (.tuple _) => some false
        | _ => none
      | none => none
    | none => none
def bindL {α β : Type} (l : List α) (f : α → List β) : List β :=
  match l with
  | [] => []
  | [x] => f x
  | x :: y :: l => match f x with
    | [] => []
    | a :: as => match bindL (y :: l) f with
      | [] => []
      | b :: bs => (a :: as) ++ (b :: bs)
abbrev CallF := Tgt → List Value → Mem → List (Value × Mem)
def evOps (E : Env) (call : CallF) (N : Nat) (ops : Array Oper) : List Oper → T Value → Mem → List (T Value × Mem)
  | [], t, m => [(t, m)]
  | o :: rest, t, m =>
    match wanted ops o t with
    | none => []
    | some false => evOps E call N ops rest (put N t o.dst und) m
    | some true => bindL (evOp E (evalT t) o m) fun
      | .val v => evOps E call N ops rest (put N t o.dst v) m
      | .new ob mk => evOps E call N ops rest (put N t o.dst (mk.val m.n)) ⟨m.n + 1, m.t.set m.n ob⟩
      | .eff v m => evOps E call N ops rest (put N t o.dst v) m
      | .enter f args => bindL (call f args m) fun r => evOps E call N ops rest (put N t o.dst r.1) r.2
/-! ### regions whose order is open -/
/-- operations that look at no memory and leave it -/
def memFree : Op → Bool
  | .move _ | .assign _ | .pick .. | .alloc _ | .box .. | .build .. | .buildSlice .. | .nilCheck _ | .binOp .. | .unOp .. | .makeInterface .. | .makeFunc .. | .makeMap .. | .makeSlice .. | .fieldAddr .. | .field .. | .indexAddr .. | .index .. | .extract .. | .typeAssert .. => true
  | .call c => match c.callee with
    | .builtin .min | .builtin .max => true
    | _ => false
  | _ => false
mutual
def veq : Nat → Value → Value → Bool
  | 0, _, _ => false
  | n + 1, a, b => match a, b with
    | .bool a, .bool b => a == b
    | .int j a, .int k b => sameKind j k && a == b
    | .string a, .string b => a.data.toList == b.data.toList
    | .pointer none, .pointer none => true
    | .pointer (some ⟨a, b, none⟩), .pointer (some ⟨c, d, none⟩) => Nat.beq a c && Nat.beq b d
    | .slice none a b, .slice none c d => Nat.beq a c && Nat.beq b d
    | .slice (some ⟨i, o, none⟩) a b, .slice (some ⟨j, p, none⟩) c d => Nat.beq i j && Nat.beq o p && Nat.beq a c && Nat.beq b d
    | .map none, .map none => true
    | .map (some a), .map (some b) => Nat.beq a b
    | .func (.func f) a b, .func (.func g) c d => Nat.beq f g && veqL n a.toList c.toList && veqL n b.toList d.toList
    | .nilFunc, .nilFunc => true
    | .nilIface, .nilIface => true
    | .iface t v, .iface u x => Nat.beq t u && veq n v x
    | .agg a, .agg b => veqL n a.toList b.toList
    | .tuple a, .tuple b => veqL n a.toList b.toList
    | .complex .f32 a b, .complex .f32 c d => Nat.beq a c && Nat.beq b d
    | _, _ => false
def veqL : Nat → List Value → List Value → Bool
  | 0, _, _ => false
  | n + 1, l, r => match l, r with
    | [], [] => true
    | a :: l, b :: r => veq n a b && veqL n l r
    | _, _ => false
end
def orEdges (acc : List Nat) : List Edge → Nat → Nat
  | [], s => s
  | e :: l, s => orEdges acc l (match Region.binds .any e with | true => s ||| 2 ^ e.on ||| acc.getD e.on 0 | false => s)
/-- of each operation which must come before it -/
def masks : List Oper → List Nat → List Nat
  | [], acc => acc
  | o :: l, acc => masks l (acc ++ [orEdges acc o.after.toList 0])
def looks (ops : Array Oper) (o : Oper) : List Tmp :=
  (o.op.operands.toList.filterMap fun | .tmp t => some t | _ => none) ++
  (match o.guard with
   | some (g, _) => match ops.toList[g]? with
     | some p => p.dst.toList
     | none => []
   | none => [])
def memN (x : Nat) : List Nat → Bool
  | [] => false
  | y :: l => cond (Nat.beq x y) true (memN x l)
/-- do two operations share a temporary that one of them writes? -/
def confl (ops : Array Oper) (x y : Oper) : Bool :=
  (match x.dst with
   | some d => memN d (looks ops y) || (match y.dst with | some e => Nat.beq d e | none => false)
   | none => false) ||
  (match y.dst with
   | some d => memN d (looks ops x)
   | none => false)
def conflOK (ops : Array Oper) (B : List Nat) (o : Oper) (b : Nat) : List Oper → Nat → Bool
  | [], _ => true
  | p :: l, i => match confl ops p o with
    | true => cond (Nat.testBit b i) (conflOK ops B o b l (i + 1)) false
    | false => conflOK ops B o b l (i + 1)
/-- each pair that shares a temporary is ordered -/
def tmpsOK (ops : Array Oper) (B : List Nat) : List Oper → Nat → Bool
  | [], _ => true
  | o :: l, j => cond (conflOK ops B o (B.getD j 0) (ops.toList.take j) 0) (tmpsOK ops B l (j + 1)) false
/-- every edge that binds leads back -/
def edgesOK : List Oper → Nat → Bool
  | [], _ => true
  | o :: l, j => cond (o.after.toList.all fun e => !Region.binds .any e || Nat.blt e.on j) (edgesOK l (j + 1)) false
inductive Cl where
  | skip
  | pure (v : Value)
  | read (v : Value)
  | alloc (o : AObj) (mk : Mk)
  | eff (v : Value) (m : Mem)
structure DS where
  t : T Value
  chain : Mem
  allocs : List (Nat × AObj)
  effs : List (Nat × Mem)
  reads : List (Nat × Oper × T Value × Value)
  mask : Nat
def addAllocs (N0 b : Nat) : List (Nat × AObj) → T AObj → T AObj
  | [], t => t
  | (j, ob) :: l, t => cond (Nat.testBit b j) ((addAllocs N0 b l t).set (N0 + j) ob) (addAllocs N0 b l t)
def addAll (N0 : Nat) : List (Nat × AObj) → T AObj → T AObj
  | [], t => t
  | (j, ob) :: l, t => (addAll N0 l t).set (N0 + j) ob
def dropAllocs (b : Nat) : List (Nat × AObj) → List (Nat × AObj)
  | [] => []
  | (j, ob) :: l => cond (Nat.testBit b j) (dropAllocs b l) ((j, ob) :: dropAllocs b l)
/-- does a read give this value, of this memory? -/
def readsAs (E : Env) (o : Oper) (t : T Value) (v : Value) (m : Mem) : Bool :=
  match evOp E (evalT t) o m with
  | [.val x] => veq 30 x v
  | _ => false
def checkBack (E : Env) (M0 : Mem) (o : Oper) (t : T Value) (v : Value) (b : Nat) : List (Nat × Mem) → Bool
  | [] => readsAs E o t v M0
  | (e, c) :: l => cond (readsAs E o t v c) (cond (Nat.testBit b e) true (checkBack E M0 o t v b l)) false
def checkReads (E : Env) (b : Nat) (m : Mem) : List (Nat × Oper × T Value × Value) → Bool
  | [] => true
  | (j, o, t, v) :: l => cond (cond (Nat.testBit b j) true (readsAs E o t v m)) (checkReads E b m l) false
def allBits (b : Nat) : List (Nat × Mem) → Bool
  | [] => true
  | (e, _) :: l => cond (Nat.testBit b e) (allBits b l) false
def notLive (t : T AObj) (i : Nat) : Bool :=
  match t.get i with
  | some .dead => true
  | none => true
  | _ => false
/-- reserved numbers whose operations have not been taken in: nothing is there -/
def freshIds (N0 mask : Nat) (t : T AObj) : Nat → Bool
  | 0 => true
  | n + 1 => cond (cond (Nat.testBit mask n) true (notLive t (N0 + n))) (freshIds N0 mask t n) false
def effOK (E : Env) (n N0 : Nat) (S : DS) (b : Nat) (m : Mem) : Bool :=
  cond (allBits b S.effs) (cond (freshIds N0 (S.mask ||| b) m.t n) (checkReads E b m S.reads) false) false
def clsD (E : Env) (call : CallF) (ops : Array Oper) (n N0 : Nat) (M0 : Mem) (S : DS) (o : Oper) (b : Nat) : Option Cl :=
  match wanted ops o S.t with
  | none => none
  | some false => some .skip
  | some true => match memFree o.op with
    | true => match evOp E (evalT S.t) o M0 with
      | [.val v] => some (.pure v)
      | [.new ob mk] => some (.alloc ob mk)
      | _ => none
    | false => match evOp E (evalT S.t) o ⟨S.chain.n, addAllocs N0 b S.allocs S.chain.t⟩ with
      | [.val v] => match checkBack E M0 o S.t v b S.effs with
        | true => some (.read v)
        | false => none
      | [.eff v m] => match effOK E n N0 S b m with
        | true => some (.eff v m)
        | false => none
      | [.enter f args] => match call f args ⟨S.chain.n, addAllocs N0 b S.allocs S.chain.t⟩ with
        | [(v, m)] => match effOK E n N0 S b m with
          | true => some (.eff v m)
          | false => none
        | _ => none
      | _ => none
def Cl.val (N0 i : Nat) : Cl → Value
  | .skip => und
  | .pure v => v
  | .read v => v
  | .alloc _ mk => mk.val (N0 + i)
  | .eff v _ => v
def applyD (N N0 : Nat) (S : DS) (i : Nat) (o : Oper) (b : Nat) (c : Cl) : DS :=
  match c with
  | .skip => { S with t := put N S.t o.dst und }
  | .pure v => { S with t := put N S.t o.dst v }
  | .read v => { S with t := put N S.t o.dst v, reads := (i, o, S.t, v) :: S.reads }
  | .alloc ob mk => { S with t := put N S.t o.dst (mk.val (N0 + i)), allocs := (i, ob) :: S.allocs }
  | .eff v m => { S with t := put N S.t o.dst v, chain := m, allocs := dropAllocs b S.allocs, effs := (i, m) :: S.effs, mask := S.mask ||| b }
def runD (E : Env) (call : CallF) (ops : Array Oper) (B : List Nat) (n N N0 : Nat) (M0 : Mem) : List Oper → Nat → DS → Option DS
  | [], _, S => some S
  | o :: l, i, S => match clsD E call ops n N0 M0 S o (B.getD i 0) with
    | none => none
    | some c => runD E call ops B n N N0 M0 l (i + 1) (applyD N N0 S i o (B.getD i 0) c)
def evDraw (E : Env) (call : CallF) (N : Nat) (ops : Array Oper) (t : T Value) (m : Mem) : List (T Value × Mem) :=
  match edgesOK ops.toList 0, tmpsOK ops (masks ops.toList []) ops.toList 0 with
  | true, true => match runD E call ops (masks ops.toList []) ops.toList.length N m.n ⟨m.n + ops.toList.length, m.t⟩ ops.toList 0 ⟨t, ⟨m.n + ops.toList.length, m.t⟩, [], [], [], 0⟩ with
    | some S => [(S.t, ⟨S.chain.n, addAll m.n S.allocs S.chain.t⟩)]
    | none => []
  | _, _ => []
def evLoop (round : T Value → Mem → List (Ex × T Value × Mem)) : Nat → T Value → Mem → List (Ex × T Value × Mem)
  | 0, _, _ => []
  | n + 1, t, m => bindL (round t m) fun
    | (.normal, t, m) => evLoop round n t m
    | r => [r]
def both {α : Type} (l r : List α) : List α :=
  match l, r with
  | x :: l, y :: r => (x :: l) ++ (y :: r)
  | _, _ => []
/-- what is called behind a value, with 'yield' handed to it -/
def seqCall (E : Env) (g : Value) (i : Nat) : Option (FuncId × List Value) :=
  match g with
  | .func (.func f) first cap => match E.funcs.get f with
    | some _ => some (f, first.toList ++ [yld i] ++ cap.toList)
    | none => none
  | _ => none
def endA (t : T Value) (i : Nat) (r : Value × Mem) : List (Ex × T Value × Mem) :=
  match r.2.t.get i with
  | some (.loop _ _ _ _ _) => [(.normal, t, ⟨r.2.n, r.2.t.set i .dead⟩)]
  | _ => []
/-- 'for .. := range g { .. }' whose rounds end where they end -/
def evRange (E : Env) (call : CallF) (N : Nat) (g : Operand) (ps : Array Tmp) (assign body : Code) (t : T Value) (m : Mem) : List (Ex × T Value × Mem) :=
  match seqCall E (evalT t g) m.n with
  | some (f, args) => bindL (call (.fn f) args ⟨m.n + 1, m.t.set m.n (.loop t N ps assign body)⟩) (endA t m.n)
  | none => []
def evCode (E : Env) (call : CallF) (rd : Bool) (N fuel : Nat) : Code → T Value → Mem → List (Ex × T Value × Mem)
  | .skip, t, m => [(.normal, t, m)]
  | .region _ ops d, t, m => bindL (cond d (evDraw E call N ops t m) (evOps E call N ops ops.toList t m)) fun r => [(.normal, r.1, r.2)]
  | .seq a b, t, m => bindL (evCode E call rd N fuel a t m) fun
    | (.normal, t, m) => evCode E call rd N fuel b t m
    | r => [r]
  | .cond c a b, t, m => match evalT t c with
    | .bool true => evCode E call rd N fuel a t m
    | .bool false => evCode E call rd N fuel b t m
    | .complex .f32 1 0 => both (evCode E call rd N fuel a t m) (evCode E call rd N fuel b t m)
    | _ => []
  | .block id b, t, m => bindL (evCode E call rd N fuel b t m) fun
    | (.exit id', t, m) => [(cond (Nat.beq id id') .normal (.exit id'), t, m)]
    | r => [r]
  | .loop b, t, m => evLoop (evCode E call rd N fuel b) fuel t m
  | .exit id, t, m => [(.exit id, t, m)]
  | .ret, t, m => [(.ret, t, m)]
  | .rangeFunc g ps assign body, t, m => match rd with
    | false => evRange E call N g ps assign body t m
    | true => []
  | _, _, _ => []
def resultsA (E : Env) (t : T Value) (m : Mem) : List ResultVar → Option (List Value)
  | [] => some []
  | .tmp i :: l => match t.get i, resultsA E t m l with
    | some v, some r => some (v :: r)
    | _, _ => none
  | .cell a ty :: l => match t.get a with
    | some (.pointer (some a)) => match loadAt E ty a m, resultsA E t m l with
      | some v, some r => some (v :: r)
      | _, _ => none
    | _ => none
def tupled : List Value → Value
  | [v] => v
  | l => .tuple l.toArray
/-- what is known of some functions: their answers -/
abbrev Sums := FuncId → List Value → Mem → Option (List (Value × Mem))
def setTs (N : Nat) (t : T Value) : List Tmp → List Value → T Value
  | p :: ps, v :: vs => setTs N (put N t (some p) v) ps vs
  | _, _ => t
def roundEnd (i : Nat) (o : AObj) (x : Ex × T Value × Mem) : List (Value × Mem) :=
  match x with
  | (.normal, _, m2) => [(.bool true, ⟨m2.n, m2.t.set i o⟩)]
  | _ => []
def roundMid (ev : T Value → Mem → List (Ex × T Value × Mem)) (i : Nat) (x : Ex × T Value × Mem) : List (Value × Mem) :=
  match x with
  | (.normal, t1, m1) => match m1.t.get i with
    | some (.loop t N ps as body) => bindL (ev t1 ⟨m1.n, m1.t.set i .dead⟩) (roundEnd i (.loop t N ps as body))
    | _ => []
  | _ => []
/-- a round of a loop -/
def evYield (E : Env) (call : CallF) (fuel i : Nat) (args : List Value) (m : Mem) : List (Value × Mem) :=
  match m.t.get i with
  | some (.loop t N ps assign body) => match Nat.beq args.length ps.size with
    | true => bindL (evCode E call true N fuel assign (setTs N t ps.toList args) m) (roundMid (evCode E call true N fuel body) i)
    | false => []
  | _ => []
def evFn (E : Env) (call : CallF) (fuel : Nat) (f : FuncId) (args : List Value) (m : Mem) : List (Value × Mem) :=
  match E.funcs.get f with
  | none => []
  | some fn => match fn.body with
    | none => []
    | some c => match Nat.ble args.length fn.ntmps with
      | false => []
      | true => bindL (evCode E call false fn.ntmps fuel c (T.ofList args) m) fun
        | (.exit _, _, _) => []
        | (_, t, m) => match resultsA E t m fn.results.toList with
          | some l => [(tupled l, m)]
          | none => []
def evCall (E : Env) (S : Sums) (fuel : Nat) : Nat → CallF
  | 0, _, _, _ => []
  | d + 1, .fn f, args, m => match S f args m with
    | some l => l
    | none => evFn E (evCall E S fuel d) fuel f args m
  | d + 1, .yld i, args, m => evYield E (evCall E S fuel d) fuel i args m
end
end Go.AE
