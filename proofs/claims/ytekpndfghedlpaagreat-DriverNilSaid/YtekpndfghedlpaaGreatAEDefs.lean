/- An evaluator of Go code over an abstract memory: definitions only. What it computes is later proved to hold of every world. -/
import Derived.Calls
import Derived.KernelRfl
namespace Go.AE
noncomputable section
/-! ### a trie keyed by numbers -/
inductive T (α : Type) where
  | nil
  | node (v : Option α) (l r : T α)
namespace T
variable {α : Type}
def get (t : T α) : Nat → Option α :=
  T.rec (fun _ => none) (fun v _ _ ihl ihr n => Nat.rec v (fun m _ => Bool.rec (ihr (Nat.div m 2)) (ihl (Nat.div m 2)) (Nat.beq (Nat.mod m 2) 0)) n) t
def single (v : α) (f : Nat) : Nat → T α :=
  Nat.rec (fun _ => .node (some v) .nil .nil) (fun _ ih n => Nat.rec (.node (some v) .nil .nil) (fun m _ => Bool.rec (.node none .nil (ih (Nat.div m 2))) (.node none (ih (Nat.div m 2)) .nil) (Nat.beq (Nat.mod m 2) 0)) n) f
def set (t : T α) : Nat → α → T α :=
  T.rec (fun n v => single v n n) (fun x l r ihl ihr n v => Nat.rec (.node (some v) l r) (fun m _ => Bool.rec (.node x l (ihr (Nat.div m 2) v)) (.node x (ihl (Nat.div m 2) v) r) (Nat.beq (Nat.mod m 2) 0)) n) t
theorem get_nil (j : Nat) : (T.nil : T α).get j = none := rfl
theorem get_zero (v : Option α) (l r : T α) : (T.node v l r).get 0 = v := rfl
theorem get_succ (v : Option α) (l r : T α) (m : Nat) : (T.node v l r).get (m + 1) = cond (Nat.beq (Nat.mod m 2) 0) (l.get (Nat.div m 2)) (r.get (Nat.div m 2)) := by
  unfold get
  dsimp only
  cases Nat.beq (Nat.mod m 2) 0 <;> rfl
theorem single_zero (v : α) (n : Nat) : single v 0 n = .node (some v) .nil .nil := rfl
theorem single_succ_zero (v : α) (f : Nat) : single v (f + 1) 0 = .node (some v) .nil .nil := rfl
theorem single_succ (v : α) (f m : Nat) : single v (f + 1) (m + 1) = cond (Nat.beq (Nat.mod m 2) 0) (.node none (single v f (Nat.div m 2)) .nil) (.node none .nil (single v f (Nat.div m 2))) := by
  unfold single
  dsimp only
  cases Nat.beq (Nat.mod m 2) 0 <;> rfl
theorem set_nil (n : Nat) (v : α) : (T.nil : T α).set n v = single v n n := rfl
theorem set_zero (x : Option α) (l r : T α) (v : α) : (T.node x l r).set 0 v = .node (some v) l r := rfl
theorem set_succ (x : Option α) (l r : T α) (m : Nat) (v : α) : (T.node x l r).set (m + 1) v = cond (Nat.beq (Nat.mod m 2) 0) (.node x (l.set (Nat.div m 2) v) r) (.node x l (r.set (Nat.div m 2) v)) := by
  unfold set
  dsimp only
  cases Nat.beq (Nat.mod m 2) 0 <;> rfl
def setL : T α → Nat → List α → T α
  | t, _, [] => t
  | t, i, x :: l => setL (t.set i x) (i + 1) l
def ofList (l : List α) : T α := setL .nil 0 l
def getL (t : T α) : Nat → Nat → Option (List α)
  | 0, _ => some []
  | n + 1, i => match t.get i with
    | none => none
    | some x => match getL t n (i + 1) with
      | none => none
      | some l => some (x :: l)
end T
/-! ### values: Go's own, with blocks by abstract numbers; some values stand for many -/
/-- any value at all -/
def bad : Value := .chan (some 0)
def topB : Value := .complex .f32 1 0
def kcode : IntKind → Nat
  | .i8 => 0 | .i16 => 1 | .i32 => 2 | .i64 => 3 | .u8 => 4 | .u16 => 5 | .u32 => 6 | .u64 => 7
def kind? : Nat → IntKind
  | 0 => .i8 | 1 => .i16 | 2 => .i32 | 3 => .i64 | 4 => .u8 | 5 => .u16 | 6 => .u32 | _ => .u64
def topI (k : IntKind) : Value := .complex .f32 2 (kcode k)
def topS : Value := .complex .f32 3 0
def topStr : Value := .complex .f32 4 0
/-- a slice that holds nothing, wherever it lies -/
def topE : Value := .complex .f32 5 0
/-- the function that a range over a function hands to what it goes over: of the loop 'i' -/
def yld (i : Nat) : Value := .complex .f32 7 i
def und : Value := .tuple #[]
def OPEN : Nat := 18446744073709551616
/-- values without an address in them -/
def simple : Value → Bool
  | .bool _ | .int _ _ | .string _ | .pointer none | .slice none _ _ | .map none | .nilFunc | .nilIface => true
  | _ => false
/-- one cell, to be stored -/
def one : Value → Bool
  | .agg _ | .tuple _ | .chan _ => false
  | _ => true
def allOne : List Value → Bool
  | [] => true
  | v :: l => cond (one v) (allOne l) false
/-! ### memory -/
inductive AObj where
  | row (cells : T Value) (n : Nat) (elem : TypeId)
  | map (es : List MapEntry) (clock : Nat)
  /-- a string that is gone through -/
  | sit (s : ByteArray) (pos : Nat)
  /-- a map that is gone through -/
  | mit (r : Option Nat) (since : Nat) (seen : List Nat) (last : Nat)
  /-- a range over a function: the temporaries as it was entered -/
  | loop (t : T Value) (N : Nat) (ps : Array Tmp) (assign body : Code)
  | dead
def AObj.live : AObj → Bool
  | .dead => false
  | _ => true
structure Mem where
  n : Nat
  t : T AObj
structure TI where
  desc : TypeDesc
  size : Nat
  bytes : Nat
  zero : List Value
/-- functions without a body that are served -/
inductive Xtn where
  | load (k : IntKind)
  | store
  | add (k : IntKind)
  | cas (k : IntKind)
structure Env where
  P : Program
  types : T TI
  funcs : T Func
  exts : T Xtn
inductive Mk where
  | ptr
  | slice (len cap : Nat)
  | map
def Mk.val (b : Nat) : Mk → Value
  | .ptr => .pointer (some ⟨b, 0, none⟩)
  | .slice n c => .slice (some ⟨b, 0, none⟩) n c
  | .map => .map (some b)
/-- what is called: a function, or the body of a loop -/
inductive Tgt where
  | fn (f : FuncId)
  | yld (i : Nat)
inductive Out where
  | val (v : Value)
  | new (o : AObj) (mk : Mk)
  | eff (v : Value) (m : Mem)
  | enter (f : Tgt) (args : List Value)
def agg? : TypeDesc → Bool
  | .struct _ | .array _ _ => true
  | _ => false
def cellsOf (v : Value) : List Value := v.cells.toList
def isBad : Value → Bool
  | .chan _ => true
  | _ => false
/-- a temporary -/
def tv (t : T Value) (i : Nat) : Value := match t.get i with | some v => v | none => und
/-! ### loads and stores -/
def loadAt (E : Env) (t : TypeId) (a : Addr) (m : Mem) : Option Value :=
  match E.types.get t, m.t.get a.block with
  | some ti, some (.row cells n _) =>
    match Nat.ble (a.off + ti.size) n with
    | true => match agg? ti.desc with
      | true => match cells.getL ti.size a.off with
        | some l => some (.agg l.toArray)
        | none => none
      | false => match ti.size with
        | 1 => cells.get a.off
        | _ => none
    | false => none
  | _, _ => none
def storeL (a : Addr) (l : List Value) (m : Mem) : Option Mem :=
  match m.t.get a.block with
  | some (.row cells n e) => match Nat.ble (a.off + l.length) n, allOne l with
    | true, true => some ⟨m.n, m.t.set a.block (.row (cells.setL a.off l) n e)⟩
    | _, _ => none
  | _ => none
def newRow (e : TypeId) (l : List Value) : AObj := .row (T.ofList l) l.length e
/-! ### operators -/
def intBin (op : BinOp) (k : IntKind) (a b : Int) : Option Value :=
  match op with
  | .add => some (.int k (k.wrap (a + b)))
  | .sub => some (.int k (k.wrap (a - b)))
  | .mul => some (.int k (k.wrap (a * b)))
  | .quo => if b = 0 then none else some (.int k (k.wrap (a.tdiv b)))
  | .rem => if b = 0 then none else some (.int k (a.tmod b))
  | .eql => some (.bool (a == b))
  | .neq => some (.bool (a != b))
  | .lss => some (.bool (a < b))
  | .leq => some (.bool (a ≤ b))
  | .gtr => some (.bool (a > b))
  | .geq => some (.bool (a ≥ b))
  | .and => some (.int k (k.wrap ((BitVec.ofInt k.bits a &&& BitVec.ofInt k.bits b).toNat)))
  | .or => some (.int k (k.wrap ((BitVec.ofInt k.bits a ||| BitVec.ofInt k.bits b).toNat)))
  | .xor => some (.int k (k.wrap ((BitVec.ofInt k.bits a ^^^ BitVec.ofInt k.bits b).toNat)))
  | .andNot => some (.int k (k.wrap ((BitVec.ofInt k.bits a &&& ~~~ BitVec.ofInt k.bits b).toNat)))
  | _ => none
def shift (op : BinOp) (k : IntKind) (a b : Int) : Option Value :=
  match op with
  | .shl => if b < 0 then none else some (.int k (k.wrap (a * 2 ^ (min b.toNat k.bits))))
  | .shr => if b < 0 then none else some (.int k (a.fdiv (2 ^ (min b.toNat k.bits))))
  | _ => none
def isShift : BinOp → Bool
  | .shl | .shr => true
  | _ => false
def sameKind (j k : IntKind) : Bool := Nat.beq (kcode j) (kcode k)
def cmp? : BinOp → Bool
  | .eql | .neq | .lss | .leq | .gtr | .geq => true
  | _ => false
def partA (E : Env) (t : TypeId) (cs : Array Value) (off : Nat) : Option Value :=
  match E.types.get t with
  | some ti => match agg? ti.desc with
    | true => some (.agg (cs.extract off (off + ti.size)))
    | false => cs[off]?
  | none => none
/-- '==' -/
def eqA (E : Env) : Nat → TypeId → Value → Value → Option Bool
  | 0, _, _, _ => none
  | d + 1, t, x, y =>
    match E.types.get t with
    | none => none
    | some ti => match ti.desc, x, y with
      | .bool, .bool a, .bool b => some (a == b)
      | .int _, .int j a, .int k b => match sameKind j k with | true => some (a == b) | false => none
      | .string, .string a, .string b => some (a.data.toList == b.data.toList)
      | .slice _, .slice none _ _, .slice b _ _ => some b.isNone
      | .slice _, .slice (some _) _ _, .slice none _ _ => some false
      | .map _ _, .map none, .map b => some b.isNone
      | .map _ _, .map (some _), .map none => some false
      | .func _ _ _, .nilFunc, .nilFunc => some true
      | .func _ _ _, .nilFunc, .func _ _ _ | .func _ _ _, .func _ _ _, .nilFunc => some false
      | .pointer _, .pointer none, .pointer b => some b.isNone
      | .pointer _, .pointer (some _), .pointer none => some false
      | .interface _, .nilIface, .iface _ _ | .interface _, .iface _ _, .nilIface => some false
      | .interface _, .nilIface, .nilIface => some true
      | .struct fs, .agg xs, .agg ys => match E.P.stoodInHeld t with
        | true => none
        | false => fs.toList.foldr (fun f r => match f.name == "_" with
          | true => r
          | false => match partA E f.type xs f.offset, partA E f.type ys f.offset with
            | some a, some b => match eqA E d f.type a b with
              | some true => r
              | some false => some false
              | none => none
            | _, _ => none) (some true)
      | _, _, _ => none
def strOp (op : BinOp) (a b : List UInt8) : Option Value :=
  match op with
  | .add => match Nat.ble (a.length + b.length) 1000000 with
    | true => some (.string ⟨(a ++ b).toArray⟩)
    | false => none
  | .eql => some (.bool (a == b))
  | .neq => some (.bool !(a == b))
  | .lss => some (.bool (Op.bytesLess a b))
  | .leq => some (.bool (Op.bytesLess a b || a == b))
  | .gtr => some (.bool !(Op.bytesLess a b || a == b))
  | .geq => some (.bool !Op.bytesLess a b)
  | _ => none
def isTop : Value → Bool
  | .complex _ _ _ | .chan _ => true
  | _ => false
def binop (E : Env) (op : BinOp) (t : TypeId) (x y : Value) : Option Value :=
  match x, y with
  | .int k a, .int j b => match isShift op with
    | true => shift op k a b
    | false => match sameKind k j with
      | true => intBin op k a b
      | false => none
  | .complex .f32 2 k, .int j _ => match sameKind (kind? k) j, cmp? op with
    | true, true => some topB
    | _, _ => none
  | .int j _, .complex .f32 2 k => match sameKind j (kind? k), cmp? op with
    | true, true => some topB
    | _, _ => none
  | .string a, .string b => strOp op a.data.toList b.data.toList
  | .agg xs, .agg ys => match E.P.eqGuardType E.P.depth t with
    | true => none
    | false => match op, eqA E 20 t (.agg xs) (.agg ys) with
      | .eql, some b => some (.bool b)
      | .neq, some b => some (.bool !b)
      | _, _ => none
  | .nilIface, .nilIface => none
  | x, y => match isTop x, isTop y with
    | false, false => match op, eqA E 20 t x y with
      | .eql, some b => some (.bool b)
      | .neq, some b => some (.bool !b)
      | _, _ => none
    | _, _ => none
def isConst : Operand → Bool
  | .const _ => true
  | _ => false
/-- two nil interface values may be compared where one of them is written out -/
def binopC (E : Env) (op : BinOp) (t : TypeId) (c : Bool) (x y : Value) : Option Value :=
  match c, x, y with
  | true, .nilIface, .nilIface => match op, eqA E 20 t .nilIface .nilIface with
    | .eql, some b => some (.bool b)
    | .neq, some b => some (.bool !b)
    | _, _ => none
  | _, x, y => binop E op t x y
def lenOf : Value → Option Nat
  | .slice _ n _ => some n
  | .string s => some s.size
  | _ => none
def elemSize (E : Env) (t : TypeId) : Option (TypeId × TI) :=
  match E.types.get t with
  | some ⟨.slice e, _, _, _⟩ => match E.types.get e with | some ti => some (e, ti) | none => none
  | _ => none
/-- the first 'n' elements of a slice or a string -/
def firstCells (size n : Nat) (v : Value) (m : Mem) : Option (List Value) :=
  match v with
  | .slice (some a) _ _ => match m.t.get a.block with
    | some (.row cells k _) => match Nat.ble (a.off + n * size) k with
      | true => cells.getL (n * size) a.off
      | false => none
    | _ => none
  | .slice none _ _ => some []
  | .string s => some ((s.data.toList.take n).map fun b => .int .u8 b.toNat)
  | _ => none
/-- 'append(s, x...)' -/
def append (E : Env) (st : TypeId) (s x : Value) (m : Mem) : Option Out :=
  match elemSize E st, s, lenOf x with
  | some (e, ti), .slice base len cap, some n =>
    match firstCells ti.size n x m, firstCells ti.size len s m, Nat.ble (len + n) 1000000, Nat.ble ti.bytes 100000 with
    | some new, some old, true, true =>
      match Nat.beq (old ++ new).length ((len + n) * ti.size), Nat.ble OPEN cap with
      | true, false => match Nat.ble (len + n) cap with
        | true => match base with
          | none => match len + n with
            | 0 => some (.val (.slice none 0 cap))
            | _ => none
          | some a => match storeL ⟨a.block, a.off + len * ti.size, none⟩ new m with
            | some m' => some (.eff (.slice base (len + n) cap) m')
            | none => none
        | false => match Nat.ble cap 1000000 with
          | true => some (.eff (.slice (some ⟨m.n, 0, none⟩) (len + n) OPEN) ⟨m.n + 1, m.t.set m.n (newRow e (old ++ new))⟩)
          | false => none
      | true, true => match base with
        | none => none
        | some a => match n, new with
          | 0, [] => some (.val s)
          | _, _ => match m.t.get a.block with
            | some (.row _ _ e') => match Nat.beq e e', allOne new with
              | true, true => some (.eff (.slice (some ⟨m.n, 0, none⟩) (len + n) OPEN) ⟨m.n + 1, (m.t.set a.block .dead).set m.n (newRow e (old ++ new))⟩)
              | _, _ => none
            | _ => none
      | _, _ => none
    | _, _, _, _ => none
  | _, _, _ => none
def copyS (E : Env) (t : TypeId) (d s : Value) (m : Mem) : Option Out :=
  match elemSize E t, lenOf s, d with
  | some (_, ti), some n, .slice base dl _ => match firstCells ti.size (min n dl) s m with
    | some l => match base with
      | some a => match storeL a l m with
        | some m' => some (.eff (.int .i64 ((min n dl : Nat) : Int)) m')
        | none => none
      | none => some (.val (.int .i64 ((min n dl : Nat) : Int)))
    | none => none
  | _, _, _ => none
def bound (v : Option Value) (dflt hi : Nat) : Option Nat :=
  match v with
  | none => some dflt
  | some (.int _ (.ofNat i)) => cond (Nat.ble i hi) (some i) none
  | _ => none
/-- 'x[lo:hi:max]' of a slice -/
def sliceS (e : TypeId) (size : Nat) (x : Value) (lo hi mx : Option Value) (m : Mem) : List Out :=
  match x with
  | .slice (some a) len cap =>
    match Nat.ble OPEN cap, mx with
    | true, some mv => match bound (some mv) 0 len, Nat.ble len 1000000000 with
      | some mm, true => match bound hi len mm with
        | some h => match bound lo 0 h with
          | some l => [.val (.slice (some (cond (Nat.beq mm l) a ⟨a.block, a.off + l * size, none⟩)) (h - l) (mm - l))]
          | none => []
        | none => []
      | _, _ => []
    | true, none => match m.t.get a.block with
      | some (.row _ _ e') => match Nat.beq e e', bound hi len len with
        | true, some h => match bound lo 0 h with
          | some l => match Nat.beq l len with
            | false => [.val (.slice (some ⟨a.block, a.off + l * size, none⟩) (h - l) OPEN)]
            | true => match l with
              | 0 => [.val x]
              | _ => [.val topE]
          | none => []
        | _, _ => []
      | _ => []
    | false, _ => match bound mx cap cap with
      | some mm => match bound hi len mm with
        | some h => match bound lo 0 h with
          | some l => [.val (.slice (some (cond (Nat.beq mm l) a ⟨a.block, a.off + l * size, none⟩)) (h - l) (mm - l))]
          | none => []
        | none => []
      | none => []
  | .slice none 0 0 => match bound mx 0 0 with
    | some _ => match bound hi 0 0 with
      | some _ => match bound lo 0 0 with
        | some _ => [.val (.slice none 0 0)]
        | none => []
      | none => []
    | none => []
  | _ => []
def ofO : Option Out → List Out
  | some o => [o]
  | none => []
def valO : Option Value → List Out
  | some v => [.val v]
  | none => []
end
end Go.AE
