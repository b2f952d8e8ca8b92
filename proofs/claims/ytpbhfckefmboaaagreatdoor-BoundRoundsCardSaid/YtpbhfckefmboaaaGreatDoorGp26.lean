/- An evaluator of Go code over an abstract memory: definitions only. What it computes is later proved to hold of every world. -/
import Derived.Calls
import Derived.KernelRfl
set_option linter.unusedVariables false
set_option linter.unusedSimpArgs false
set_option linter.unusedSectionVars false
namespace Go.AE
noncomputable section
/-! ### places -/
inductive Pos where | e | z (p : Pos) | o (p : Pos)
def posF (f : Nat) : Nat → Pos :=
  @Nat.rec (fun _ => Nat → Pos) (fun _ => .e) (fun _ ih n => @Nat.rec (fun _ => Pos) .e (fun m _ => @Bool.rec (fun _ => Pos) (.o (ih (Nat.div m 2))) (.z (ih (Nat.div m 2))) (Nat.beq (Nat.mod m 2) 0)) n) f
def posOf (n : Nat) : Pos := posF n n
theorem posF_zero (f : Nat) : posF f 0 = .e := by cases f <;> rfl
theorem posF_succ (f m : Nat) : posF (f + 1) (m + 1) = cond (Nat.beq (Nat.mod m 2) 0) (.z (posF f (Nat.div m 2))) (.o (posF f (Nat.div m 2))) := by
  show @Bool.rec (fun _ => Pos) (.o (posF f (Nat.div m 2))) (.z (posF f (Nat.div m 2))) (Nat.beq (Nat.mod m 2) 0) = _
  cases Nat.beq (Nat.mod m 2) 0 <;> rfl
theorem posF_fuel : ∀ (f g n : Nat), n ≤ f → n ≤ g → posF f n = posF g n := by
  intro f
  induction f with
  | zero => intro g n h _; obtain rfl : n = 0 := by omega
            rw [posF_zero, posF_zero]
  | succ f ih =>
    intro g n h hg
    cases n with
    | zero => rw [posF_zero, posF_zero]
    | succ m =>
      obtain ⟨g, rfl⟩ : ∃ g', g = g' + 1 := ⟨g - 1, by omega⟩
      have hd : Nat.div m 2 = m / 2 := rfl
      rw [posF_succ, posF_succ, ih g (Nat.div m 2) (by omega) (by omega)]
/-! ### numbers, laid out before they are handed on -/
section
variable {β : Type}
def fz (f : Nat → β) : β := f 0
def fs (p : Nat) (_ : (Nat → β) → β) (f : Nat → β) : β := f (Nat.succ p)
def forceN (n : Nat) (f : Nat → β) : β := @Nat.rec (fun _ => (Nat → β) → β) fz fs n f
theorem forceN_eq (n : Nat) (f : Nat → β) : forceN n f = f n := by cases n <;> rfl
def fi (n : Nat) (f : Int → β) : β := forceN n fun n => f (.ofNat n)
def fj (n : Nat) (f : Int → β) : β := forceN n fun n => f (.negSucc n)
def forceI (i : Int) (f : Int → β) : β := @Int.rec (fun _ => (Int → β) → β) fi fj i f
theorem forceI_eq (i : Int) (f : Int → β) : forceI i f = f i := by cases i with | ofNat n => exact forceN_eq n fun n => f (.ofNat n) | negSucc n => exact forceN_eq n fun n => f (.negSucc n)
end
/-! ### a trie keyed by numbers -/
inductive T (α : Type) where
  | nil
  | node (v : Option α) (l r : T α)
namespace T
variable {α : Type}
def gE (v : Option α) (_ _ : Pos → Option α) : Option α := v
def gZ (q : Pos) (_ : Option α → (Pos → Option α) → (Pos → Option α) → Option α) (_ : Option α) (l _ : Pos → Option α) : Option α := l q
def gO (q : Pos) (_ : Option α → (Pos → Option α) → (Pos → Option α) → Option α) (_ : Option α) (_ r : Pos → Option α) : Option α := r q
def gN (v : Option α) (_ _ : T α) (ihl ihr : Pos → Option α) (p : Pos) : Option α := @Pos.rec (fun _ => Option α → (Pos → Option α) → (Pos → Option α) → Option α) gE gZ gO p v ihl ihr
def gX (_ : Pos) : Option α := none
def getP (t : T α) (p : Pos) : Option α := @T.rec α (fun _ => Pos → Option α) gX gN t p
def s1E (v : α) : T α := .node (some v) .nil .nil
def s1Z (_ : Pos) (ih : α → T α) (v : α) : T α := .node none (ih v) .nil
def s1O (_ : Pos) (ih : α → T α) (v : α) : T α := .node none .nil (ih v)
def singleP (v : α) (p : Pos) : T α := @Pos.rec (fun _ => α → T α) s1E s1Z s1O p v
abbrev SF (α : Type) := Option α → T α → T α → (Pos → α → T α) → (Pos → α → T α) → α → T α
def sE (_ : Option α) (l r : T α) (_ _ : Pos → α → T α) (v : α) : T α := .node (some v) l r
def sZ (q : Pos) (_ : SF α) (x : Option α) (_ r : T α) (ihl _ : Pos → α → T α) (v : α) : T α := .node x (ihl q v) r
def sO (q : Pos) (_ : SF α) (x : Option α) (l _ : T α) (_ ihr : Pos → α → T α) (v : α) : T α := .node x l (ihr q v)
def sN (x : Option α) (l r : T α) (ihl ihr : Pos → α → T α) (p : Pos) (v : α) : T α := @Pos.rec (fun _ => SF α) sE sZ sO p x l r ihl ihr v
def sX (p : Pos) (v : α) : T α := singleP v p
def setP (t : T α) (p : Pos) (v : α) : T α := @T.rec α (fun _ => Pos → α → T α) sX sN t p v
def get (t : T α) (n : Nat) : Option α := forceN n fun n => getP t (posOf n)
def single (v : α) (f n : Nat) : T α := singleP v (posF f n)
def set (t : T α) (n : Nat) (v : α) : T α := forceN n fun n => setP t (posOf n) v
theorem getP_of (t : T α) (n : Nat) : t.getP (posOf n) = t.get n := (forceN_eq n fun n => getP t (posOf n)).symm
theorem setP_of (t : T α) (n : Nat) (v : α) : t.setP (posOf n) v = t.set n v := (forceN_eq n fun n => setP t (posOf n) v).symm
theorem half_lt {m f : Nat} (h : m + 1 ≤ f + 1) : Nat.div m 2 ≤ f := by
  have : Nat.div m 2 = m / 2 := rfl
  omega
theorem get_nil (j : Nat) : (T.nil : T α).get j = none := by rw [← getP_of]; rfl
theorem get_zero (v : Option α) (l r : T α) : (T.node v l r).get 0 = v := rfl
theorem get_succ (v : Option α) (l r : T α) (m : Nat) : (T.node v l r).get (m + 1) = cond (Nat.beq (Nat.mod m 2) 0) (l.get (Nat.div m 2)) (r.get (Nat.div m 2)) := by
  rw [← getP_of, ← getP_of, ← getP_of, posOf, posF_succ, posF_fuel m (Nat.div m 2) (Nat.div m 2) (half_lt (Nat.le_refl _)) (Nat.le_refl _)]
  cases Nat.beq (Nat.mod m 2) 0 <;> rfl
theorem single_zero (v : α) (n : Nat) : single v 0 n = .node (some v) .nil .nil := rfl
theorem single_succ_zero (v : α) (f : Nat) : single v (f + 1) 0 = .node (some v) .nil .nil := rfl
theorem single_succ (v : α) (f m : Nat) : single v (f + 1) (m + 1) = cond (Nat.beq (Nat.mod m 2) 0) (.node none (single v f (Nat.div m 2)) .nil) (.node none .nil (single v f (Nat.div m 2))) := by
  unfold single
  rw [posF_succ]
  cases Nat.beq (Nat.mod m 2) 0 <;> rfl
theorem set_nil (n : Nat) (v : α) : (T.nil : T α).set n v = single v n n := by rw [← setP_of]; rfl
theorem set_zero (x : Option α) (l r : T α) (v : α) : (T.node x l r).set 0 v = .node (some v) l r := rfl
theorem set_succ (x : Option α) (l r : T α) (m : Nat) (v : α) : (T.node x l r).set (m + 1) v = cond (Nat.beq (Nat.mod m 2) 0) (.node x (l.set (Nat.div m 2) v) r) (.node x l (r.set (Nat.div m 2) v)) := by
  rw [← setP_of, ← setP_of, ← setP_of, posOf, posF_succ, posF_fuel m (Nat.div m 2) (Nat.div m 2) (half_lt (Nat.le_refl _)) (Nat.le_refl _)]
  cases Nat.beq (Nat.mod m 2) 0 <;> rfl
def setL : T α → Nat → List α → T α
  | t, _, [] => t
  | t, i, x :: l => setL (t.set i x) (i + 1) l
def ofList (l : List α) : T α := setL .nil 0 l
def getL (t : T α) : Nat → Nat → Option (List α)
  | 0, _ => some []
  | n + 1, i => match t.get i with
    | none => none
    | some x => match getL t n (i + 1) with
      | none => none
      | some l => some (x :: l)
end T
/-! ### values: Go's own, with blocks by abstract numbers; some values stand for many -/
/-- any value at all -/
def bad : Value := .chan (some 0)
def topB : Value := .complex .f32 1 0
def kcode : IntKind → Nat
  | .i8 => 0 | .i16 => 1 | .i32 => 2 | .i64 => 3 | .u8 => 4 | .u16 => 5 | .u32 => 6 | .u64 => 7
def kind? : Nat → IntKind
  | 0 => .i8 | 1 => .i16 | 2 => .i32 | 3 => .i64 | 4 => .u8 | 5 => .u16 | 6 => .u32 | _ => .u64
def topI (k : IntKind) : Value := .complex .f32 2 (kcode k)
def topS : Value := .complex .f32 3 0
def topStr : Value := .complex .f32 4 0
/-- a slice that holds nothing, wherever it lies -/
def topE : Value := .complex .f32 5 0
/-- the function that a range over a function hands to what it goes over: of the loop 'i' -/
def yld (i : Nat) : Value := .complex .f32 7 i
def und : Value := .tuple #[]
def OPEN : Nat := 18446744073709551616
/-- values without an address in them -/
def simple : Value → Bool
  | .bool _ | .int _ _ | .string _ | .pointer none | .slice none _ _ | .map none | .nilFunc | .nilIface => true
  | _ => false
/-- one cell, to be stored -/
def one : Value → Bool
  | .agg _ | .tuple _ | .chan _ => false
  | _ => true
def allOne : List Value → Bool
  | [] => true
  | v :: l => cond (one v) (allOne l) false
/-! ### memory -/
inductive AObj where
  | row (cells : T Value) (n : Nat) (elem : TypeId)
  | map (es : List MapEntry) (clock : Nat)
  /-- a string that is gone through -/
  | sit (s : ByteArray) (pos : Nat)
  /-- a map that is gone through -/
  | mit (r : Option Nat) (since : Nat) (seen : List Nat) (last : Nat)
  /-- a range over a function: the temporaries as it was entered -/
  | loop (t : T Value) (N : Nat) (ps : Array Tmp) (assign body : Code)
  | dead
def AObj.live : AObj → Bool
  | .dead => false
  | _ => true
structure Mem where
  n : Nat
  t : T AObj
structure TI where
  desc : TypeDesc
  size : Nat
  bytes : Nat
  zero : List Value
/-- functions without a body that are served -/
inductive Xtn where
  | load (k : IntKind)
  | store
  | add (k : IntKind)
  | cas (k : IntKind)
  /-- two strings are compared -/
  | cmps
  /-- a mark of the race detector's, and nothing else -/
  | nop (k : Mark)
  | markd (k : Addr → Mark)
structure Env where
  P : Program
  types : T TI
  funcs : T Func
  exts : T Xtn
inductive Mk where
  | ptr
  | slice (len cap : Nat)
  | map
def Mk.val (b : Nat) : Mk → Value
  | .ptr => .pointer (some ⟨b, 0, none⟩)
  | .slice n c => .slice (some ⟨b, 0, none⟩) n c
  | .map => .map (some b)
/-- what is called: a function, or the body of a loop -/
inductive Tgt where
  | fn (f : FuncId)
  | yld (i : Nat)
inductive Out where
  | val (v : Value)
  | new (o : AObj) (mk : Mk)
  | eff (v : Value) (m : Mem)
  | enter (f : Tgt) (args : List Value)
def agg? : TypeDesc → Bool
  | .struct _ | .array _ _ => true
  | _ => false
def cellsOf (v : Value) : List Value := v.cells.toList
def isBad : Value → Bool
  | .chan _ => true
  | _ => false
/-- a temporary -/
def tv (t : T Value) (i : Nat) : Value := match t.get i with | some v => v | none => und
/-! ### loads and stores -/
def loadAt (E : Env) (t : TypeId) (a : Addr) (m : Mem) : Option Value :=
  match E.types.get t, m.t.get a.block with
  | some ti, some (.row cells n _) =>
    match Nat.ble (a.off + ti.size) n with
    | true => match agg? ti.desc with
      | true => match cells.getL ti.size a.off with
        | some l => some (.agg l.toArray)
        | none => none
      | false => match ti.size with
        | 1 => cells.get a.off
        | _ => none
    | false => none
  | _, _ => none
def storeL (a : Addr) (l : List Value) (m : Mem) : Option Mem :=
  match m.t.get a.block with
  | some (.row cells n e) => match Nat.ble (a.off + l.length) n, allOne l with
    | true, true => some ⟨m.n, m.t.set a.block (.row (cells.setL a.off l) n e)⟩
    | _, _ => none
  | _ => none
def newRow (e : TypeId) (l : List Value) : AObj := .row (T.ofList l) l.length e
/-! ### operators -/
def intBin (op : BinOp) (k : IntKind) (a b : Int) : Option Value :=
  match op with
  | .add => some (.int k (k.wrap (a + b)))
  | .sub => some (.int k (k.wrap (a - b)))
  | .mul => some (.int k (k.wrap (a * b)))
  | .quo => if b = 0 then none else some (.int k (k.wrap (a.tdiv b)))
  | .rem => if b = 0 then none else some (.int k (a.tmod b))
  | .eql => some (.bool (a == b))
  | .neq => some (.bool (a != b))
  | .lss => some (.bool (a < b))
  | .leq => some (.bool (a ≤ b))
  | .gtr => some (.bool (a > b))
  | .geq => some (.bool (a ≥ b))
  | .and => some (.int k (k.wrap ((BitVec.ofInt k.bits a &&& BitVec.ofInt k.bits b).toNat)))
  | .or => some (.int k (k.wrap ((BitVec.ofInt k.bits a ||| BitVec.ofInt k.bits b).toNat)))
  | .xor => some (.int k (k.wrap ((BitVec.ofInt k.bits a ^^^ BitVec.ofInt k.bits b).toNat)))
  | .andNot => some (.int k (k.wrap ((BitVec.ofInt k.bits a &&& ~~~ BitVec.ofInt k.bits b).toNat)))
  | _ => none
def shift (op : BinOp) (k : IntKind) (a b : Int) : Option Value :=
  match op with
  | .shl => if b < 0 then none else some (.int k (k.wrap (a * 2 ^ (min b.toNat k.bits))))
  | .shr => if b < 0 then none else some (.int k (a.fdiv (2 ^ (min b.toNat k.bits))))
  | _ => none
def isShift : BinOp → Bool
  | .shl | .shr => true
  | _ => false
def sameKind (j k : IntKind) : Bool := Nat.beq (kcode j) (kcode k)
def cmp? : BinOp → Bool
  | .eql | .neq | .lss | .leq | .gtr | .geq => true
  | _ => false
def partA (E : Env) (t : TypeId) (cs : Array Value) (off : Nat) : Option Value :=
  match E.types.get t with
  | some ti => match agg? ti.desc with
    | true => some (.agg (cs.extract off (off + ti.size)))
    | false => cs[off]?
  | none => none
/-- '==' -/
def eqA (E : Env) : Nat → TypeId → Value → Value → Option Bool
  | 0, _, _, _ => none
  | d + 1, t, x, y =>
    match E.types.get t with
    | none => none
    | some ti => match ti.desc, x, y with
      | .bool, .bool a, .bool b => some (a == b)
      | .int _, .int j a, .int k b => match sameKind j k with | true => some (a == b) | false => none
      | .string, .string a, .string b => some (a.data.toList == b.data.toList)
      | .slice _, .slice none _ _, .slice b _ _ => some b.isNone
      | .slice _, .slice (some _) _ _, .slice none _ _ => some false
      | .map _ _, .map none, .map b => some b.isNone
      | .map _ _, .map (some _), .map none => some false
      | .func _ _ _, .nilFunc, .nilFunc => some true
      | .func _ _ _, .nilFunc, .func _ _ _ | .func _ _ _, .func _ _ _, .nilFunc => some false
      | .pointer _, .pointer none, .pointer b => some b.isNone
      | .pointer _, .pointer (some _), .pointer none => some false
      | .interface _, .nilIface, .iface _ _ | .interface _, .iface _ _, .nilIface => some false
      | .interface _, .nilIface, .nilIface => some true
      | .struct fs, .agg xs, .agg ys => match E.P.stoodInHeld t with
        | true => none
        | false => fs.toList.foldr (fun f r => match f.name == "_" with
          | true => r
          | false => match partA E f.type xs f.offset, partA E f.type ys f.offset with
            | some a, some b => match eqA E d f.type a b with
              | some true => r
              | some false => some false
              | none => none
            | _, _ => none) (some true)
      | _, _, _ => none
def strOp (op : BinOp) (a b : List UInt8) : Option Value :=
  match op with
  | .add => match Nat.ble (a.length + b.length) 1000000 with
    | true => some (.string ⟨(a ++ b).toArray⟩)
    | false => none
  | .eql => some (.bool (a == b))
  | .neq => some (.bool !(a == b))
  | .lss => some (.bool (Op.bytesLess a b))
  | .leq => some (.bool (Op.bytesLess a b || a == b))
  | .gtr => some (.bool !(Op.bytesLess a b || a == b))
  | .geq => some (.bool !Op.bytesLess a b)
  | _ => none
def isTop : Value → Bool
  | .complex _ _ _ | .chan _ => true
  | _ => false
def binop (E : Env) (op : BinOp) (t : TypeId) (x y : Value) : Option Value :=
  match x, y with
  | .int k a, .int j b => match isShift op with
    | true => shift op k a b
    | false => match sameKind k j with
      | true => intBin op k a b
      | false => none
  | .complex .f32 2 k, .int j _ => match sameKind (kind? k) j, cmp? op with
    | true, true => some topB
    | _, _ => none
  | .int j _, .complex .f32 2 k => match sameKind j (kind? k), cmp? op with
    | true, true => some topB
    | _, _ => none
  | .string a, .string b => strOp op a.data.toList b.data.toList
  | .agg xs, .agg ys => match E.P.eqGuardType E.P.depth t with
    | true => none
    | false => match op, eqA E 20 t (.agg xs) (.agg ys) with
      | .eql, some b => some (.bool b)
      | .neq, some b => some (.bool !b)
      | _, _ => none
  | .nilIface, .nilIface => none
  | x, y => match isTop x, isTop y with
    | false, false => match op, eqA E 20 t x y with
      | .eql, some b => some (.bool b)
      | .neq, some b => some (.bool !b)
      | _, _ => none
    | _, _ => none
def isConst : Operand → Bool
  | .const _ => true
  | _ => false
/-- two nil interface values may be compared where one of them is written out -/
def binopC (E : Env) (op : BinOp) (t : TypeId) (c : Bool) (x y : Value) : Option Value :=
  match c, x, y with
  | true, .nilIface, .nilIface => match op, eqA E 20 t .nilIface .nilIface with
    | .eql, some b => some (.bool b)
    | .neq, some b => some (.bool !b)
    | _, _ => none
  | _, x, y => binop E op t x y
def lenOf : Value → Option Nat
  | .slice _ n _ => some n
  | .string s => some s.size
  | _ => none
def elemSize (E : Env) (t : TypeId) : Option (TypeId × TI) :=
  match E.types.get t with
  | some ⟨.slice e, _, _, _⟩ => match E.types.get e with | some ti => some (e, ti) | none => none
  | _ => none
/-- the first 'n' elements of a slice or a string -/
def firstCells (size n : Nat) (v : Value) (m : Mem) : Option (List Value) :=
  match v with
  | .slice (some a) _ _ => match m.t.get a.block with
    | some (.row cells k _) => match Nat.ble (a.off + n * size) k with
      | true => cells.getL (n * size) a.off
      | false => none
    | _ => none
  | .slice none _ _ => some []
  | .string s => some ((s.data.toList.take n).map fun b => .int .u8 b.toNat)
  | _ => none
/-- 'append(s, x...)' -/
def append (E : Env) (st : TypeId) (s x : Value) (m : Mem) : Option Out :=
  match elemSize E st, s, lenOf x with
  | some (e, ti), .slice base len cap, some n =>
    match firstCells ti.size n x m, firstCells ti.size len s m, Nat.ble (len + n) 1000000, Nat.ble ti.bytes 100000 with
    | some new, some old, true, true =>
      match Nat.beq (old ++ new).length ((len + n) * ti.size), Nat.ble OPEN cap with
      | true, false => match Nat.ble (len + n) cap with
        | true => match base with
          | none => match len + n with
            | 0 => some (.val (.slice none 0 cap))
            | _ => none
          | some a => match storeL ⟨a.block, a.off + len * ti.size, none⟩ new m with
            | some m' => some (.eff (.slice base (len + n) cap) m')
            | none => none
        | false => match Nat.ble cap 1000000 with
          | true => some (.eff (.slice (some ⟨m.n, 0, none⟩) (len + n) OPEN) ⟨m.n + 1, m.t.set m.n (newRow e (old ++ new))⟩)
          | false => none
      | true, true => match base with
        | none => none
        | some a => match n, new with
          | 0, [] => some (.val s)
          | _, _ => match m.t.get a.block with
            | some (.row _ _ e') => match Nat.beq e e', allOne new with
              | true, true => some (.eff (.slice (some ⟨m.n, 0, none⟩) (len + n) OPEN) ⟨m.n + 1, (m.t.set a.block .dead).set m.n (newRow e (old ++ new))⟩)
              | _, _ => none
            | _ => none
      | _, _ => none
    | _, _, _, _ => none
  | _, _, _ => none
/-- 'append' to a row of which nothing is known but that it stands: the new one is as little known -/
def appendB (E : Env) (st : TypeId) (s x : Value) (m : Mem) : Option Out :=
  match s with
  | .slice (some a) (len + 1) cap => match m.t.get a.block with
    | some (.row _ 0 e') => match elemSize E st, lenOf x with
      | some (e, ti), some n => match firstCells ti.size n x m, Nat.ble (len + 1 + n) 1000000, Nat.ble ti.bytes 100000, Nat.ble OPEN cap, Nat.beq e e' with
        | some new, true, true, true, true => match n, Nat.beq new.length (n * ti.size), allOne new, Nat.ble 1 ti.size with
          | _ + 1, true, true, true => some (.eff (.slice (some ⟨m.n, 0, none⟩) (len + 1 + n) OPEN) ⟨m.n + 1, (m.t.set a.block .dead).set m.n (.row .nil 0 e)⟩)
          | _, _, _, _ => none
        | _, _, _, _, _ => none
      | _, _ => none
    | _ => append E st s x m
  | _ => append E st s x m
def copyS (E : Env) (t : TypeId) (d s : Value) (m : Mem) : Option Out :=
  match elemSize E t, lenOf s, d with
  | some (_, ti), some n, .slice base dl _ => match firstCells ti.size (min n dl) s m with
    | some l => match base with
      | some a => match storeL a l m with
        | some m' => some (.eff (.int .i64 ((min n dl : Nat) : Int)) m')
        | none => none
      | none => some (.val (.int .i64 ((min n dl : Nat) : Int)))
    | none => none
  | _, _, _ => none
def bound (v : Option Value) (dflt hi : Nat) : Option Nat :=
  match v with
  | none => some dflt
  | some (.int _ (.ofNat i)) => cond (Nat.ble i hi) (some i) none
  | _ => none
/-- 'x[lo:hi:max]' of a slice -/
def sliceS (e : TypeId) (size : Nat) (x : Value) (lo hi mx : Option Value) (m : Mem) : List Out :=
  match x with
  | .slice (some a) len cap =>
    match Nat.ble OPEN cap, mx with
    | true, some mv => match bound (some mv) 0 len, Nat.ble len 1000000000 with
      | some mm, true => match bound hi len mm with
        | some h => match bound lo 0 h with
          | some l => [.val (.slice (some (cond (Nat.beq mm l) a ⟨a.block, a.off + l * size, none⟩)) (h - l) (mm - l))]
          | none => []
        | none => []
      | _, _ => []
    | true, none => match m.t.get a.block with
      | some (.row _ _ e') => match Nat.beq e e', bound hi len len with
        | true, some h => match bound lo 0 h with
          | some l => match Nat.beq l len with
            | false => [.val (.slice (some ⟨a.block, a.off + l * size, none⟩) (h - l) OPEN)]
            | true => match l with
              | 0 => [.val x]
              | _ => [.val topE]
          | none => []
        | _, _ => []
      | _ => []
    | false, _ => match bound mx cap cap with
      | some mm => match bound hi len mm with
        | some h => match bound lo 0 h with
          | some l => [.val (.slice (some (cond (Nat.beq mm l) a ⟨a.block, a.off + l * size, none⟩)) (h - l) (mm - l))]
          | none => []
        | none => []
      | none => []
  | .slice none 0 0 => match bound mx 0 0 with
    | some _ => match bound hi 0 0 with
      | some _ => match bound lo 0 0 with
        | some _ => [.val (.slice none 0 0)]
        | none => []
      | none => []
    | none => []
  | _ => []
def ofO : Option Out → List Out
  | some o => [o]
  | none => []
def valO : Option Value → List Out
  | some v => [.val v]
  | none => []
end
end Go.AE
