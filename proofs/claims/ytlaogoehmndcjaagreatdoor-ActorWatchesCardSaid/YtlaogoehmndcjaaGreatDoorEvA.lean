/- YtlaogoehmndcjaaGreatDoorASDefs; YtlaogoehmndcjaaGreatDoorASRel; YtlaogoehmndcjaaGreatDoorASEv; YtlaogoehmndcjaaGreatDoorASMem; YtlaogoehmndcjaaGreatDoorASOps; YtlaogoehmndcjaaGreatDoorASOps2; YtlaogoehmndcjaaGreatDoorASOps3; YtlaogoehmndcjaaGreatDoorASBlind; YtlaogoehmndcjaaGreatDoorASOps4; YtlaogoehmndcjaaGreatDoorASOps5; YtlaogoehmndcjaaGreatDoorASOps6; YtlaogoehmndcjaaGreatDoorASOps7; YtlaogoehmndcjaaGreatDoorASOps8; YtlaogoehmndcjaaGreatDoorASExt: in one text. -/
import Derived.Calls
import Derived.KernelRfl
import Derived.Below
import Derived.Laws.Cells
import Derived.Lib.Bytealg
import Derived.Laws.World
import Derived.Laws.Entries
import Derived.Laws.Tables
import Derived.Laws.Build
import Derived.Laws.StructEq
import Derived.Laws.Strings
import Derived.Laws.Small
import Derived.Laws.Slices
import Derived.Laws.Pointers
import Derived.LaidEql
import Derived.Laws.AppendOwn
import Derived.Laws.MakeOwn
import Derived.Great.BuildSlice
import Derived.Laws.LoneSync
import Derived.Laws.BytesArg
set_option linter.unusedVariables false
set_option linter.unusedSectionVars false
set_option linter.unusedSectionVars false
namespace Go.AS
noncomputable section
inductive Pos where | e | z (p : Pos) | o (p : Pos)
def posF (f : Nat) : Nat → Pos :=
  @Nat.rec (fun _ => Nat → Pos) (fun _ => .e) (fun _ ih n => @Nat.rec (fun _ => Pos) .e (fun m _ => @Bool.rec (fun _ => Pos) (.o (ih (Nat.div m 2))) (.z (ih (Nat.div m 2))) (Nat.beq (Nat.mod m 2) 0)) n) f
def posOf (n : Nat) : Pos := posF n n
theorem posF_zero (f : Nat) : posF f 0 = .e := by cases f <;> rfl
theorem posF_succ (f m : Nat) : posF (f + 1) (m + 1) = cond (Nat.beq (Nat.mod m 2) 0) (.z (posF f (Nat.div m 2))) (.o (posF f (Nat.div m 2))) := by
  show @Bool.rec (fun _ => Pos) (.o (posF f (Nat.div m 2))) (.z (posF f (Nat.div m 2))) (Nat.beq (Nat.mod m 2) 0) = _
  cases Nat.beq (Nat.mod m 2) 0 <;> rfl
theorem posF_fuel : ∀ (f g n : Nat), n ≤ f → n ≤ g → posF f n = posF g n := by
  intro f
  induction f with
  | zero => intro g n h _; obtain rfl : n = 0 := by omega
            rw [posF_zero, posF_zero]
  | succ f ih =>
    intro g n h hg
    cases n with
    | zero => rw [posF_zero, posF_zero]
    | succ m =>
      obtain ⟨g, rfl⟩ : ∃ g', g = g' + 1 := ⟨g - 1, by omega⟩
      have hd : Nat.div m 2 = m / 2 := rfl
      rw [posF_succ, posF_succ, ih g (Nat.div m 2) (by omega) (by omega)]
section
variable {β : Type}
def fz (f : Nat → β) : β := f 0
def fs (p : Nat) (_ : (Nat → β) → β) (f : Nat → β) : β := f (Nat.succ p)
def forceN (n : Nat) (f : Nat → β) : β := @Nat.rec (fun _ => (Nat → β) → β) fz fs n f
theorem forceN_eq (n : Nat) (f : Nat → β) : forceN n f = f n := by cases n <;> rfl
def fi (n : Nat) (f : Int → β) : β := forceN n fun n => f (.ofNat n)
def fj (n : Nat) (f : Int → β) : β := forceN n fun n => f (.negSucc n)
def forceI (i : Int) (f : Int → β) : β := @Int.rec (fun _ => (Int → β) → β) fi fj i f
theorem forceI_eq (i : Int) (f : Int → β) : forceI i f = f i := by cases i with | ofNat n => exact forceN_eq n fun n => f (.ofNat n) | negSucc n => exact forceN_eq n fun n => f (.negSucc n)
end
inductive T (α : Type) where
  | nil
  | node (v : Option α) (l r : T α)
namespace T
variable {α : Type}
def gE (v : Option α) (_ _ : Pos → Option α) : Option α := v
def gZ (q : Pos) (_ : Option α → (Pos → Option α) → (Pos → Option α) → Option α) (_ : Option α) (l _ : Pos → Option α) : Option α := l q
def gO (q : Pos) (_ : Option α → (Pos → Option α) → (Pos → Option α) → Option α) (_ : Option α) (_ r : Pos → Option α) : Option α := r q
def gN (v : Option α) (_ _ : T α) (ihl ihr : Pos → Option α) (p : Pos) : Option α := @Pos.rec (fun _ => Option α → (Pos → Option α) → (Pos → Option α) → Option α) gE gZ gO p v ihl ihr
def gX (_ : Pos) : Option α := none
def getP (t : T α) (p : Pos) : Option α := @T.rec α (fun _ => Pos → Option α) gX gN t p
def s1E (v : α) : T α := .node (some v) .nil .nil
def s1Z (_ : Pos) (ih : α → T α) (v : α) : T α := .node none (ih v) .nil
def s1O (_ : Pos) (ih : α → T α) (v : α) : T α := .node none .nil (ih v)
def singleP (v : α) (p : Pos) : T α := @Pos.rec (fun _ => α → T α) s1E s1Z s1O p v
abbrev SF (α : Type) := Option α → T α → T α → (Pos → α → T α) → (Pos → α → T α) → α → T α
def sE (_ : Option α) (l r : T α) (_ _ : Pos → α → T α) (v : α) : T α := .node (some v) l r
def sZ (q : Pos) (_ : SF α) (x : Option α) (_ r : T α) (ihl _ : Pos → α → T α) (v : α) : T α := .node x (ihl q v) r
def sO (q : Pos) (_ : SF α) (x : Option α) (l _ : T α) (_ ihr : Pos → α → T α) (v : α) : T α := .node x l (ihr q v)
def sN (x : Option α) (l r : T α) (ihl ihr : Pos → α → T α) (p : Pos) (v : α) : T α := @Pos.rec (fun _ => SF α) sE sZ sO p x l r ihl ihr v
def sX (p : Pos) (v : α) : T α := singleP v p
def setP (t : T α) (p : Pos) (v : α) : T α := @T.rec α (fun _ => Pos → α → T α) sX sN t p v
def get (t : T α) (n : Nat) : Option α := forceN n fun n => getP t (posOf n)
def single (v : α) (f n : Nat) : T α := singleP v (posF f n)
def set (t : T α) (n : Nat) (v : α) : T α := forceN n fun n => setP t (posOf n) v
theorem getP_of (t : T α) (n : Nat) : t.getP (posOf n) = t.get n := (forceN_eq n fun n => getP t (posOf n)).symm
theorem setP_of (t : T α) (n : Nat) (v : α) : t.setP (posOf n) v = t.set n v := (forceN_eq n fun n => setP t (posOf n) v).symm
theorem half_lt {m f : Nat} (h : m + 1 ≤ f + 1) : Nat.div m 2 ≤ f := by
  have : Nat.div m 2 = m / 2 := rfl
  omega
theorem get_nil (j : Nat) : (T.nil : T α).get j = none := by rw [← getP_of]; rfl
theorem get_zero (v : Option α) (l r : T α) : (T.node v l r).get 0 = v := rfl
theorem get_succ (v : Option α) (l r : T α) (m : Nat) : (T.node v l r).get (m + 1) = cond (Nat.beq (Nat.mod m 2) 0) (l.get (Nat.div m 2)) (r.get (Nat.div m 2)) := by
  rw [← getP_of, ← getP_of, ← getP_of, posOf, posF_succ, posF_fuel m (Nat.div m 2) (Nat.div m 2) (half_lt (Nat.le_refl _)) (Nat.le_refl _)]
  cases Nat.beq (Nat.mod m 2) 0 <;> rfl
theorem single_zero (v : α) (n : Nat) : single v 0 n = .node (some v) .nil .nil := rfl
theorem single_succ_zero (v : α) (f : Nat) : single v (f + 1) 0 = .node (some v) .nil .nil := rfl
theorem single_succ (v : α) (f m : Nat) : single v (f + 1) (m + 1) = cond (Nat.beq (Nat.mod m 2) 0) (.node none (single v f (Nat.div m 2)) .nil) (.node none .nil (single v f (Nat.div m 2))) := by
  unfold single
  rw [posF_succ]
  cases Nat.beq (Nat.mod m 2) 0 <;> rfl
theorem set_nil (n : Nat) (v : α) : (T.nil : T α).set n v = single v n n := by rw [← setP_of]; rfl
theorem set_zero (x : Option α) (l r : T α) (v : α) : (T.node x l r).set 0 v = .node (some v) l r := rfl
theorem set_succ (x : Option α) (l r : T α) (m : Nat) (v : α) : (T.node x l r).set (m + 1) v = cond (Nat.beq (Nat.mod m 2) 0) (.node x (l.set (Nat.div m 2) v) r) (.node x l (r.set (Nat.div m 2) v)) := by
  rw [← setP_of, ← setP_of, ← setP_of, posOf, posF_succ, posF_fuel m (Nat.div m 2) (Nat.div m 2) (half_lt (Nat.le_refl _)) (Nat.le_refl _)]
  cases Nat.beq (Nat.mod m 2) 0 <;> rfl
def setL : T α → Nat → List α → T α
  | t, _, [] => t
  | t, i, x :: l => setL (t.set i x) (i + 1) l
def ofList (l : List α) : T α := setL .nil 0 l
def getL (t : T α) : Nat → Nat → Option (List α)
  | 0, _ => some []
  | n + 1, i => match t.get i with
    | none => none
    | some x => match getL t n (i + 1) with
      | none => none
      | some l => some (x :: l)
end T
def bad : Value := .chan (some 0)
def topB : Value := .complex .f32 1 0
def kcode : IntKind → Nat
  | .i8 => 0 | .i16 => 1 | .i32 => 2 | .i64 => 3 | .u8 => 4 | .u16 => 5 | .u32 => 6 | .u64 => 7
def kind? : Nat → IntKind
  | 0 => .i8 | 1 => .i16 | 2 => .i32 | 3 => .i64 | 4 => .u8 | 5 => .u16 | 6 => .u32 | _ => .u64
def topI (k : IntKind) : Value := .complex .f32 2 (kcode k)
def topS : Value := .complex .f32 3 0
def topStr : Value := .complex .f32 4 0
def topE : Value := .complex .f32 5 0
def yld (i : Nat) : Value := .complex .f32 7 i
def und : Value := .tuple #[]
def sym (i : Nat) : Value := .complex .f32 30 i
def OPEN : Nat := 18446744073709551616
def simple : Value → Bool
  | .bool _ | .int _ _ | .string _ | .pointer none | .slice none _ _ | .map none | .nilFunc | .nilIface => true
  | _ => false
def one : Value → Bool
  | .agg _ | .tuple _ | .chan _ => false
  | _ => true
def allOne : List Value → Bool
  | [] => true
  | v :: l => cond (one v) (allOne l) false
inductive AObj where
  | row (cells : T Value) (n : Nat) (elem : TypeId)
  | map (es : List MapEntry) (clock : Nat)
  | sit (s : ByteArray) (pos : Nat)
  | mit (r : Option Nat) (since : Nat) (seen : List Nat) (last : Nat)
  | loop (t : T Value) (N : Nat) (ps : Array Tmp) (assign body : Code)
  | dead
def AObj.live : AObj → Bool
  | .dead => false
  | _ => true
structure Mem where
  n : Nat
  t : T AObj
structure TI where
  desc : TypeDesc
  size : Nat
  bytes : Nat
  zero : List Value
inductive Xtn where
  | load (k : IntKind)
  | store
  | add (k : IntKind)
  | cas (k : IntKind)
  | cmps
  | nop (k : Mark)
  | markd (k : Addr → Mark)
structure Rule where
  key : Nat × Nat × Nat
  args : List Value
  res : Value
structure Env where
  P : Program
  types : T TI
  funcs : T Func
  exts : T Xtn
  rules : List Rule
  Tw : World → Prop
inductive Mk where
  | ptr
  | slice (len cap : Nat)
  | map
def Mk.val (b : Nat) : Mk → Value
  | .ptr => .pointer (some ⟨b, 0, none⟩)
  | .slice n c => .slice (some ⟨b, 0, none⟩) n c
  | .map => .map (some b)
inductive Tgt where
  | fn (f : FuncId)
  | yld (i : Nat)
inductive Out where
  | val (v : Value)
  | new (o : AObj) (mk : Mk)
  | eff (v : Value) (m : Mem)
  | enter (f : Tgt) (args : List Value)
def agg? : TypeDesc → Bool
  | .struct _ | .array _ _ => true
  | _ => false
def cellsOf (v : Value) : List Value := v.cells.toList
def isBad : Value → Bool
  | .chan _ => true
  | _ => false
def tv (t : T Value) (i : Nat) : Value := match t.get i with | some v => v | none => und
def loadAt (E : Env) (t : TypeId) (a : Addr) (m : Mem) : Option Value :=
  match E.types.get t, m.t.get a.block with
  | some ti, some (.row cells n _) =>
    match Nat.ble (a.off + ti.size) n with
    | true => match agg? ti.desc with
      | true => match cells.getL ti.size a.off with
        | some l => some (.agg l.toArray)
        | none => none
      | false => match ti.size with
        | 1 => cells.get a.off
        | _ => none
    | false => none
  | _, _ => none
def storeL (a : Addr) (l : List Value) (m : Mem) : Option Mem :=
  match m.t.get a.block with
  | some (.row cells n e) => match Nat.ble (a.off + l.length) n, allOne l with
    | true, true => some ⟨m.n, m.t.set a.block (.row (cells.setL a.off l) n e)⟩
    | _, _ => none
  | _ => none
def newRow (e : TypeId) (l : List Value) : AObj := .row (T.ofList l) l.length e
def intBin (op : BinOp) (k : IntKind) (a b : Int) : Option Value :=
  match op with
  | .add => some (.int k (k.wrap (a + b)))
  | .sub => some (.int k (k.wrap (a - b)))
  | .mul => some (.int k (k.wrap (a * b)))
  | .quo => if b = 0 then none else some (.int k (k.wrap (a.tdiv b)))
  | .rem => if b = 0 then none else some (.int k (a.tmod b))
  | .eql => some (.bool (a == b))
  | .neq => some (.bool (a != b))
  | .lss => some (.bool (a < b))
  | .leq => some (.bool (a ≤ b))
  | .gtr => some (.bool (a > b))
  | .geq => some (.bool (a ≥ b))
  | .and => some (.int k (k.wrap ((BitVec.ofInt k.bits a &&& BitVec.ofInt k.bits b).toNat)))
  | .or => some (.int k (k.wrap ((BitVec.ofInt k.bits a ||| BitVec.ofInt k.bits b).toNat)))
  | .xor => some (.int k (k.wrap ((BitVec.ofInt k.bits a ^^^ BitVec.ofInt k.bits b).toNat)))
  | .andNot => some (.int k (k.wrap ((BitVec.ofInt k.bits a &&& ~~~ BitVec.ofInt k.bits b).toNat)))
  | _ => none
def shift (op : BinOp) (k : IntKind) (a b : Int) : Option Value :=
  match op with
  | .shl => if b < 0 then none else some (.int k (k.wrap (a * 2 ^ (min b.toNat k.bits))))
  | .shr => if b < 0 then none else some (.int k (a.fdiv (2 ^ (min b.toNat k.bits))))
  | _ => none
def isShift : BinOp → Bool
  | .shl | .shr => true
  | _ => false
def sameKind (j k : IntKind) : Bool := Nat.beq (kcode j) (kcode k)
def cmp? : BinOp → Bool
  | .eql | .neq | .lss | .leq | .gtr | .geq => true
  | _ => false
def partA (E : Env) (t : TypeId) (cs : Array Value) (off : Nat) : Option Value :=
  match E.types.get t with
  | some ti => match agg? ti.desc with
    | true => some (.agg (cs.extract off (off + ti.size)))
    | false => cs[off]?
  | none => none
def eqA (E : Env) : Nat → TypeId → Value → Value → Option Bool
  | 0, _, _, _ => none
  | d + 1, t, x, y =>
    match E.types.get t with
    | none => none
    | some ti => match ti.desc, x, y with
      | .bool, .bool a, .bool b => some (a == b)
      | .int _, .int j a, .int k b => match sameKind j k with | true => some (a == b) | false => none
      | .string, .string a, .string b => some (a.data.toList == b.data.toList)
      | .slice _, .slice none _ _, .slice b _ _ => some b.isNone
      | .slice _, .slice (some _) _ _, .slice none _ _ => some false
      | .map _ _, .map none, .map b => some b.isNone
      | .map _ _, .map (some _), .map none => some false
      | .func _ _ _, .nilFunc, .nilFunc => some true
      | .func _ _ _, .nilFunc, .func _ _ _ | .func _ _ _, .func _ _ _, .nilFunc => some false
      | .pointer _, .pointer none, .pointer b => some b.isNone
      | .pointer _, .pointer (some _), .pointer none => some false
      | .interface _, .nilIface, .iface _ _ | .interface _, .iface _ _, .nilIface => some false
      | .interface _, .nilIface, .nilIface => some true
      | .struct fs, .agg xs, .agg ys => match E.P.stoodInHeld t with
        | true => none
        | false => fs.toList.foldr (fun f r => match f.name == "_" with
          | true => r
          | false => match partA E f.type xs f.offset, partA E f.type ys f.offset with
            | some a, some b => match eqA E d f.type a b with
              | some true => r
              | some false => some false
              | none => none
            | _, _ => none) (some true)
      | _, _, _ => none
def strOp (op : BinOp) (a b : List UInt8) : Option Value :=
  match op with
  | .add => match Nat.ble (a.length + b.length) 1000000 with
    | true => some (.string ⟨(a ++ b).toArray⟩)
    | false => none
  | .eql => some (.bool (a == b))
  | .neq => some (.bool !(a == b))
  | .lss => some (.bool (Op.bytesLess a b))
  | .leq => some (.bool (Op.bytesLess a b || a == b))
  | .gtr => some (.bool !(Op.bytesLess a b || a == b))
  | .geq => some (.bool !Op.bytesLess a b)
  | _ => none
def isTop : Value → Bool
  | .complex _ _ _ | .chan _ => true
  | _ => false
def binop (E : Env) (op : BinOp) (t : TypeId) (x y : Value) : Option Value :=
  match x, y with
  | .int k a, .int j b => match isShift op with
    | true => shift op k a b
    | false => match sameKind k j with
      | true => intBin op k a b
      | false => none
  | .complex .f32 2 k, .int j _ => match sameKind (kind? k) j, cmp? op with
    | true, true => some topB
    | _, _ => none
  | .int j _, .complex .f32 2 k => match sameKind j (kind? k), cmp? op with
    | true, true => some topB
    | _, _ => none
  | .string a, .string b => strOp op a.data.toList b.data.toList
  | .agg xs, .agg ys => match E.P.eqGuardType E.P.depth t with
    | true => none
    | false => match op, eqA E 20 t (.agg xs) (.agg ys) with
      | .eql, some b => some (.bool b)
      | .neq, some b => some (.bool !b)
      | _, _ => none
  | .nilIface, .nilIface => none
  | x, y => match isTop x, isTop y with
    | false, false => match op, eqA E 20 t x y with
      | .eql, some b => some (.bool b)
      | .neq, some b => some (.bool !b)
      | _, _ => none
    | _, _ => none
def isConst : Operand → Bool
  | .const _ => true
  | _ => false
def binopC (E : Env) (op : BinOp) (t : TypeId) (c : Bool) (x y : Value) : Option Value :=
  match c, x, y with
  | true, .nilIface, .nilIface => match op, eqA E 20 t .nilIface .nilIface with
    | .eql, some b => some (.bool b)
    | .neq, some b => some (.bool !b)
    | _, _ => none
  | _, x, y => binop E op t x y
def lenOf : Value → Option Nat
  | .slice _ n _ => some n
  | .string s => some s.size
  | _ => none
def elemSize (E : Env) (t : TypeId) : Option (TypeId × TI) :=
  match E.types.get t with
  | some ⟨.slice e, _, _, _⟩ => match E.types.get e with | some ti => some (e, ti) | none => none
  | _ => none
def firstCells (size n : Nat) (v : Value) (m : Mem) : Option (List Value) :=
  match v with
  | .slice (some a) _ _ => match m.t.get a.block with
    | some (.row cells k _) => match Nat.ble (a.off + n * size) k with
      | true => cells.getL (n * size) a.off
      | false => none
    | _ => none
  | .slice none _ _ => some []
  | .string s => some ((s.data.toList.take n).map fun b => .int .u8 b.toNat)
  | _ => none
def append (E : Env) (st : TypeId) (s x : Value) (m : Mem) : Option Out :=
  match elemSize E st, s, lenOf x with
  | some (e, ti), .slice base len cap, some n =>
    match firstCells ti.size n x m, firstCells ti.size len s m, Nat.ble (len + n) 1000000, Nat.ble ti.bytes 100000 with
    | some new, some old, true, true =>
      match Nat.beq (old ++ new).length ((len + n) * ti.size), Nat.ble OPEN cap with
      | true, false => match Nat.ble (len + n) cap with
        | true => match base with
          | none => match len + n with
            | 0 => some (.val (.slice none 0 cap))
            | _ => none
          | some a => match storeL ⟨a.block, a.off + len * ti.size, none⟩ new m with
            | some m' => some (.eff (.slice base (len + n) cap) m')
            | none => none
        | false => match Nat.ble cap 1000000 with
          | true => some (.eff (.slice (some ⟨m.n, 0, none⟩) (len + n) OPEN) ⟨m.n + 1, m.t.set m.n (newRow e (old ++ new))⟩)
          | false => none
      | true, true => match base with
        | none => none
        | some a => match n, new with
          | 0, [] => some (.val s)
          | _, _ => match m.t.get a.block with
            | some (.row _ _ e') => match Nat.beq e e', allOne new with
              | true, true => some (.eff (.slice (some ⟨m.n, 0, none⟩) (len + n) OPEN) ⟨m.n + 1, (m.t.set a.block .dead).set m.n (newRow e (old ++ new))⟩)
              | _, _ => none
            | _ => none
      | _, _ => none
    | _, _, _, _ => none
  | _, _, _ => none
def appendB (E : Env) (st : TypeId) (s x : Value) (m : Mem) : Option Out :=
  match s with
  | .slice (some a) (len + 1) cap => match m.t.get a.block with
    | some (.row _ 0 e') => match elemSize E st, lenOf x with
      | some (e, ti), some n => match firstCells ti.size n x m, Nat.ble (len + 1 + n) 1000000, Nat.ble ti.bytes 100000, Nat.ble OPEN cap, Nat.beq e e' with
        | some new, true, true, true, true => match n, Nat.beq new.length (n * ti.size), allOne new, Nat.ble 1 ti.size with
          | _ + 1, true, true, true => some (.eff (.slice (some ⟨m.n, 0, none⟩) (len + 1 + n) OPEN) ⟨m.n + 1, (m.t.set a.block .dead).set m.n (.row .nil 0 e)⟩)
          | _, _, _, _ => none
        | _, _, _, _, _ => none
      | _, _ => none
    | _ => append E st s x m
  | _ => append E st s x m
def copyS (E : Env) (t : TypeId) (d s : Value) (m : Mem) : Option Out :=
  match elemSize E t, lenOf s, d with
  | some (_, ti), some n, .slice base dl _ => match firstCells ti.size (min n dl) s m with
    | some l => match base with
      | some a => match storeL a l m with
        | some m' => some (.eff (.int .i64 ((min n dl : Nat) : Int)) m')
        | none => none
      | none => some (.val (.int .i64 ((min n dl : Nat) : Int)))
    | none => none
  | _, _, _ => none
def bound (v : Option Value) (dflt hi : Nat) : Option Nat :=
  match v with
  | none => some dflt
  | some (.int _ (.ofNat i)) => cond (Nat.ble i hi) (some i) none
  | _ => none
def sliceS (e : TypeId) (size : Nat) (x : Value) (lo hi mx : Option Value) (m : Mem) : List Out :=
  match x with
  | .slice (some a) len cap =>
    match Nat.ble OPEN cap, mx with
    | true, some mv => match bound (some mv) 0 len, Nat.ble len 1000000000 with
      | some mm, true => match bound hi len mm with
        | some h => match bound lo 0 h with
          | some l => [.val (.slice (some (cond (Nat.beq mm l) a ⟨a.block, a.off + l * size, none⟩)) (h - l) (mm - l))]
          | none => []
        | none => []
      | _, _ => []
    | true, none => match m.t.get a.block with
      | some (.row _ _ e') => match Nat.beq e e', bound hi len len with
        | true, some h => match bound lo 0 h with
          | some l => match Nat.beq l len with
            | false => [.val (.slice (some ⟨a.block, a.off + l * size, none⟩) (h - l) OPEN)]
            | true => match l with
              | 0 => [.val x]
              | _ => [.val topE]
          | none => []
        | _, _ => []
      | _ => []
    | false, _ => match bound mx cap cap with
      | some mm => match bound hi len mm with
        | some h => match bound lo 0 h with
          | some l => [.val (.slice (some (cond (Nat.beq mm l) a ⟨a.block, a.off + l * size, none⟩)) (h - l) (mm - l))]
          | none => []
        | none => []
      | none => []
  | .slice none 0 0 => match bound mx 0 0 with
    | some _ => match bound hi 0 0 with
      | some _ => match bound lo 0 0 with
        | some _ => [.val (.slice none 0 0)]
        | none => []
      | none => []
    | none => []
  | _ => []
def ofO : Option Out → List Out
  | some o => [o]
  | none => []
def valO : Option Value → List Out
  | some v => [.val v]
  | none => []
end
end Go.AS
set_option linter.unusedSectionVars false
namespace Go.AS
open Go.RowKit
namespace T
variable {α : Type}
theorem beq_mod (m : Nat) : Nat.beq (Nat.mod m 2) 0 = decide (m % 2 = 0) := by
  show Nat.beq (m % 2) 0 = _
  rcases Nat.mod_two_eq_zero_or_one m with h | h <;> rw [h] <;> rfl
theorem half_inj {m k : Nat} {t : Bool} (h : Nat.beq (Nat.mod m 2) 0 = t) (h' : Nat.beq (Nat.mod k 2) 0 = t) (h2 : Nat.div m 2 = Nat.div k 2) : m = k := by
  rw [beq_mod] at h h'
  have h3 : decide (m % 2 = 0) = decide (k % 2 = 0) := h.trans h'.symm
  have h2' : m / 2 = k / 2 := h2
  have hm := Nat.div_add_mod m 2
  have hk := Nat.div_add_mod k 2
  rcases Nat.mod_two_eq_zero_or_one m with a | a <;> rcases Nat.mod_two_eq_zero_or_one k with b | b
  · omega
  · rw [a, b] at h3; exact absurd h3 (by decide)
  · rw [a, b] at h3; exact absurd h3 (by decide)
  · omega
theorem half_ne {m k : Nat} {t : Bool} (h : Nat.beq (Nat.mod m 2) 0 = t) (h' : Nat.beq (Nat.mod k 2) 0 = !t) : m + 1 ≠ k + 1 := by
  intro e
  obtain rfl : m = k := by omega
  rw [h] at h'; cases t <;> cases h'
theorem half_le {m f : Nat} (h : m + 1 ≤ f + 1) : Nat.div m 2 ≤ f := by
  have : Nat.div m 2 = m / 2 := rfl
  omega
theorem get_single (v : α) : ∀ (f n j : Nat), n ≤ f → (single v f n).get j = if n = j then some v else none := by
  intro f
  induction f with
  | zero =>
    intro n j h
    obtain rfl : n = 0 := by omega
    rw [single_zero]
    cases j with
    | zero => rfl
    | succ k => simp only [get_succ, get_nil]; cases Nat.beq (Nat.mod k 2) 0 <;> rfl
  | succ f ih =>
    intro n j h
    cases n with
    | zero =>
      rw [single_succ_zero]
      cases j with
      | zero => rfl
      | succ k => simp only [get_succ, get_nil]; cases Nat.beq (Nat.mod k 2) 0 <;> rfl
    | succ m =>
      rw [single_succ]
      cases hm : Nat.beq (Nat.mod m 2) 0 <;> cases j with
      | zero => rfl
      | succ k =>
        cases hk : Nat.beq (Nat.mod k 2) 0 <;> simp only [cond, get_succ, hk] <;> first
          | (rw [ih _ _ (half_le h)]
             by_cases e : Nat.div m 2 = Nat.div k 2
             · rw [if_pos e, if_pos (by rw [half_inj hm hk e])]
             · rw [if_neg e, if_neg (by intro e2; apply e; obtain rfl : m = k := by omega
                                        rfl)])
          | (first | rw [get_nil, if_neg (half_ne hm hk)] | rw [if_neg (half_ne hm hk)])
theorem get_set (t : T α) : ∀ (i j : Nat) (v : α), (t.set i v).get j = if i = j then some v else t.get j := by
  induction t with
  | nil => intro i j v; rw [get_nil, set_nil]; exact get_single v i i j (Nat.le_refl _)
  | node x l r ihl ihr =>
    intro i j v
    cases i with
    | zero =>
      rw [set_zero]
      cases j with
      | zero => rfl
      | succ k => rw [get_succ, get_succ]; simp
    | succ m =>
      rw [set_succ]
      cases hm : Nat.beq (Nat.mod m 2) 0 <;> cases j with
      | zero => simp [cond, get_zero]
      | succ k =>
        cases hk : Nat.beq (Nat.mod k 2) 0 <;> simp only [cond, get_succ, hk] <;> first
          | (first | rw [ihl] | rw [ihr]
             by_cases e : Nat.div m 2 = Nat.div k 2
             · rw [if_pos e, if_pos (by rw [half_inj hm hk e])]
             · rw [if_neg e, if_neg (by intro e2; apply e; obtain rfl : m = k := by omega
                                        rfl)])
          | (rw [if_neg (half_ne hm hk)])
theorem get_set_same (t : T α) (i : Nat) (v : α) : (t.set i v).get i = some v := by rw [get_set, if_pos rfl]
theorem get_set_ne (t : T α) {i j : Nat} (v : α) (h : i ≠ j) : (t.set i v).get j = t.get j := by rw [get_set, if_neg h]
theorem get_setL (l : List α) : ∀ (t : T α) (i j : Nat), (t.setL i l).get j = if i ≤ j ∧ j < i + l.length then l[j - i]? else t.get j := by
  induction l with
  | nil => intro t i j; simp only [setL, List.length_nil]; rw [if_neg (by omega)]
  | cons x l ih =>
    intro t i j
    simp only [setL, List.length_cons]
    rw [ih, get_set]
    by_cases h1 : i + 1 ≤ j ∧ j < i + 1 + l.length
    · rw [if_pos h1, if_pos (by omega)]
      obtain ⟨d, hd⟩ : ∃ d, j - i = d + 1 := ⟨j - i - 1, by omega⟩
      rw [hd, List.getElem?_cons_succ, show j - (i + 1) = d from by omega]
    · rw [if_neg h1]
      by_cases h2 : i = j
      · subst h2; simp
      · rw [if_neg h2, if_neg (by omega)]
theorem get_ofList (l : List α) (j : Nat) : (ofList l).get j = l[j]? := by
  unfold ofList
  rw [get_setL]
  by_cases h : j < l.length
  · rw [if_pos (by omega)]; simp
  · rw [if_neg (by omega), get_nil, List.getElem?_eq_none (by omega)]
theorem getL_spec {t : T α} : ∀ {n i : Nat} {l : List α}, t.getL n i = some l → l.length = n ∧ ∀ j, j < n → t.get (i + j) = l[j]? := by
  intro n
  induction n with
  | zero => intro i l h; simp [getL] at h; subst h; exact ⟨rfl, fun j hj => by omega⟩
  | succ n ih =>
    intro i l h
    simp only [getL] at h
    split at h
    · cases h
    · rename_i x hx
      split at h
      · cases h
      · rename_i l' hl
        cases h
        obtain ⟨h1, h2⟩ := ih hl
        refine ⟨by simp [h1], fun j hj => ?_⟩
        cases j with
        | zero => simpa using hx
        | succ j => rw [List.getElem?_cons_succ, ← h2 j (by omega)]; congr 1; omega
end T
structure Inf where
  b : Nat
  sh : Nat
  N : Nat
  s : Nat
abbrev Sg := Nat → Option Inf
class Rho where
  D : Nat → Value
variable [Rho]
inductive VR (σ : Sg) : Value → Value → Prop where
  | sym {i : Nat} (h : (Rho.D i).oneCell' = true) : VR σ (.complex .f32 30 i) (Rho.D i)
  | any (v' : Value) : VR σ bad v'
  | topB (b : Bool) : VR σ topB (.bool b)
  | topI (k : IntKind) (n : Int) : VR σ (topI k) (.int k n)
  | topS (a : Option Addr) (n c : Nat) : VR σ topS (.slice a n c)
  | topStr (s : ByteArray) : VR σ topStr (.string s)
  | topE (a : Option Addr) (c : Nat) : VR σ topE (.slice a 0 c)
  | refl {v : Value} (h : simple v = true) : VR σ v v
  | ptr {i o : Nat} {x : Inf} (h : σ i = some x) : VR σ (.pointer (some ⟨i, o, none⟩)) (.pointer (some ⟨x.b, x.sh + o, none⟩))
  | slice {i o n c c' : Nat} {x : Inf} (h : σ i = some x) (hc : c < OPEN → c' = c) (ho : OPEN ≤ c → n ≤ c' ∧ o + c' * x.s ≤ x.N) :
      VR σ (.slice (some ⟨i, o, none⟩) n c) (.slice (some ⟨x.b, x.sh + o, none⟩) n c')
  | map {r : Nat} {x : Inf} (h : σ r = some x) : VR σ (.map (some r)) (.map (some x.b))
  | yld {i : Nat} {x : Inf} (h : σ i = some x) : VR σ (AS.yld i) (.func (.yield x.b) #[] #[])
  | func {fn : Fn} {f f' c c' : Array Value} (hf : f.size = f'.size) (hf' : ∀ i, i < f.size → VR σ (f.getD i und) (f'.getD i und))
      (hc : c.size = c'.size) (hc' : ∀ i, i < c.size → VR σ (c.getD i und) (c'.getD i und)) : VR σ (.func fn f c) (.func fn f' c')
  | iface {t : TypeId} {v v' : Value} (h : VR σ v v') : VR σ (.iface t v) (.iface t v')
  | agg {c c' : Array Value} (hc : c.size = c'.size) (hc' : ∀ i, i < c.size → VR σ (c.getD i und) (c'.getD i und)) : VR σ (.agg c) (.agg c')
  | tuple {c c' : Array Value} (hc : c.size = c'.size) (hc' : ∀ i, i < c.size → VR σ (c.getD i und) (c'.getD i und)) : VR σ (.tuple c) (.tuple c')
def Ext (σ σ' : Sg) : Prop := ∀ i x, σ i = some x → σ' i = some x
theorem Ext.refl (σ : Sg) : Ext σ σ := fun _ _ h => h
theorem Ext.trans {a b c : Sg} (h : Ext a b) (k : Ext b c) : Ext a c := fun i x hx => k i x (h i x hx)
theorem VR.mono {σ σ' : Sg} (he : Ext σ σ') {v v' : Value} (h : VR σ v v') : VR σ' v v' := by
  induction h with
  | sym h => exact .sym h
  | any v' => exact .any v'
  | topB b => exact .topB b
  | topI k n => exact .topI k n
  | topS a n c => exact .topS a n c
  | topStr s => exact .topStr s
  | topE a c => exact .topE a c
  | refl h => exact .refl h
  | ptr h => exact .ptr (he _ _ h)
  | slice h hc ho => exact .slice (he _ _ h) hc ho
  | map h => exact .map (he _ _ h)
  | yld h => exact .yld (he _ _ h)
  | func hf _ hc _ ih1 ih2 => exact .func hf ih1 hc ih2
  | iface _ ih => exact .iface ih
  | agg hc _ ih => exact .agg hc ih
  | tuple hc _ ih => exact .tuple hc ih
theorem VR.undef (σ : Sg) : VR σ und und := .tuple rfl (fun i hi => by simp at hi)
def VRL (σ : Sg) (l l' : List Value) : Prop := l.length = l'.length ∧ ∀ i, i < l.length → VR σ (l.getD i und) (l'.getD i und)
theorem VRL.mono {σ σ' : Sg} (he : Ext σ σ') {l l' : List Value} (h : VRL σ l l') : VRL σ' l l' := ⟨h.1, fun i hi => (h.2 i hi).mono he⟩
theorem VRL.nil (σ : Sg) : VRL σ [] [] := ⟨rfl, fun i hi => by simp at hi⟩
theorem VRL.cons {σ : Sg} {v v' : Value} {l l' : List Value} (h : VR σ v v') (hl : VRL σ l l') : VRL σ (v :: l) (v' :: l') :=
  ⟨by simp [hl.1], fun i hi => by
    cases i with
    | zero => simpa using h
    | succ i => simpa using hl.2 i (by simpa using hi)⟩
theorem VRL.head {σ : Sg} {v v' : Value} {l l' : List Value} (h : VRL σ (v :: l) (v' :: l')) : VR σ v v' := by simpa using h.2 0 (by simp)
theorem VRL.tail {σ : Sg} {v v' : Value} {l l' : List Value} (h : VRL σ (v :: l) (v' :: l')) : VRL σ l l' :=
  ⟨by simpa using h.1, fun i hi => by simpa using h.2 (i + 1) (by simpa using hi)⟩
theorem VRL.append {σ : Sg} {a a' b b' : List Value} (h : VRL σ a a') (k : VRL σ b b') : VRL σ (a ++ b) (a' ++ b') := by
  induction a generalizing a' with
  | nil =>
    cases a' with
    | nil => exact k
    | cons _ _ => exact absurd h.1 (by simp)
  | cons x a ih =>
    cases a' with
    | nil => exact absurd h.1 (by simp)
    | cons y a' => exact VRL.cons h.head (ih h.tail)
theorem getD_of {l : List Value} {i : Nat} (h : i < l.length) : l.getD i und = l[i] := by simp [List.getD_eq_getElem?_getD, h]
theorem VRL.getElem? {σ : Sg} {l l' : List Value} (h : VRL σ l l') {i : Nat} {v : Value} (hv : l[i]? = some v) : ∃ v', l'[i]? = some v' ∧ VR σ v v' := by
  obtain ⟨hi, he⟩ := List.getElem?_eq_some_iff.1 hv
  have hr := h.2 i hi
  have hi' : i < l'.length := by rw [← h.1]; exact hi
  refine ⟨l'[i], List.getElem?_eq_getElem hi', ?_⟩
  rw [getD_of hi, getD_of hi', he] at hr
  exact hr
theorem VRL.of_getElem? {σ : Sg} {l l' : List Value} (hl : l.length = l'.length) (h : ∀ (i : Nat) (v v' : Value), l[i]? = some v → l'[i]? = some v' → VR σ v v') : VRL σ l l' :=
  ⟨hl, fun i hi => by
    have hi' : i < l'.length := by rw [← hl]; exact hi
    rw [getD_of hi, getD_of hi']
    exact h i _ _ (List.getElem?_eq_getElem hi) (List.getElem?_eq_getElem hi')⟩
theorem arr_getD (c : Array Value) (i : Nat) : c.getD i und = c.toList.getD i und := by
  cases c; simp
theorem VR.arr {σ : Sg} {c c' : Array Value} (hc : c.size = c'.size) (hc' : ∀ i, i < c.size → VR σ (c.getD i und) (c'.getD i und)) : VRL σ c.toList c'.toList :=
  ⟨by simpa using hc, fun i hi => by rw [← arr_getD, ← arr_getD]; exact hc' i (by simpa using hi)⟩
theorem VRL.arr_size {σ : Sg} {c c' : Array Value} (h : VRL σ c.toList c'.toList) : c.size = c'.size := by simpa using h.1
theorem VRL.arr_get {σ : Sg} {c c' : Array Value} (h : VRL σ c.toList c'.toList) : ∀ i, i < c.size → VR σ (c.getD i und) (c'.getD i und) :=
  fun i hi => by rw [arr_getD, arr_getD]; exact h.2 i (by simpa using hi)
theorem VR.agg_of {σ : Sg} {c c' : Array Value} (h : VRL σ c.toList c'.toList) : VR σ (.agg c) (.agg c') := .agg h.arr_size h.arr_get
theorem VR.tuple_of {σ : Sg} {c c' : Array Value} (h : VRL σ c.toList c'.toList) : VR σ (.tuple c) (.tuple c') := .tuple h.arr_size h.arr_get
theorem VR.one {σ : Sg} {v v' : Value} (h : VR σ v v') (ho : one v = true) : v'.oneCell' = true := by
  cases h <;> first | rfl | (simp [AS.one, bad] at ho; done) | assumption | skip
  rename_i hs
  cases v <;> first | rfl | (simp [AS.one] at ho; done)
theorem VR.cells {σ : Sg} {v v' : Value} (h : VR σ v v') (hb : v ≠ bad) : VRL σ (cellsOf v) v'.cells.toList := by
  have key : ∀ {u u' : Value}, VR σ u u' → VRL σ [u] [u'] := fun hu => VRL.cons hu (VRL.nil σ)
  cases h with
  | sym ho =>
    rename_i i
    have : (Rho.D i).cells.toList = [Rho.D i] := by
      generalize Rho.D i = u at ho ⊢
      cases u <;> first | rfl | cases ho
    rw [this]
    exact key (.sym ho)
  | any v' => exact absurd rfl hb
  | agg hc hc' => exact VR.arr hc hc'
  | refl hs =>
    have : cellsOf v = [v] ∧ v.cells.toList = [v] := by cases v <;> first | exact ⟨rfl, rfl⟩ | (simp [simple] at hs; done)
    rw [this.1, this.2]
    exact key (.refl hs)
  | topB b => exact key (.topB b)
  | topI k n => exact key (.topI k n)
  | topS a n c => exact key (.topS a n c)
  | topStr s => exact key (.topStr s)
  | topE a c => exact key (.topE a c)
  | ptr h => exact key (.ptr h)
  | slice h a b => exact key (.slice h a b)
  | map h => exact key (.map h)
  | yld h => exact key (.yld h)
  | func a b c d => exact key (.func a b c d)
  | iface a => exact key (.iface a)
  | tuple a b => exact key (.tuple a b)
end Go.AS
set_option linter.unusedSectionVars false
namespace Go.AS
noncomputable section
def allSimple : List Value → Bool
  | [] => true
  | v :: l => cond (simple v) (allSimple l) false
def places (E : Env) : List Field → Option (List (Nat × Nat))
  | [] => some []
  | f :: fs => match E.types.get f.type, places E fs with
    | some ti, some l => some ((f.offset, ti.size) :: l)
    | _, _ => none
def anyBad : List (Nat × Value) → Bool
  | [] => false
  | (_, v) :: l => cond (isBad v) true (anyBad l)
def buildA (E : Env) (t : TypeId) (parts : List (Nat × Value)) : Option Value :=
  match E.types.get t, anyBad parts with
  | some ti, false => match ti.desc with
    | .struct fs => match places E fs.toList with
      | some pl => match Instr.fill (pl.toArray[·]?) ti.zero.toArray parts with
        | some cells => some (.agg cells)
        | none => none
      | none => none
    | .array _ e => match E.types.get e with
      | some te => match Instr.fill (fun i => some (i * te.size, te.size)) ti.zero.toArray parts with
        | some cells => some (.agg cells)
        | none => none
      | none => none
    | _ => none
  | _, _ => none
def rep (n : Nat) (z : List Value) : List Value :=
  match n with
  | 0 => []
  | n + 1 => z ++ rep n z
def buildSliceA (E : Env) (t : TypeId) (len : Nat) (parts : List (Nat × Value)) : Option Out :=
  match elemSize E t, anyBad parts with
  | some (e, te), false => match Nat.ble (len * te.size) 100000, te.size with
    | true, s + 1 => match Instr.fill (fun i => some (i * (s + 1), s + 1)) (rep len te.zero).toArray parts with
      | some cells => some (.new (newRow e cells.toList) (.slice len len))
      | none => none
    | _, _ => none
  | _, _ => none
def makeSliceA (E : Env) (t : TypeId) (l c : Value) : Option Out :=
  match elemSize E t, l, c with
  | some (e, te), .int _ (.ofNat l), .int _ (.ofNat c) => match Nat.ble l c, Nat.ble (c * te.size) 100000, Nat.ble c 1000000, Nat.ble te.bytes 100000 with
    | true, true, true, true => some (.new (newRow e (rep c te.zero)) (.slice l c))
    | _, _, _, _ => none
  | _, _, _ => none
def fieldAddrA (E : Env) (t : TypeId) (x : Value) (f : Nat) : Option Value :=
  match E.types.get t, x with
  | some ti, .pointer (some a) => match ti.desc with
    | .struct fs => match fs[f]? with
      | some fd => match E.types.get fd.type with
        | some tf => match tf.size with
          | 0 => none
          | _ => some (.pointer (some ⟨a.block, a.off + fd.offset, none⟩))
        | none => none
      | none => none
    | _ => none
  | _, _ => none
def fieldA (E : Env) (t : TypeId) (x : Value) (f : Nat) : Option Value :=
  match E.types.get t, x with
  | some ti, .agg cs => match ti.desc with
    | .struct fs => match fs[f]? with
      | some fd => partA E fd.type cs fd.offset
      | none => none
    | _ => none
  | _, _ => none
def indexAddrA (E : Env) (t : TypeId) (x i : Value) : Option Value :=
  match E.types.get t, i with
  | some ti, .int _ (.ofNat i) => match ti.desc, x with
    | .slice e, .slice (some a) n _ => match E.types.get e, Nat.blt i n with
      | some te, true => some (.pointer (some ⟨a.block, a.off + i * te.size, none⟩))
      | _, _ => none
    | .array n e, .pointer (some a) => match E.types.get e, Nat.blt i n with
      | some te, true => some (.pointer (some ⟨a.block, a.off + i * te.size, none⟩))
      | _, _ => none
    | _, _ => none
  | _, _ => none
def indexA (E : Env) (t : TypeId) (x i : Value) : Option Value :=
  match E.types.get t, i with
  | some ti, .int _ (.ofNat i) => match ti.desc, x with
    | .array n e, .agg cs => match E.types.get e, Nat.blt i n with
      | some te, true => partA E e cs (i * te.size)
      | _, _ => none
    | .string, .string s => match s.data.toList[i]? with
      | some b => some (.int .u8 b.toNat)
      | none => none
    | _, _ => none
  | _, _ => none
def convertA (E : Env) (src dst : TypeId) (x : Value) (m : Mem) : Option Out :=
  match E.types.get src, E.types.get dst with
  | some ts, some td => match ts.desc, td.desc, x with
    | _, .int k, .int _ n => some (.val (.int k (k.wrap n)))
    | _, .string, .string s => some (.val (.string s))
    | _, .slice e, .string s => match E.types.get e with
      | some te => match te.desc, te.size, Nat.ble s.data.toList.length 1000000 with
        | .int .u8, 1, true => some (.eff (.slice (some ⟨m.n, 0, none⟩) s.data.toList.length OPEN) ⟨m.n + 1, m.t.set m.n (newRow e (s.data.toList.map fun b => .int .u8 b.toNat))⟩)
        | _, _, _ => none
      | none => none
    | _, .slice e, .slice (some a) n c => match E.types.get e, Nat.beq src dst, m.t.get a.block with
      | some te, true, some (.row _ _ _) => match te.desc with
        | .int .u8 => some (.eff (.slice (some a) n c) m)
        | _ => none
      | _, _, _ => none
    | .slice e, .string, .slice none _ _ => match E.types.get e with
      | some te => match te.desc with
        | .int .u8 => some (.val (.string ⟨#[]⟩))
        | _ => none
      | none => none
    | .slice e, .string, .slice (some a) n _ => match E.types.get e, m.t.get a.block with
      | some te, some (.row cells k _) => match te.desc, Nat.ble (a.off + n) k with
        | .int .u8, true => match cells.getL n a.off with
          | some l => match l.mapM (fun v => match v with | .int .u8 (.ofNat b) => some (UInt8.ofNat b) | _ => none) with
            | some bs => some (.val (.string ⟨bs.toArray⟩))
            | none => none
          | none => none
        | _, _ => none
      | _, _ => none
    | .pointer e, .unsafePointer, .pointer (some a) => match E.types.get e, m.t.get a.block with
      | some te, some (.row _ n _) => match te.size, Nat.ble (a.off + 1) n with
        | _ + 1, true => some (.val (.pointer (some a)))
        | _, _ => none
      | _, _ => none
    | _, _, _ => none
  | _, _ => none
def sameNowA (kind : TypeDesc) (a b : Value) : Option Bool :=
  match kind, a, b with
  | .int _, .int j x, .int k y => match sameKind j k with | true => some (x == y) | false => none
  | .string, .string a, .string b => some (a.data.toList == b.data.toList)
  | _, _, _ => none
def keyEq (E : Env) (t : TypeId) (d : TypeDesc) (a b : Value) : Option Bool :=
  match d with
  | .struct _ => eqA E 20 t a b
  | _ => sameNowA d a b
def findA (E : Env) (t : TypeId) (d : TypeDesc) (k : Value) : List MapEntry → Nat → Option (Option (Nat × Value))
  | [], _ => some none
  | e :: es, i => match keyEq E t d k e.key with
    | some true => some (some (i, e.val))
    | some false => findA E t d k es (i + 1)
    | none => none
def basicT (E : Env) (t : TypeId) : Bool :=
  match E.types.get t with
  | some ti => match ti.desc with
    | .int _ | .string | .bool => true
    | _ => false
  | none => false
def keyFields (E : Env) (cs : Array Value) : List Field → Bool
  | [] => true
  | f :: fs => match f.name == "_" with
    | true => keyFields E cs fs
    | false => match basicT E f.type, partA E f.type cs f.offset with
      | true, some _ => keyFields E cs fs
      | _, _ => false
def mapType (E : Env) (t : TypeId) : Option (TypeId × TI × TI) :=
  match E.types.get t with
  | some ti => match ti.desc with
    | .map k e => match E.types.get k, E.types.get e with
      | some tk, some te => some (k, tk, te)
      | _, _ => none
    | _ => none
  | none => none
def keyOK (E : Env) (d : TypeDesc) (k : Value) : Bool :=
  match d, k with
  | .int _, .int _ _ => true
  | .string, .string _ => true
  | .struct fs, .agg cs => keyFields E cs fs.toList
  | _, _ => false
def eq1 (a b : Value) : Bool :=
  match a, b with
  | .int j x, .int k y => sameKind j k && x == y
  | .string a, .string b => a.data.toList == b.data.toList
  | .bool a, .bool b => a == b
  | _, _ => false
def eqCells : List Value → List Value → Bool
  | [], [] => true
  | a :: l, b :: r => cond (eq1 a b) (eqCells l r) false
  | _, _ => false
def eqKey (a b : Value) : Bool :=
  match a, b with
  | .agg x, .agg y => eqCells x.toList y.toList
  | a, b => eq1 a b
def zeroOf (te : TI) : Value :=
  match agg? te.desc, te.zero with
  | false, [z] => z
  | _, l => .agg l.toArray
def lookupA (E : Env) (t : TypeId) (x k : Value) (ok : Bool) (m : Mem) : Option Value :=
  match mapType E t with
  | some (kt, tk, te) => match keyOK E tk.desc k with
    | false => none
    | true => match x with
      | .map none => some (cond ok (.tuple #[zeroOf te, .bool false]) (zeroOf te))
      | .map (some r) => match m.t.get r with
        | some (.map es _) => match findA E kt tk.desc k es 0 with
          | some (some (_, v)) => some (cond ok (.tuple #[v, .bool true]) v)
          | some none => some (cond ok (.tuple #[zeroOf te, .bool false]) (zeroOf te))
          | none => none
        | _ => none
      | _ => none
  | none => none
def setVal (es : List MapEntry) (i : Nat) (k v : Value) : List MapEntry :=
  match es, i with
  | [], _ => []
  | e :: es, 0 => ⟨k, v, e.born⟩ :: es
  | e :: es, i + 1 => e :: setVal es i k v
def mapUpdateA (E : Env) (t : TypeId) (x k v : Value) (m : Mem) : Option Mem :=
  match mapType E t, x with
  | some (kt, tk, _), .map (some r) => match keyOK E tk.desc k, m.t.get r with
    | true, some (.map es clock) => match findA E kt tk.desc k es 0 with
      | some (some (i, _)) => match es[i]? with
        | some e => match eqKey e.key k with
          | true => some ⟨m.n, m.t.set r (.map (setVal es i k v) clock)⟩
          | false => none
        | none => none
      | some none => some ⟨m.n, m.t.set r (.map (es ++ [⟨k, v, clock⟩]) (clock + 1))⟩
      | none => none
    | _, _ => none
  | _, _ => none
def eraseAt : List MapEntry → Nat → List MapEntry
  | [], _ => []
  | _ :: es, 0 => es
  | e :: es, i + 1 => e :: eraseAt es i
def deleteA (E : Env) (t : TypeId) (x k : Value) (m : Mem) : Option Mem :=
  match mapType E t with
  | some (kt, tk, _) => match keyOK E tk.desc k with
    | false => none
    | true => match x with
      | .map none => some m
      | .map (some r) => match m.t.get r with
        | some (.map es clock) => match findA E kt tk.desc k es 0 with
          | some (some (i, _)) => some ⟨m.n, m.t.set r (.map (eraseAt es i) clock)⟩
          | some none => some m
          | none => none
        | _ => none
      | _ => none
  | none => none
def lenA (E : Env) (t : TypeId) (x : Value) (m : Mem) : Option Value :=
  match E.types.get t with
  | some ti => match ti.desc, x with
    | .string, .string s => some (.int .i64 s.data.toList.length)
    | .slice _, .slice _ n _ => some (.int .i64 n)
    | .slice _, .complex .f32 3 0 => some (topI .i64)
    | .slice _, .complex .f32 5 0 => some (.int .i64 0)
    | .string, .complex .f32 4 0 => some (topI .i64)
    | .array n _, _ => some (.int .i64 n)
    | .map _ _, .map none => some (.int .i64 0)
    | .map _ _, .map (some r) => match m.t.get r with
      | some (.map es _) => some (.int .i64 es.length)
      | _ => none
    | _, _ => none
  | none => none
def minmax (mx : Bool) (x y : Value) : Option Value :=
  match x, y with
  | .int k a, .int j b => match sameKind k j with
    | true => some (.int k (cond mx (if b > a then b else a) (if b < a then b else a)))
    | false => none
  | _, _ => none
def storeA (E : Env) (t : TypeId) (a x : Value) (m : Mem) : Option Mem :=
  match a, E.types.get t, isBad x with
  | .pointer (some a), some ti, false => match Nat.beq (cellsOf x).length ti.size with
    | true => storeL ⟨a.block, a.off, none⟩ (cellsOf x) m
    | false => none
  | _, _, _ => none
def isIface : TypeDesc → Bool
  | .interface _ => true
  | _ => false
def sliceA (E : Env) (t : TypeId) (x : Value) (lo hi mx : Option Value) (m : Mem) : List Out :=
  match E.types.get t, (hi.isNone && mx.isSome) with
  | some ti, false => match ti.desc with
    | .slice e => match E.types.get e with
      | some te => sliceS e te.size x lo hi mx m
      | none => []
    | .string => match x, mx with
      | .string s, none => match bound hi s.data.toList.length s.data.toList.length with
        | some h => match bound lo 0 h with
          | some l => [.val (.string ⟨((s.data.toList.drop l).take (h - l)).toArray⟩)]
          | none => []
        | none => []
      | _, _ => []
    | .array n e => match x, E.types.get e, Nat.ble n 1000000 with
      | .pointer (some a), some te, true => match bound mx n n with
        | some mm => match bound hi n mm with
          | some h => match bound lo 0 h with
            | some l => [.val (.slice (some (cond (Nat.beq mm l) a ⟨a.block, a.off + l * te.size, none⟩)) (h - l) (mm - l))]
            | none => []
          | none => []
        | none => []
      | _, _, _ => []
    | _ => []
  | _, _ => []
def isPtr : TypeDesc → Bool
  | .pointer _ => true
  | _ => false
def methodA (E : Env) (t : TypeId) (name : String) (v : Value) : Option (FuncId × Value) :=
  match E.P.info? t, E.types.get t with
  | some i, some ti => match i.methods.toList.find? (fun m => m.name == name) with
    | some m => match m.path.toList, m.func with
      | [], some (f, ptr) => match ti.desc, ptr with
        | .pointer _, true => some (f, v)
        | .pointer _, false => none
        | _, false => some (f, v)
        | _, true => none
      | [st], some (f, true) => match st.deref, E.types.get st.struct, v with
        | true, some ts, .pointer (some a) => match ts.desc with
          | .struct fs => match fs[st.index]? with
            | some fd => match E.types.get fd.type with
              | some tf => match Nat.beq tf.size 0, isPtr tf.desc with
                | false, false => some (f, .pointer (some ⟨a.block, a.off + fd.offset, none⟩))
                | _, _ => none
              | none => none
            | none => none
          | _ => none
        | _, _, _ => none
      | _, _ => none
    | none => none
  | _, _ => none
def noT (ok : Bool) (z : Value) : Option Value := cond ok (some (.tuple #[z, .bool false])) none
def yesT (ok : Bool) (v : Value) : Option Value := some (cond ok (.tuple #[v, .bool true]) v)
def hasM (name : String) (sig : TypeId) : List Method → Bool
  | [] => false
  | m :: l => cond (m.name == name) (cond (Nat.beq m.sig sig) true (hasM name sig l)) (hasM name sig l)
def missA (got : List Method) : List (String × TypeId) → Bool
  | [] => false
  | (n, s) :: l => cond (hasM n s got) (missA got l) true
def assertA (E : Env) (asserted : TypeId) (x : Value) (ok : Bool) : Option Value :=
  match E.types.get asserted with
  | none => none
  | some ta => match ta.desc, x with
    | .interface _, .nilIface => noT ok (zeroOf ta)
    | .interface want, .iface t v => match E.P.info? t with
      | none => none
      | some i => match missA i.methods.toList want.toList with
        | false => yesT ok (.iface t v)
        | true => noT ok (zeroOf ta)
    | _, .nilIface => noT ok (zeroOf ta)
    | _, .iface t v => match Nat.beq t asserted with
      | true => yesT ok v
      | false => noT ok (zeroOf ta)
    | _, _ => none
def rangeA (E : Env) (t : TypeId) (x : Value) (m : Mem) : Option Out :=
  match E.types.get t with
  | none => none
  | some ti => match ti.desc, x with
    | .string, .string s => some (.new (.sit s 0) .ptr)
    | .map _ _, .map none => some (.new (.mit none 0 [] 0) .ptr)
    | .map _ _, .map (some r) => match m.t.get r with
      | some (.map _ clock) => some (.new (.mit (some r) clock [] clock) .ptr)
      | _ => none
    | _, _ => none
def overV : Value := .tuple #[.bool false]
def allBorn (last : Nat) : List MapEntry → Bool
  | [] => true
  | e :: l => cond (Nat.ble last e.born) (allBorn last l) false
def isNil {α : Type} : List α → Bool
  | [] => true
  | _ :: _ => false
def memB (x : Nat) : List Nat → Bool
  | [] => false
  | y :: l => cond (Nat.beq x y) true (memB x l)
def nextEnts (m : Mem) (i r since : Nat) (seen : List Nat) (clock : Nat) : List MapEntry → List Out
  | [] => []
  | e :: l => .eff (.tuple #[.bool true, e.key, e.val]) ⟨m.n, m.t.set i (.mit (some r) since (seen ++ [e.born]) clock)⟩ :: nextEnts m i r since seen clock l
def leftOf (seen : List Nat) : List MapEntry → List MapEntry
  | [] => []
  | e :: l => cond (memB e.born seen) (leftOf seen l) (e :: leftOf seen l)
def oldOf (since : Nat) : List MapEntry → List MapEntry
  | [] => []
  | e :: l => cond (Nat.blt e.born since) (e :: oldOf since l) (oldOf since l)
def newOf (since : Nat) : List MapEntry → List MapEntry
  | [] => []
  | e :: l => cond (Nat.blt e.born since) (newOf since l) (e :: newOf since l)
def nextA (it : Value) (isString : Bool) (m : Mem) : List Out :=
  match it with
  | .pointer (some ⟨i, 0, none⟩) => match m.t.get i, isString with
    | some (.sit s p), true => match Nat.blt p s.size with
      | true => [.eff (.tuple #[.bool true, .int .i64 p, .int .i32 (Utf8.decode s p).1]) ⟨m.n, m.t.set i (.sit s (p + (Utf8.decode s p).2))⟩]
      | false => [.val overV]
    | some (.mit none _ _ _), false => [.val overV]
    | some (.mit (some r) since seen last), false => match m.t.get r with
      | some (.map es clock) => match isNil seen, isNil es, allBorn last es with
        | false, false, true => []
        | _, _, _ => cond (isNil (oldOf since (leftOf seen es))) [.eff overV m] [] ++ nextEnts m i r since seen clock (oldOf since (leftOf seen es) ++ newOf since (leftOf seen es))
      | _ => []
    | _, _ => []
  | _ => []
def lastN : List Nat → Option Nat
  | [] => none
  | [x] => some x
  | _ :: y :: l => lastN (y :: l)
def findBorn (b : Nat) : List MapEntry → Option MapEntry
  | [] => none
  | e :: l => cond (Nat.beq e.born b) (some e) (findBorn b l)
def entryA (it : Value) (m : Mem) : Option Value :=
  match it with
  | .pointer (some ⟨i, 0, none⟩) => match m.t.get i with
    | some (.mit (some r) _ seen stepped) => match lastN seen, m.t.get r with
      | some stamp, some (.map es clock) => match Nat.beq clock stepped, findBorn stamp es with
        | true, some e => some (.tuple #[e.key, e.val])
        | _, _ => none
      | _, _ => none
    | _ => none
  | _ => none
def cellA (a : Addr) (m : Mem) : Option Value :=
  match m.t.get a.block with
  | some (.row cells n _) => match Nat.ble (a.off + 1) n with
    | true => cells.get a.off
    | false => none
  | _ => none
def extA (x : Xtn) (args : List Value) (m : Mem) : Option Out :=
  match x, args with
  | .load k, [.pointer (some a)] => match cellA a m with
    | some (.int j n) => match sameKind k j with
      | true => some (.val (.int j n))
      | false => none
    | _ => none
  | .store, [.pointer (some a), v] => match isBad v, storeL ⟨a.block, a.off, none⟩ [v] m with
    | false, some m' => some (.eff und m')
    | _, _ => none
  | .add k, [.pointer (some a), .int _ y] => match cellA a m with
    | some (.int j n) => match sameKind k j, storeL ⟨a.block, a.off, none⟩ [.int k (k.wrap (n + y))] m with
      | true, some m' => some (.eff (.int k (k.wrap (n + y))) m')
      | _, _ => none
    | _ => none
  | .cas k, [.pointer (some a), .int _ y, v] => match cellA a m, isBad v with
    | some (.int j n), false => match sameKind k j with
      | true => match n == y with
        | true => match storeL ⟨a.block, a.off, none⟩ [v] m with
          | some m' => some (.eff (.bool true) m')
          | none => none
        | false => some (.val (.bool false))
      | false => none
    | _, _ => none
  | .cmps, [.string a, .string b] => some (.val (.int .i64 (Lib.compareBytes a.data.toList b.data.toList)))
  | .nop _, _ => some (.val und)
  | .markd _, [.pointer (some _)] => some (.val und)
  | _, _ => none
def callA (E : Env) (ρ : Operand → Value) (c : Call) (m : Mem) : List Out :=
  match c.callee with
  | .builtin .len => match c.argTypes.toList, c.args.toList with
    | [t], [x] => valO (lenA E t (ρ x) m)
    | _, _ => []
  | .builtin .append => match c.argTypes.toList, c.args.toList with
    | [t, u], [s, x] => match Nat.beq t u with
      | true => ofO (appendB E t (ρ s) (ρ x) m)
      | false => []
    | _, _ => []
  | .builtin .copy => match c.argTypes.toList, c.args.toList with
    | [t, _], [s, x] => ofO (copyS E t (ρ s) (ρ x) m)
    | _, _ => []
  | .builtin .delete => match c.argTypes.toList, c.args.toList with
    | t :: _, [x, k] => match deleteA E t (ρ x) (ρ k) m with
      | some m' => [.eff und m']
      | none => []
    | _, _ => []
  | .builtin .min => match c.args.toList with
    | [x, y] => valO (minmax false (ρ x) (ρ y))
    | _ => []
  | .builtin .max => match c.args.toList with
    | [x, y] => valO (minmax true (ρ x) (ρ y))
    | _ => []
  | .value f => match ρ f with
    | .func (.func g) first cap => match E.funcs.get g with
      | some _ => [.enter (.fn g) (first.toList ++ c.args.toList.map ρ ++ cap.toList)]
      | none => match E.exts.get g with
        | some x => ofO (extA x (first.toList ++ c.args.toList.map ρ ++ cap.toList) m)
        | none => []
    | .func (.method name) first _ => match first.toList with
      | .iface t v :: r => match methodA E t name v with
        | some (g, u) => match E.funcs.get g with
          | some _ => [.enter (.fn g) (u :: (r ++ c.args.toList.map ρ))]
          | none => []
        | none => []
      | _ => []
    | .complex .f32 7 i => [.enter (.yld i) (c.args.toList.map ρ)]
    | _ => []
  | .invoke r name => match ρ r with
    | .iface t v => match methodA E t name v with
      | some (g, u) => match E.funcs.get g with
        | some _ => [.enter (.fn g) (u :: c.args.toList.map ρ)]
        | none => []
      | none => []
    | _ => []
  | _ => []
def evOp0 (E : Env) (ρ : Operand → Value) (o : Oper) (m : Mem) : List Out :=
  match o.op with
  | .move x | .assign x => [.val (ρ x)]
  | .pick c a b => match ρ c with
    | .bool t => [.val (cond t (ρ a) (ρ b))]
    | .complex .f32 1 0 => [.val (ρ a), .val (ρ b)]
    | _ => []
  | .alloc t => match E.types.get t with
    | some ti => [.new (newRow t ti.zero) .ptr]
    | none => []
  | .box t x => match E.types.get t, isBad (ρ x) with
    | some _, false => [.new (newRow t (cellsOf (ρ x))) .ptr]
    | _, _ => []
  | .build t parts => valO (buildA E t (parts.toList.map fun p => (p.1, ρ p.2)))
  | .buildSlice t len parts => ofO (buildSliceA E t len (parts.toList.map fun p => (p.1, ρ p.2)))
  | .load t a => match ρ a with
    | .pointer (some a) => valO (loadAt E t a m)
    | _ => []
  | .store t a x => match storeA E t (ρ a) (ρ x) m with
    | some m' => [.eff und m']
    | none => []
  | .nilCheck x => match ρ x with
    | .pointer (some a) => [.val (.pointer (some a))]
    | .func (.func g) a b => [.val (.func (.func g) a b)]
    | .func (.method name) a b => match a.toList with
      | .iface t v :: _ => match methodA E t name v with
        | some _ => [.val (.func (.method name) a b)]
        | none => []
      | _ => []
    | .iface t v => [.val (.iface t v)]
    | .complex .f32 7 i => [.val (yld i)]
    | _ => []
  | .binOp op t x y _ => valO (binopC E op t (isConst x || isConst y) (ρ x) (ρ y))
  | .unOp op _ x => match op, ρ x with
    | .not, .bool b => [.val (.bool !b)]
    | .not, .complex .f32 1 0 => [.val topB]
    | .neg, .int k n => [.val (.int k (k.wrap (0 - n)))]
    | .xor, .int k n => valO (intBin .xor k (if k.signed then -1 else k.max) n)
    | _, _ => []
  | .convert src dst x => ofO (convertA E src dst (ρ x) m)
  | .makeInterface t x => match E.types.get t with
    | some ti => match isIface ti.desc with
      | false => [.val (.iface t (ρ x))]
      | true => []
    | none => []
  | .makeFunc fn first captured => [.val (.func fn (first.map ρ) (captured.map ρ))]
  | .makeMap _ none => [.new (.map [] 0) .map]
  | .makeSlice t l c => ofO (makeSliceA E t (ρ l) (ρ c))
  | .slice t x lo hi mx => sliceA E t (ρ x) (lo.map ρ) (hi.map ρ) (mx.map ρ) m
  | .fieldAddr t x f => valO (fieldAddrA E t (ρ x) f)
  | .field t x f => valO (fieldA E t (ρ x) f)
  | .indexAddr t x i => valO (indexAddrA E t (ρ x) (ρ i))
  | .index t x i => valO (indexA E t (ρ x) (ρ i))
  | .lookup t x k ok => valO (lookupA E t (ρ x) (ρ k) ok m)
  | .mapUpdate t x k v | .insert t x k v => match mapUpdateA E t (ρ x) (ρ k) (ρ v) m with
    | some m' => [.eff und m']
    | none => []
  | .extract t i => match ρ t with
    | .tuple vs => match vs.toList[i]? with
      | some v => [.val v]
      | none => []
    | _ => []
  | .range t x => ofO (rangeA E t (ρ x) m)
  | .next it isString => nextA (ρ it) isString m
  | .entry it => valO (entryA (ρ it) m)
  | .typeAssert x _ asserted ok => valO (assertA E asserted (ρ x) ok)
  | .call c => callA E ρ c m
  | _ => []
mutual
def veq : Nat → Value → Value → Bool
  | 0, _, _ => false
  | n + 1, a, b => match a, b with
    | .bool a, .bool b => a == b
    | .int j a, .int k b => sameKind j k && a == b
    | .string a, .string b => a.data.toList == b.data.toList
    | .pointer none, .pointer none => true
    | .pointer (some ⟨a, b, none⟩), .pointer (some ⟨c, d, none⟩) => Nat.beq a c && Nat.beq b d
    | .slice none a b, .slice none c d => Nat.beq a c && Nat.beq b d
    | .slice (some ⟨i, o, none⟩) a b, .slice (some ⟨j, p, none⟩) c d => Nat.beq i j && Nat.beq o p && Nat.beq a c && Nat.beq b d
    | .map none, .map none => true
    | .map (some a), .map (some b) => Nat.beq a b
    | .func (.func f) a b, .func (.func g) c d => Nat.beq f g && veqL n a.toList c.toList && veqL n b.toList d.toList
    | .nilFunc, .nilFunc => true
    | .nilIface, .nilIface => true
    | .iface t v, .iface u x => Nat.beq t u && veq n v x
    | .agg a, .agg b => veqL n a.toList b.toList
    | .tuple a, .tuple b => veqL n a.toList b.toList
    | .complex .f32 a b, .complex .f32 c d => Nat.beq a c && Nat.beq b d
    | _, _ => false
def veqL : Nat → List Value → List Value → Bool
  | 0, _, _ => false
  | n + 1, l, r => match l, r with
    | [], [] => true
    | a :: l, b :: r => veq n a b && veqL n l r
    | _, _ => false
end
def bcode : BinOp → Nat
  | .add => 10 | .sub => 11 | .mul => 12 | .quo => 13 | .rem => 14 | .and => 15 | .or => 16 | .xor => 17 | .shl => 18 | .shr => 19 | .andNot => 20
  | .eql => 21 | .neq => 22 | .lss => 23 | .leq => 24 | .gtr => 25 | .geq => 26
def ucode : UnOp → Nat
  | .neg => 30 | .xor => 31 | .not => 32 | .plus => 33
def mcode (l h m : Option Operand) : Nat := (match l with | some _ => 1 | none => 0) + (match h with | some _ => 2 | none => 0) + (match m with | some _ => 4 | none => 0)
def headT : List TypeId → Nat
  | [] => 0
  | t :: _ => t
def opKey (o : Oper) : Option (Nat × Nat × Nat) :=
  match o.op with
  | .binOp op t _ _ u => some (bcode op, t, u)
  | .unOp op t _ => some (ucode op, t, 0)
  | .convert a b _ => some (1, a, b)
  | .pick _ _ _ => some (2, 0, 0)
  | .slice t _ l h m => some (3, t, mcode l h m)
  | .load t _ => some (40, t, 0)
  | .indexAddr t _ _ => some (41, t, 0)
  | .index t _ _ => some (42, t, 0)
  | .fieldAddr t _ f => some (43, t, f)
  | .field t _ f => some (44, t, f)
  | .nilCheck _ => some (45, 0, 0)
  | .call c => match c.callee with
    | .builtin .len => some (4, headT c.argTypes.toList, o.type)
    | .builtin .cap => some (5, headT c.argTypes.toList, o.type)
    | .builtin .min => some (6, headT c.argTypes.toList, o.type)
    | .builtin .max => some (7, headT c.argTypes.toList, o.type)
    | _ => none
  | _ => none
def rkeyEq (a b : Nat × Nat × Nat) : Bool := match a, b with | (x, y, z), (u, v, w) => Nat.beq x u && Nat.beq y v && Nat.beq z w
def findRule (k : Nat × Nat × Nat) (args : List Value) : List Rule → Option Value
  | [] => none
  | r :: l => match rkeyEq k r.key with
    | true => match veqL 30 args r.args with
      | true => some r.res
      | false => findRule k args l
    | false => findRule k args l
def evOp (E : Env) (ρ : Operand → Value) (o : Oper) (m : Mem) : List Out :=
  match opKey o with
  | none => evOp0 E ρ o m
  | some k => match findRule k (o.op.operands.toList.map ρ) E.rules with
    | some v => [.val v]
    | none => evOp0 E ρ o m
inductive Ex where | normal | exit (id : Nat) | ret
def cst : Value → Value
  | .bool b => .bool b
  | .int k n => .int k n
  | .string s => .string s
  | .pointer none => .pointer none
  | .slice none a b => .slice none a b
  | .map none => .map none
  | .nilFunc => .nilFunc
  | .nilIface => .nilIface
  | .tuple vs => match vs.toList with | [] => und | _ => bad
  | .agg vs => match allSimple vs.toList with | true => .agg vs | false => bad
  | _ => bad
def evalT (t : T Value) : Operand → Value
  | .tmp i => match t.get i with | some v => v | none => und
  | .const v => cst v
  | .global _ => bad
  | .func f => .func (.func f) #[] #[]
def put (N : Nat) (t : T Value) (d : Option Tmp) (v : Value) : T Value :=
  match d with
  | none => t
  | some i => match Nat.blt i N with
    | true => t.set i v
    | false => t
def wanted (ops : Array Oper) (o : Oper) (t : T Value) : Option Bool :=
  match o.guard with
  | none => some true
  | some (j, want) => match ops.toList[j]? with
    | some p => match p.dst with
      | some d => match t.get d with
        | some (.bool b) => some (b == want)
        | some (.tuple _) => some false
        | _ => none
      | none => none
    | none => none
def bindL {α β : Type} (l : List α) (f : α → List β) : List β :=
  match l with
  | [] => []
  | [x] => f x
  | x :: y :: l => match f x with
    | [] => []
    | a :: as => match bindL (y :: l) f with
      | [] => []
      | b :: bs => (a :: as) ++ (b :: bs)
abbrev CallF := Tgt → List Value → Mem → List (Value × Mem)
def evOps (E : Env) (call : CallF) (N : Nat) (ops : Array Oper) : List Oper → T Value → Mem → List (T Value × Mem)
  | [], t, m => [(t, m)]
  | o :: rest, t, m =>
    match wanted ops o t with
    | none => []
    | some false => evOps E call N ops rest (put N t o.dst und) m
    | some true => bindL (evOp E (evalT t) o m) fun
      | .val v => evOps E call N ops rest (put N t o.dst v) m
      | .new ob mk => evOps E call N ops rest (put N t o.dst (mk.val m.n)) ⟨m.n + 1, m.t.set m.n ob⟩
      | .eff v m => evOps E call N ops rest (put N t o.dst v) m
      | .enter f args => bindL (call f args m) fun r => evOps E call N ops rest (put N t o.dst r.1) r.2
def memFree : Op → Bool
  | .move _ | .assign _ | .pick .. | .alloc _ | .box .. | .build .. | .buildSlice .. | .nilCheck _ | .binOp .. | .unOp .. | .makeInterface .. | .makeFunc .. | .makeMap .. | .makeSlice .. | .fieldAddr .. | .field .. | .indexAddr .. | .index .. | .extract .. | .typeAssert .. => true
  | .call c => match c.callee with
    | .builtin .min | .builtin .max => true
    | _ => false
  | _ => false
def orEdges (acc : List Nat) : List Edge → Nat → Nat
  | [], s => s
  | e :: l, s => orEdges acc l (match Region.binds .any e with | true => s ||| 2 ^ e.on ||| acc.getD e.on 0 | false => s)
def masks : List Oper → List Nat → List Nat
  | [], acc => acc
  | o :: l, acc => masks l (acc ++ [orEdges acc o.after.toList 0])
def looks (ops : Array Oper) (o : Oper) : List Tmp :=
  (o.op.operands.toList.filterMap fun | .tmp t => some t | _ => none) ++
  (match o.guard with
   | some (g, _) => match ops.toList[g]? with
     | some p => p.dst.toList
     | none => []
   | none => [])
def memN (x : Nat) : List Nat → Bool
  | [] => false
  | y :: l => cond (Nat.beq x y) true (memN x l)
def confl (ops : Array Oper) (x y : Oper) : Bool :=
  (match x.dst with
   | some d => memN d (looks ops y) || (match y.dst with | some e => Nat.beq d e | none => false)
   | none => false) ||
  (match y.dst with
   | some d => memN d (looks ops x)
   | none => false)
def conflOK (ops : Array Oper) (B : List Nat) (o : Oper) (b : Nat) : List Oper → Nat → Bool
  | [], _ => true
  | p :: l, i => match confl ops p o with
    | true => cond (Nat.testBit b i) (conflOK ops B o b l (i + 1)) false
    | false => conflOK ops B o b l (i + 1)
def tmpsOK (ops : Array Oper) (B : List Nat) : List Oper → Nat → Bool
  | [], _ => true
  | o :: l, j => cond (conflOK ops B o (B.getD j 0) (ops.toList.take j) 0) (tmpsOK ops B l (j + 1)) false
def edgesOK : List Oper → Nat → Bool
  | [], _ => true
  | o :: l, j => cond (o.after.toList.all fun e => !Region.binds .any e || Nat.blt e.on j) (edgesOK l (j + 1)) false
inductive Cl where
  | skip
  | pure (v : Value)
  | read (v : Value)
  | alloc (o : AObj) (mk : Mk)
  | eff (v : Value) (m : Mem)
structure DS where
  t : T Value
  chain : Mem
  allocs : List (Nat × AObj)
  effs : List (Nat × Mem)
  reads : List (Nat × Oper × T Value × Value)
  mask : Nat
def addAllocs (N0 b : Nat) : List (Nat × AObj) → T AObj → T AObj
  | [], t => t
  | (j, ob) :: l, t => cond (Nat.testBit b j) ((addAllocs N0 b l t).set (N0 + j) ob) (addAllocs N0 b l t)
def addAll (N0 : Nat) : List (Nat × AObj) → T AObj → T AObj
  | [], t => t
  | (j, ob) :: l, t => (addAll N0 l t).set (N0 + j) ob
def dropAllocs (b : Nat) : List (Nat × AObj) → List (Nat × AObj)
  | [] => []
  | (j, ob) :: l => cond (Nat.testBit b j) (dropAllocs b l) ((j, ob) :: dropAllocs b l)
def readsAs (E : Env) (o : Oper) (t : T Value) (v : Value) (m : Mem) : Bool :=
  match evOp E (evalT t) o m with
  | [.val x] => veq 30 x v
  | _ => false
def checkBack (E : Env) (M0 : Mem) (o : Oper) (t : T Value) (v : Value) (b : Nat) : List (Nat × Mem) → Bool
  | [] => readsAs E o t v M0
  | (e, c) :: l => cond (readsAs E o t v c) (cond (Nat.testBit b e) true (checkBack E M0 o t v b l)) false
def checkReads (E : Env) (b : Nat) (m : Mem) : List (Nat × Oper × T Value × Value) → Bool
  | [] => true
  | (j, o, t, v) :: l => cond (cond (Nat.testBit b j) true (readsAs E o t v m)) (checkReads E b m l) false
def allBits (b : Nat) : List (Nat × Mem) → Bool
  | [] => true
  | (e, _) :: l => cond (Nat.testBit b e) (allBits b l) false
def notLive (t : T AObj) (i : Nat) : Bool :=
  match t.get i with
  | some .dead => true
  | none => true
  | _ => false
def freshIds (N0 mask : Nat) (t : T AObj) : Nat → Bool
  | 0 => true
  | n + 1 => cond (cond (Nat.testBit mask n) true (notLive t (N0 + n))) (freshIds N0 mask t n) false
def effOK (E : Env) (n N0 : Nat) (S : DS) (b : Nat) (m : Mem) : Bool :=
  cond (allBits b S.effs) (cond (freshIds N0 (S.mask ||| b) m.t n) (checkReads E b m S.reads) false) false
def clsD (E : Env) (call : CallF) (ops : Array Oper) (n N0 : Nat) (M0 : Mem) (S : DS) (o : Oper) (b : Nat) : Option Cl :=
  match wanted ops o S.t with
  | none => none
  | some false => some .skip
  | some true => match memFree o.op with
    | true => match evOp E (evalT S.t) o M0 with
      | [.val v] => some (.pure v)
      | [.new ob mk] => some (.alloc ob mk)
      | _ => none
    | false => match evOp E (evalT S.t) o ⟨S.chain.n, addAllocs N0 b S.allocs S.chain.t⟩ with
      | [.val v] => match checkBack E M0 o S.t v b S.effs with
        | true => some (.read v)
        | false => none
      | [.eff v m] => match effOK E n N0 S b m with
        | true => some (.eff v m)
        | false => none
      | [.enter f args] => match call f args ⟨S.chain.n, addAllocs N0 b S.allocs S.chain.t⟩ with
        | [(v, m)] => match effOK E n N0 S b m with
          | true => some (.eff v m)
          | false => none
        | _ => none
      | _ => none
def Cl.val (N0 i : Nat) : Cl → Value
  | .skip => und
  | .pure v => v
  | .read v => v
  | .alloc _ mk => mk.val (N0 + i)
  | .eff v _ => v
def applyD (N N0 : Nat) (S : DS) (i : Nat) (o : Oper) (b : Nat) (c : Cl) : DS :=
  match c with
  | .skip => { S with t := put N S.t o.dst und }
  | .pure v => { S with t := put N S.t o.dst v }
  | .read v => { S with t := put N S.t o.dst v, reads := (i, o, S.t, v) :: S.reads }
  | .alloc ob mk => { S with t := put N S.t o.dst (mk.val (N0 + i)), allocs := (i, ob) :: S.allocs }
  | .eff v m => { S with t := put N S.t o.dst v, chain := m, allocs := dropAllocs b S.allocs, effs := (i, m) :: S.effs, mask := S.mask ||| b }
def runD (E : Env) (call : CallF) (ops : Array Oper) (B : List Nat) (n N N0 : Nat) (M0 : Mem) : List Oper → Nat → DS → Option DS
  | [], _, S => some S
  | o :: l, i, S => match clsD E call ops n N0 M0 S o (B.getD i 0) with
    | none => none
    | some c => runD E call ops B n N N0 M0 l (i + 1) (applyD N N0 S i o (B.getD i 0) c)
def evDraw (E : Env) (call : CallF) (N : Nat) (ops : Array Oper) (t : T Value) (m : Mem) : List (T Value × Mem) :=
  match edgesOK ops.toList 0, tmpsOK ops (masks ops.toList []) ops.toList 0 with
  | true, true => match runD E call ops (masks ops.toList []) ops.toList.length N m.n ⟨m.n + ops.toList.length, m.t⟩ ops.toList 0 ⟨t, ⟨m.n + ops.toList.length, m.t⟩, [], [], [], 0⟩ with
    | some S => [(S.t, ⟨S.chain.n, addAll m.n S.allocs S.chain.t⟩)]
    | none => []
  | _, _ => []
def evLoop (round : T Value → Mem → List (Ex × T Value × Mem)) : Nat → T Value → Mem → List (Ex × T Value × Mem)
  | 0, _, _ => []
  | n + 1, t, m => bindL (round t m) fun
    | (.normal, t, m) => evLoop round n t m
    | r => [r]
def both {α : Type} (l r : List α) : List α :=
  match l, r with
  | x :: l, y :: r => (x :: l) ++ (y :: r)
  | _, _ => []
def seqCall (E : Env) (g : Value) (i : Nat) : Option (FuncId × List Value) :=
  match g with
  | .func (.func f) first cap => match E.funcs.get f with
    | some _ => some (f, first.toList ++ [yld i] ++ cap.toList)
    | none => none
  | _ => none
def endA (t : T Value) (i : Nat) (r : Value × Mem) : List (Ex × T Value × Mem) :=
  match r.2.t.get i with
  | some (.loop _ _ _ _ _) => [(.normal, t, ⟨r.2.n, r.2.t.set i .dead⟩)]
  | _ => []
def evRange (E : Env) (call : CallF) (N : Nat) (g : Operand) (ps : Array Tmp) (assign body : Code) (t : T Value) (m : Mem) : List (Ex × T Value × Mem) :=
  match seqCall E (evalT t g) m.n with
  | some (f, args) => bindL (call (.fn f) args ⟨m.n + 1, m.t.set m.n (.loop t N ps assign body)⟩) (endA t m.n)
  | none => []
def evCode (E : Env) (call : CallF) (rd : Bool) (N fuel : Nat) : Code → T Value → Mem → List (Ex × T Value × Mem)
  | .skip, t, m => [(.normal, t, m)]
  | .region _ ops d, t, m => bindL (cond d (evDraw E call N ops t m) (evOps E call N ops ops.toList t m)) fun r => [(.normal, r.1, r.2)]
  | .seq a b, t, m => bindL (evCode E call rd N fuel a t m) fun
    | (.normal, t, m) => evCode E call rd N fuel b t m
    | r => [r]
  | .cond c a b, t, m => match evalT t c with
    | .bool true => evCode E call rd N fuel a t m
    | .bool false => evCode E call rd N fuel b t m
    | .complex .f32 1 0 => both (evCode E call rd N fuel a t m) (evCode E call rd N fuel b t m)
    | _ => []
  | .block id b, t, m => bindL (evCode E call rd N fuel b t m) fun
    | (.exit id', t, m) => [(cond (Nat.beq id id') .normal (.exit id'), t, m)]
    | r => [r]
  | .loop b, t, m => evLoop (evCode E call rd N fuel b) fuel t m
  | .exit id, t, m => [(.exit id, t, m)]
  | .ret, t, m => [(.ret, t, m)]
  | .rangeFunc g ps assign body, t, m => match rd with
    | false => evRange E call N g ps assign body t m
    | true => []
  | _, _, _ => []
def resultsA (E : Env) (t : T Value) (m : Mem) : List ResultVar → Option (List Value)
  | [] => some []
  | .tmp i :: l => match t.get i, resultsA E t m l with
    | some v, some r => some (v :: r)
    | _, _ => none
  | .cell a ty :: l => match t.get a with
    | some (.pointer (some a)) => match loadAt E ty a m, resultsA E t m l with
      | some v, some r => some (v :: r)
      | _, _ => none
    | _ => none
def tupled : List Value → Value
  | [v] => v
  | l => .tuple l.toArray
abbrev Sums := FuncId → List Value → Mem → Option (List (Value × Mem))
def setTs (N : Nat) (t : T Value) : List Tmp → List Value → T Value
  | p :: ps, v :: vs => setTs N (put N t (some p) v) ps vs
  | _, _ => t
def roundEnd (i : Nat) (o : AObj) (x : Ex × T Value × Mem) : List (Value × Mem) :=
  match x with
  | (.normal, _, m2) => [(.bool true, ⟨m2.n, m2.t.set i o⟩)]
  | _ => []
def roundMid (ev : T Value → Mem → List (Ex × T Value × Mem)) (i : Nat) (x : Ex × T Value × Mem) : List (Value × Mem) :=
  match x with
  | (.normal, t1, m1) => match m1.t.get i with
    | some (.loop t N ps as body) => bindL (ev t1 ⟨m1.n, m1.t.set i .dead⟩) (roundEnd i (.loop t N ps as body))
    | _ => []
  | _ => []
def evYield (E : Env) (call : CallF) (fuel i : Nat) (args : List Value) (m : Mem) : List (Value × Mem) :=
  match m.t.get i with
  | some (.loop t N ps assign body) => match Nat.beq args.length ps.size with
    | true => bindL (evCode E call true N fuel assign (setTs N t ps.toList args) m) (roundMid (evCode E call true N fuel body) i)
    | false => []
  | _ => []
def evFn (E : Env) (call : CallF) (fuel : Nat) (f : FuncId) (args : List Value) (m : Mem) : List (Value × Mem) :=
  match E.funcs.get f with
  | none => []
  | some fn => match fn.body with
    | none => []
    | some c => match Nat.ble args.length fn.ntmps with
      | false => []
      | true => bindL (evCode E call false fn.ntmps fuel c (T.ofList args) m) fun
        | (.exit _, _, _) => []
        | (_, t, m) => match resultsA E t m fn.results.toList with
          | some l => [(tupled l, m)]
          | none => []
def evCall (E : Env) (S : Sums) (fuel : Nat) : Nat → CallF
  | 0, _, _, _ => []
  | d + 1, .fn f, args, m => match S f args m with
    | some l => l
    | none => evFn E (evCall E S fuel d) fuel f args m
  | d + 1, .yld i, args, m => evYield E (evCall E S fuel d) fuel i args m
end
end Go.AS
set_option linter.unusedSectionVars false
namespace Go.AS
open Go.RowKit
variable [Rho]
variable {E : Env} {P : Program}
def Xtn.impl : Xtn → Array Value → Sem Value
  | .load k => Extern.Atomic.loadT (.int k)
  | .store => Extern.Atomic.storeT
  | .add k => Extern.Atomic.update (Op.intArith .add) k true
  | .cas k => Extern.Atomic.casT (.int k)
  | .cmps => Extern.BytealgCompare.compare
  | .nop k => fun _ => do mark k; pure Extern.Race.none_
  | .markd k => Extern.Race.marked k
structure EOK (E : Env) (P : Program) : Prop where
  prog : E.P = P
  types : ∀ t ti, E.types.get t = some ti → P.underlying t = some ti.desc ∧ ∃ i z, P.info? t = some i ∧ i.size = ti.size ∧ i.bytes = ti.bytes ∧ i.zero = some z ∧ z.cells.toList = ti.zero ∧ ti.zero.length = ti.size ∧ (∀ v ∈ ti.zero, simple v = true) ∧ (agg? ti.desc = false → ti.zero = [z]) ∧ (agg? ti.desc = true → z = .agg ti.zero.toArray)
  funcs : ∀ f fn, E.funcs.get f = some fn → P.funcs[f]? = some fn ∧ (fn.name == "runtime.NumGoroutine") = false ∧ ∃ c, fn.body = some c
  exts : ∀ f x, E.exts.get f = some x → ∃ fn, P.funcs[f]? = some fn ∧ (fn.name == "runtime.NumGoroutine") = false ∧ fn.body = none ∧ Extern.findNext fn = none ∧ Extern.find fn = some x.impl
  rules : ∀ r ∈ E.rules, ∀ o : Oper, opKey o = some r.key → ∀ (σ : Sg) (ρ' : Operand → Value), VRL σ r.args (o.op.operands.toList.map ρ') → ∀ w0 w, E.Tw w0 → Below w0.heap.size w0 w → ∃ v', (execOp ρ' o).run P w = .ok (.value v') w ∧ VR σ r.res v'
def NF (fz : Nat × Nat) (n : Nat) : Prop := fz.1 = fz.2 ∨ n ≤ fz.1
theorem NF.zero (n : Nat) : NF (0, 0) n := .inl rfl
theorem NF.not {fz : Nat × Nat} {n : Nat} (h : NF fz n) : ∀ o, o < n → ¬ (fz.1 ≤ o ∧ o < fz.2) := fun o ho => by
  rcases h with h | h <;> omega
def OR (E : Env) (σ : Sg) (x : Inf) : AObj → Obj → Prop
  | .row cells n e, .cells C e' fz => e' = e ∧ NF fz C.size ∧ x.sh + x.N = C.size ∧ n ≤ x.N ∧ (∃ ti, E.types.get e = some ti ∧ x.s = ti.size) ∧ ∀ j, j < n → ∃ v v', cells.get j = some v ∧ C[x.sh + j]? = some v' ∧ VR σ v v'
  | .sit s p, .stringIter s' p' => s' = s ∧ p' = p ∧ x.sh = 0
  | .mit none _ _ _, .mapIter none _ _ _ => x.sh = 0
  | .mit (some r) since seen last, .mapIter (some b) since' seen' last' => (∃ y, σ r = some y ∧ y.b = b) ∧ since' = since ∧ seen'.toList = seen ∧ last' = last ∧ x.sh = 0
  | .loop t N ps as body, .loop L => L.state = .ready ∧ L.pending = none ∧ L.params = ps ∧ L.assign = as ∧ L.body = body ∧ L.tmps.size = N ∧ ∀ i, VR σ (tv t i) (L.tmps.getD i undef)
  | .map es clock, .map es' clock' => clock' = clock ∧ es.length = es'.size ∧ ∀ (i : Nat) (a b : MapEntry), es[i]? = some a → es'[i]? = some b → a.born = b.born ∧ VR σ a.key b.key ∧ VR σ a.val b.val
  | _, _ => False
structure MR (E : Env) (w0 : World) (σ : Sg) (m : Mem) (w : World) : Prop where
  below : Below w0.heap.size w0 w
  t0 : E.Tw w0
  obj : ∀ i o, m.t.get i = some o → o.live = true → ∃ x ob, σ i = some x ∧ w0.heap.size ≤ x.b ∧ w.heap[x.b]? = some ob ∧ OR E σ x o ob
  inj : ∀ i j o o' x y, m.t.get i = some o → o.live = true → m.t.get j = some o' → o'.live = true → σ i = some x → σ j = some y → x.b = y.b → i = j
  fresh : ∀ i, m.n ≤ i → σ i = none
def LiveB (σ : Sg) (m : Mem) (b : Nat) : Prop := ∃ i o x, m.t.get i = some o ∧ o.live = true ∧ σ i = some x ∧ x.b = b
structure FG (σ : Sg) (m : Mem) (w : World) (σ' : Sg) (m' : Mem) (w' : World) : Prop where
  ext : Ext σ σ'
  size : w.heap.size ≤ w'.heap.size
  frame : ∀ b, b < w.heap.size → ¬ LiveB σ m b → w'.heap[b]? = w.heap[b]?
  grow : ∀ b, LiveB σ' m' b → LiveB σ m b ∨ w.heap.size ≤ b
  n : m.n ≤ m'.n
  old : ∀ i, i < m.n → σ' i = σ i
theorem FG.refl (σ : Sg) (m : Mem) (w : World) : FG σ m w σ m w := ⟨Ext.refl σ, Nat.le_refl _, fun _ _ _ => rfl, fun _ h => .inl h, Nat.le_refl _, fun _ _ => rfl⟩
theorem FG.trans {σ σ1 σ2 : Sg} {m m1 m2 : Mem} {w w1 w2 : World} (h : FG σ m w σ1 m1 w1) (k : FG σ1 m1 w1 σ2 m2 w2) : FG σ m w σ2 m2 w2 where
  ext := h.ext.trans k.ext
  size := Nat.le_trans h.size k.size
  frame := fun b hb hl => by
    have h1 := h.frame b hb hl
    rw [← h1]
    refine k.frame b (Nat.lt_of_lt_of_le hb h.size) (fun hl1 => ?_)
    rcases h.grow b hl1 with h2 | h2
    · exact hl h2
    · omega
  grow := fun b hl => by
    rcases k.grow b hl with h1 | h1
    · exact h.grow b h1
    · exact .inr (Nat.le_trans h.size h1)
  n := Nat.le_trans h.n k.n
  old := fun i hi => (k.old i (Nat.lt_of_lt_of_le hi h.n)).trans (h.old i hi)
theorem OR.mono {σ σ' : Sg} (he : Ext σ σ') {x : Inf} {o : AObj} {ob : Obj} (h : OR E σ x o ob) : OR E σ' x o ob := by
  cases o with
  | row cells n e =>
    cases ob with
    | cells C e' fz =>
      obtain ⟨h1, h2, h3, h4, h5, h6⟩ := h
      exact ⟨h1, h2, h3, h4, h5, fun j hj => let ⟨v, v', a, b, c⟩ := h6 j hj; ⟨v, v', a, b, c.mono he⟩⟩
    | _ => exact h.elim
  | map es clock =>
    cases ob with
    | map es' clock' =>
      obtain ⟨h1, h2, h3⟩ := h
      exact ⟨h1, h2, fun i a b ha hb => let ⟨p, q, r⟩ := h3 i a b ha hb; ⟨p, q.mono he, r.mono he⟩⟩
    | _ => exact h.elim
  | sit s p => cases ob <;> first | exact h | exact h.elim
  | mit r a b c =>
    cases r with
    | none => cases ob with
      | mapIter r' _ _ _ => cases r' <;> first | exact h | exact h.elim
      | _ => exact h.elim
    | some r => cases ob with
      | mapIter r' _ _ _ =>
        cases r' with
        | none => exact h.elim
        | some b' =>
          obtain ⟨⟨y, h1, h2⟩, h3⟩ := h
          exact ⟨⟨y, he _ _ h1, h2⟩, h3⟩
      | _ => exact h.elim
  | loop t N ps as body =>
    cases ob with
    | loop L =>
      obtain ⟨h1, h2, h3, h4, h5, h6, h7⟩ := h
      exact ⟨h1, h2, h3, h4, h5, h6, fun i => (h7 i).mono he⟩
    | _ => exact h.elim
  | dead => cases ob <;> exact h.elim
theorem MR.row {w0 : World} {σ : Sg} {m : Mem} {w : World} (h : MR E w0 σ m w) {i : Nat} {cells : T Value} {n : Nat} {e : TypeId} (hr : m.t.get i = some (.row cells n e)) {x : Inf} (hx : σ i = some x) :
    ∃ C fz, w0.heap.size ≤ x.b ∧ w.heap[x.b]? = some (.cells C e fz) ∧ NF fz C.size ∧ x.sh + x.N = C.size ∧ n ≤ x.N ∧ (∃ ti, E.types.get e = some ti ∧ x.s = ti.size) ∧ ∀ j, j < n → ∃ v v', cells.get j = some v ∧ C[x.sh + j]? = some v' ∧ VR σ v v' := by
  obtain ⟨y, ob, hy, hB, hob, hor⟩ := h.obj i _ hr rfl
  obtain rfl : y = x := by rw [hx] at hy; exact (Option.some.inj hy).symm
  cases ob with
  | cells C e' fz =>
    obtain ⟨rfl, hf, h3, h4, h5, h6⟩ := hor
    exact ⟨C, fz, hB, hob, hf, h3, h4, h5, h6⟩
  | _ => exact hor.elim
theorem cell?_of {w : World} {b o : Nat} {C : Array Value} {e : TypeId} {fz : Nat × Nat} (h : w.heap[b]? = some (.cells C e fz)) : w.cell? ⟨b, o, none⟩ = C[o]? := by
  simp [World.cell?, h]
theorem frozen?_of {w : World} {b o : Nat} {C : Array Value} {e : TypeId} {fz : Nat × Nat} (h : w.heap[b]? = some (.cells C e fz)) (hf : NF fz C.size) (ho : o < C.size) : w.frozen? ⟨b, o, none⟩ = false := by
  simp only [World.frozen?, h]
  have := hf.not o ho
  rw [Bool.and_eq_false_iff]
  by_cases h1 : fz.1 ≤ o
  · exact .inr (by simpa using fun h2 => this ⟨h1, h2⟩)
  · exact .inl (by simpa using h1)
theorem addr_add (b o n : Nat) : (⟨b, o, none⟩ : Addr).add n = ⟨b, o + n, none⟩ := Addr.add_lit b o n
theorem run_cells {w0 : World} {σ : Sg} {m : Mem} {w : World} (h : MR E w0 σ m w) {i : Nat} {cells : T Value} {n : Nat} {e : TypeId} (hr : m.t.get i = some (.row cells n e)) {x : Inf} (hx : σ i = some x)
    {k o : Nat} (hk : o + k ≤ n) {l : List Value} (hl : cells.getL k o = some l) :
    ∃ l', (loadCells ⟨x.b, x.sh + o, none⟩ k).run P w = .ok l'.toArray w ∧ VRL σ l l' ∧ l'.length = k := by
  obtain ⟨C, fz, hB, hob, hf, hN, hn, _, hc⟩ := h.row hr hx
  obtain ⟨h1, h2⟩ := T.getL_spec hl
  have hlen : ((C.toList.drop (x.sh + o)).take k).length = k := by simp; omega
  refine ⟨(C.toList.drop (x.sh + o)).take k, ?_, ?_, hlen⟩
  · have := run_loadCells_list (P := P) (w := w) ⟨x.b, x.sh + o, none⟩ ((C.toList.drop (x.sh + o)).take k) (fun j v hj => by
      rw [addr_add, cell?_of hob]
      rw [List.getElem?_take, List.getElem?_drop] at hj
      split at hj
      · simpa using hj
      · cases hj)
    rw [hlen] at this
    exact this
  · refine VRL.of_getElem? (by rw [h1, hlen]) (fun j v v' hv hv' => ?_)
    have hj : j < k := by
      have := (List.getElem?_eq_some_iff.1 hv).1; omega
    obtain ⟨u, u', hu, hu', hr⟩ := hc (o + j) (by omega)
    rw [h2 j hj, hv] at hu
    rw [List.getElem?_take, if_pos hj, List.getElem?_drop] at hv'
    have : C[x.sh + (o + j)]? = some v' := by rw [← hv', ← Array.getElem?_toList]; congr 1; omega
    rw [hu'] at this
    cases hu; cases this
    exact hr
theorem isAgg_run {t : TypeId} {d : TypeDesc} (h : P.underlying t = some d) (w : World) : (isAgg t).run P w = .ok (agg? d) w := by
  cases d <;> simp [isAgg, run_underlying h, agg?]
theorem sizeOf_run {t : TypeId} {i : TypeInfo} (h : P.info? t = some i) (w : World) : (sizeOf t).run P w = .ok i.size w := by
  simp [sizeOf, typeInfo, h]
theorem typeInfo_run {t : TypeId} {i : TypeInfo} (h : P.info? t = some i) (w : World) : (typeInfo t).run P w = .ok i w := by
  simp [typeInfo, h]
theorem zeroValue_run {t : TypeId} {i : TypeInfo} {z : Value} (h : P.info? t = some i) (hz : i.zero = some z) (w : World) : (zeroValue t).run P w = .ok z w := by
  simp [zeroValue, typeInfo, h, hz]
theorem loadAt_sound (hE : EOK E P) {w0 : World} {σ : Sg} {m : Mem} {w : World} (h : MR E w0 σ m w) {t : TypeId} {a : Addr} {v p' : Value} (hl : loadAt E t a m = some v)
    (hp : VR σ (.pointer (some a)) p') : ∃ v', (Instr.loadAt t p').run P w = .ok v' w ∧ VR σ v v' := by
  unfold loadAt at hl
  split at hl
  · rename_i ti cells n e hti hrow
    obtain ⟨hu, i, z, hi, hsz, _, _, _, _, _, _⟩ := hE.types t ti hti
    cases hp with
    | refl hs => simp [simple] at hs
    | ptr hx =>
      rename_i i' o x
      split at hl
      · rename_i hle
        have hle' := Nat.le_of_ble_eq_true hle
        split at hl
        · rename_i hag
          split at hl
          · rename_i l hgl
            cases hl
            obtain ⟨l', hrun, hv, _⟩ := run_cells (P := P) h hrow hx hle' hgl
            refine ⟨.agg l'.toArray, ?_, .agg_of (by simpa using hv)⟩
            simp [Instr.loadAt, Instr.sureAddr, loadVar, isAgg_run hu, hag, sizeOf_run hi, hsz, hrun]
          · cases hl
        · rename_i hag
          split at hl
          · rename_i hs1
            obtain ⟨C, fz, hB, hob, hf, hN, hn, _, hc⟩ := h.row hrow hx
            obtain ⟨u, u', hu1, hu2, hr⟩ := hc o (by simp only [hs1] at hle'; omega)
            simp only at hl
            rw [hl] at hu1
            cases hu1
            refine ⟨u', ?_, hr⟩
            simp [Instr.loadAt, Instr.sureAddr, loadVar, isAgg_run hu, hag, cell?_of hob, hu2]
          · cases hl
      · cases hl
  · cases hl
theorem World.set_eq {w : World} {b : Nat} {C : Array Value} {e : TypeId} {fz : Nat × Nat} (h : w.heap[b]? = some (.cells C e fz)) (o : Nat) (v : Value) :
    (w.setCell ⟨b, o, none⟩ v).heap[b]? = some (.cells (C.setIfInBounds o v) e fz) := by
  simp [World.setCell, Array.getElem?_modify, h]
theorem run_storeCells {b : Nat} {e : TypeId} {fz : Nat × Nat} : ∀ (l : List Value) (k : Nat) (w : World) (C : Array Value) (o : Nat), w.heap[b]? = some (.cells C e fz) → NF fz C.size → o + k + l.length ≤ C.size → (∀ v ∈ l, v.oneCell' = true) →
    ∃ w' C', (storeCells ⟨b, o, none⟩ l k).run P w = .ok () w' ∧ w'.heap[b]? = some (.cells C' e fz) ∧ C'.size = C.size ∧ w'.heap.size = w.heap.size ∧ (∀ i, i ≠ b → w'.heap[i]? = w.heap[i]?) ∧
      w'.os = w.os ∧ w'.tape = w.tape ∧ w'.output = w.output ∧ ∀ j, C'[j]? = if o + k ≤ j ∧ j < o + k + l.length then l[j - (o + k)]? else C[j]? := by
  intro l
  induction l with
  | nil => intro k w C o h _ _ _; exact ⟨w, C, rfl, h, rfl, rfl, fun _ _ => rfl, rfl, rfl, rfl, fun j => by rw [if_neg (by simp)]⟩
  | cons v l ih =>
    intro k w C o h hf hb ho
    simp only [List.length_cons] at hb
    obtain ⟨w', C', h1, h2, h3, h4, h5, h6, h7, h8, h9⟩ := ih (k + 1) (w.setCell ⟨b, o + k, none⟩ v) (C.setIfInBounds (o + k) v) o (World.set_eq h _ _) (by simpa using hf) (by simp; omega) (fun u hu => ho u (by simp [hu]))
    refine ⟨w', C', ?_, h2, by simpa using h3, by rw [h4]; exact World.size_setCell .., fun i hi => ?_, by rw [h6]; rfl, by rw [h7]; rfl, by rw [h8]; rfl, fun j => ?_⟩
    · have hc : w.cell? ⟨b, o + k, none⟩ = some C[o + k] := by rw [cell?_of h]; exact Array.getElem?_eq_getElem (by omega)
      simp only [storeCells]
      rw [Sem.run_bind, addr_add, run_store P w _ v .plain (ho v (by simp)), hc]
      simp only [frozen?_of h hf (show o + k < C.size by omega)]
      simpa using h1
    · rw [h5 i hi]; exact Below.heap_setCell _ _ _ _ hi
    · rw [h9 j]
      by_cases h10 : o + (k + 1) ≤ j ∧ j < o + (k + 1) + l.length
      · rw [if_pos h10, if_pos (by simp; omega)]
        rw [show j - (o + k) = (j - (o + (k + 1))) + 1 from by omega, List.getElem?_cons_succ]
      · rw [if_neg h10, Array.getElem?_setIfInBounds]
        by_cases h11 : o + k = j
        · rw [if_pos h11, if_pos (by omega), if_pos (by simp; omega)]
          simp [h11]
        · rw [if_neg h11, if_neg (by simp; omega)]
theorem allOne_spec {l : List Value} (h : allOne l = true) : ∀ v ∈ l, one v = true := by
  induction l with
  | nil => intro v hv; cases hv
  | cons x l ih =>
    intro v hv
    simp only [allOne] at h
    cases hx : one x with
    | false => rw [hx] at h; cases h
    | true =>
      rw [hx] at h
      cases hv with
      | head => exact hx
      | tail _ hm => exact ih h v hm
theorem VRL.ones {σ : Sg} {l l' : List Value} (h : VRL σ l l') (ho : allOne l = true) : ∀ v ∈ l', v.oneCell' = true := by
  intro v hv
  obtain ⟨i, hi, rfl⟩ := List.mem_iff_getElem.1 hv
  have hi' : i < l.length := by rw [h.1]; exact hi
  have := h.2 i hi'
  rw [getD_of hi', getD_of hi] at this
  exact this.one (allOne_spec ho _ (List.getElem_mem hi'))
theorem LiveB.of {σ : Sg} {m : Mem} {i : Nat} {o : AObj} {x : Inf} (h : m.t.get i = some o) (hl : o.live = true) (hx : σ i = some x) : LiveB σ m x.b := ⟨i, o, x, h, hl, hx, rfl⟩
theorem MR.turn {w0 : World} {σ : Sg} {m : Mem} {w w' : World} (h : MR E w0 σ m w) {i : Nat} {o o' : AObj} {x : Inf} (hr : m.t.get i = some o) (hlo : o.live = true) (hx : σ i = some x) (_hlo' : o'.live = true)
    (hsz : w'.heap.size = w.heap.size) (hoth : ∀ k, k ≠ x.b → w'.heap[k]? = w.heap[k]?) (hos : w'.os = w.os) (ht : w'.tape = w.tape) (hout : w'.output = w.output) {ob : Obj} (hob : w'.heap[x.b]? = some ob)
    (hor : OR E σ x o' ob) : MR E w0 σ ⟨m.n, m.t.set i o'⟩ w' ∧ FG σ m w σ ⟨m.n, m.t.set i o'⟩ w' := by
  obtain ⟨y, ob0, hy, hB, hob0, _⟩ := h.obj i o hr hlo
  obtain rfl : y = x := by rw [hx] at hy; exact (Option.some.inj hy).symm
  have hlive : ∀ b, LiveB σ ⟨m.n, m.t.set i o'⟩ b → LiveB σ m b := by
    rintro b ⟨j, p, z, hj, hp, hz, rfl⟩
    by_cases e : i = j
    · subst e; exact ⟨i, o, z, hr, hlo, hz, rfl⟩
    · rw [T.get_set_ne _ _ e] at hj; exact ⟨j, p, z, hj, hp, hz, rfl⟩
  refine ⟨⟨?_, h.t0, ?_, ?_, h.fresh⟩, ⟨Ext.refl σ, by omega, ?_, fun b hb => .inl (hlive b hb), Nat.le_refl _, fun _ _ => rfl⟩⟩
  · refine h.below.trans ⟨hos, ht, hout, by omega, fun k hk => hoth k (by omega)⟩
  · intro j p hj hp
    by_cases e : i = j
    · subst e
      rw [T.get_set_same] at hj
      cases hj
      exact ⟨y, ob, hx, hB, hob, hor⟩
    · rw [T.get_set_ne _ _ e] at hj
      obtain ⟨z, oz, hz, hBz, hoz, horz⟩ := h.obj j p hj hp
      refine ⟨z, oz, hz, hBz, ?_, horz⟩
      rw [hoth z.b (fun e2 => e (h.inj i j o p y z hr hlo hj hp hx hz e2.symm))]
      exact hoz
  · intro j k p q z z' hj hp hk hq hz hz' e
    have fix : ∀ {j p}, (m.t.set i o').get j = some p → p.live = true → ∃ p', m.t.get j = some p' ∧ p'.live = true := by
      intro j p hj hp
      by_cases e : i = j
      · subst e; exact ⟨o, hr, hlo⟩
      · rw [T.get_set_ne _ _ e] at hj; exact ⟨p, hj, hp⟩
    obtain ⟨p', h1, h2⟩ := fix hj hp
    obtain ⟨q', h3, h4⟩ := fix hk hq
    exact h.inj j k p' q' z z' h1 h2 h3 h4 hz hz' e
  · intro b hb hl
    refine hoth b (fun e => hl ?_)
    subst e
    exact LiveB.of hr hlo hx
theorem storeL_sound {w0 : World} {σ : Sg} {m m' : Mem} {w : World} (h : MR E w0 σ m w) {a : Addr} {l l' : List Value} (hs : storeL a l m = some m') {p' : Value} (hp : VR σ (.pointer (some a)) p') (hl : VRL σ l l') :
    ∃ a' w', p' = .pointer (some a') ∧ a'.spot = none ∧ (storeCells a' l').run P w = .ok () w' ∧ MR E w0 σ m' w' ∧ FG σ m w σ m' w' := by
  unfold storeL at hs
  split at hs
  · rename_i cells n e hrow
    split at hs
    · rename_i hle hone
      cases hs
      have hle' := Nat.le_of_ble_eq_true hle
      cases hp with
      | refl hs => simp [simple] at hs
      | ptr hx =>
        rename_i i o x
        simp only at hrow hle'
        obtain ⟨C, fz, hB, hob, hf, hN, hn, hti, hc⟩ := h.row hrow hx
        obtain ⟨w', C', h1, h2, h3, h4, h5, h6, h7, h8, h9⟩ := run_storeCells (P := P) l' 0 w C (x.sh + o) hob hf (by rw [← hl.1]; omega) (hl.ones hone)
        refine ⟨_, w', rfl, rfl, h1, ?_⟩
        refine h.turn hrow rfl hx rfl h4 h5 h6 h7 h8 h2 ⟨rfl, by rw [h3]; exact hf, by rw [hN, h3], hn, hti, fun j hj => ?_⟩
        rw [T.get_setL, h9 (x.sh + j)]
        by_cases h10 : o ≤ j ∧ j < o + l.length
        · rw [if_pos h10, if_pos (by rw [← hl.1]; omega)]
          have hj1 : j - o < l.length := by omega
          obtain ⟨v', hv', hr⟩ := hl.getElem? (List.getElem?_eq_getElem hj1)
          refine ⟨_, v', List.getElem?_eq_getElem hj1, ?_, hr⟩
          rw [show x.sh + j - (x.sh + o + 0) = j - o from by omega]; exact hv'
        · rw [if_neg h10, if_neg (by rw [← hl.1]; omega)]
          exact hc j hj
    · cases hs
  · cases hs
theorem heap_alloc_last (w : World) (o : Obj) : (w.alloc o).heap[w.heap.size]? = some o := by
  show (w.heap.push o)[w.heap.size]? = some o
  exact Array.getElem?_push_size
theorem MR.new {w0 : World} {σ : Sg} {m : Mem} {w : World} (h : MR E w0 σ m w) {id : Nat} (hid : σ id = none) {n' : Nat} (hn : m.n ≤ n') (hidn : id < n') {o : AObj} {ob : Obj} {x : Inf} (hx : x.b = w.heap.size)
    (hor : OR E σ x o ob) : MR E w0 (fun j => if j = id then some x else σ j) ⟨n', m.t.set id o⟩ (w.alloc ob) ∧ (m.n ≤ id → FG σ m w (fun j => if j = id then some x else σ j) ⟨n', m.t.set id o⟩ (w.alloc ob)) := by
  have hext : Ext σ (fun j => if j = id then some x else σ j) := fun i y hy => by
    have : i ≠ id := fun e => by rw [e, hid] at hy; cases hy
    simp [this, hy]
  have hlive : ∀ b, LiveB (fun j => if j = id then some x else σ j) ⟨n', m.t.set id o⟩ b → LiveB σ m b ∨ w.heap.size ≤ b := by
    rintro b ⟨j, p, z, hj, hp, hz, rfl⟩
    by_cases e : id = j
    · subst e; simp at hz; subst hz; exact .inr (by omega)
    · rw [T.get_set_ne _ _ e] at hj
      have e' : j ≠ id := fun h => e h.symm
      simp only [e', if_false] at hz
      exact .inl ⟨j, p, z, hj, hp, hz, rfl⟩
  have hB : w0.heap.size ≤ w.heap.size := h.below.size
  refine ⟨⟨h.below.alloc hB ob, h.t0, ?_, ?_, ?_⟩, fun hid3 => ⟨hext, by simp, ?_, hlive, hn, fun i hi => if_neg (by omega)⟩⟩
  · intro j p hj hp
    by_cases e : id = j
    · subst e
      rw [T.get_set_same] at hj
      cases hj
      exact ⟨x, ob, by simp, by omega, by rw [hx]; exact heap_alloc_last w ob, hor.mono hext⟩
    · rw [T.get_set_ne _ _ e] at hj
      obtain ⟨z, oz, hz, hBz, hoz, horz⟩ := h.obj j p hj hp
      refine ⟨z, oz, hext _ _ hz, hBz, ?_, horz.mono hext⟩
      have hlt : z.b < w.heap.size := by
        rcases Nat.lt_or_ge z.b w.heap.size with h1 | h1
        · exact h1
        · rw [Array.getElem?_eq_none h1] at hoz; cases hoz
      rw [Below.heap_alloc w ob z.b hlt]; exact hoz
  · have hb : ∀ {j p z}, m.t.get j = some p → p.live = true → σ j = some z → z.b < w.heap.size := by
      intro j p z hj hp hz
      obtain ⟨z', oz, hz', _, hoz, _⟩ := h.obj j p hj hp
      obtain rfl : z' = z := by rw [hz] at hz'; exact (Option.some.inj hz').symm
      rcases Nat.lt_or_ge z'.b w.heap.size with h1 | h1
      · exact h1
      · rw [Array.getElem?_eq_none h1] at hoz; cases hoz
    intro j k p q z z' hj hp hk hq hz hz' e
    by_cases e1 : id = j <;> by_cases e2 : id = k
    · omega
    · subst e1
      rw [T.get_set_ne _ _ e2] at hk
      have e2' : k ≠ id := fun h => e2 h.symm
      simp only [e2', if_false, if_true] at hz hz'
      have := hb hk hq hz'
      simp at hz; subst hz; omega
    · subst e2
      rw [T.get_set_ne _ _ e1] at hj
      have e1' : j ≠ id := fun h => e1 h.symm
      simp only [e1', if_false, if_true] at hz hz'
      have := hb hj hp hz
      simp at hz'; subst hz'; omega
    · rw [T.get_set_ne _ _ e1] at hj
      rw [T.get_set_ne _ _ e2] at hk
      have e1' : j ≠ id := fun h => e1 h.symm
      have e2' : k ≠ id := fun h => e2 h.symm
      simp only [e1', e2', if_false] at hz hz'
      exact h.inj j k p q z z' hj hp hk hq hz hz' e
  · intro i hi
    have h1 : i ≠ id := by have : n' ≤ i := hi; omega
    simp only [h1, if_false]
    exact h.fresh i (Nat.le_trans hn hi)
  · intro b hb _
    exact Below.heap_alloc w ob b hb
theorem MR.drop {w0 : World} {σ : Sg} {m : Mem} {w : World} (h : MR E w0 σ m w) (i : Nat) : MR E w0 σ ⟨m.n, m.t.set i .dead⟩ w := by
  have key : ∀ {j p}, (m.t.set i .dead).get j = some p → p.live = true → m.t.get j = some p := by
    intro j p hj hp
    by_cases e : i = j
    · subst e; rw [T.get_set_same] at hj; cases hj; cases hp
    · rwa [T.get_set_ne _ _ e] at hj
  exact ⟨h.below, h.t0, fun j p hj hp => h.obj j p (key hj hp) hp, fun j k p q z z' hj hp hk hq => h.inj j k p q z z' (key hj hp) hp (key hk hq) hq, h.fresh⟩
theorem MR.drew {w0 : World} {σ : Sg} {m : Mem} {w : World} (h : MR E w0 σ m w) : MR E w0 σ m w.drew := ⟨h.below.drew, h.t0, h.obj, h.inj, h.fresh⟩
theorem OR.newRow {σ : Sg} {w : World} {e : TypeId} {ti : TI} (hti : E.types.get e = some ti) {l l' : List Value} (hl : VRL σ l l') :
    OR E σ ⟨w.heap.size, 0, l.length, ti.size⟩ (newRow e l) (.cells l'.toArray e) :=
  ⟨rfl, NF.zero _, by simp [hl.1], Nat.le_refl _, ⟨ti, hti, rfl⟩, fun j hj => by
    obtain ⟨v', h1, h2⟩ := hl.getElem? (List.getElem?_eq_getElem hj)
    exact ⟨_, v', by rw [T.get_ofList]; exact List.getElem?_eq_getElem hj, by simpa using h1, h2⟩⟩
theorem VRL.simple {σ : Sg} {l : List Value} (h : ∀ v ∈ l, AS.simple v = true) : VRL σ l l :=
  ⟨rfl, fun i hi => by rw [getD_of hi]; exact .refl (h _ (List.getElem_mem hi))⟩
end Go.AS
set_option linter.unusedSectionVars false
namespace Go.AS
open Go.RowKit
variable [Rho]
variable {E : Env} {P : Program} {w0 : World} {σ : Sg} {m : Mem} {w : World}
def nextVal : Next → Option Value
  | .value v => some v
  | .skip => some und
  | _ => none
def OutOK (E : Env) (P : Program) (w0 : World) (σ : Sg) (m : Mem) (w : World) (s : Sem Next) : Out → Prop
  | .val v => ∃ nx v', s.run P w = .ok nx w ∧ nextVal nx = some v' ∧ VR σ v v'
  | .new o mk => ∃ v' ob x, s.run P w = .ok (.value v') (w.alloc ob) ∧ x.b = w.heap.size ∧ o.live = true ∧ OR E σ x o ob ∧ ∀ (σ' : Sg) id, σ' id = some x → VR σ' (mk.val id) v'
  | .eff v m' => ∃ nx v' w' σ', s.run P w = .ok nx w' ∧ nextVal nx = some v' ∧ VR σ' v v' ∧ MR E w0 σ' m' w' ∧ FG σ m w σ' m' w'
  | .enter (.fn f) args => ∃ args', s.run P w = .ok (.enter f args') w ∧ VRL σ args args'.toList
  | .enter (.yld i) args => ∃ args' x, σ i = some x ∧ s.run P w = (Instr.yield x.b args').run P w ∧ VRL σ args args'.toList
theorem out_val {s : Sem Next} {s0 : Sem Value} {v v' : Value} (hs : s = (do pure (.value (← s0)))) (hr : s0.run P w = .ok v' w) (h : VR σ v v') : OutOK E P w0 σ m w s (.val v) :=
  ⟨.value v', v', by rw [hs]; simp [hr], rfl, h⟩
theorem out_eff {s : Sem Next} {s0 : Sem Value} {v v' : Value} {w' : World} {σ' : Sg} {m' : Mem} (hs : s = (do pure (.value (← s0)))) (hr : s0.run P w = .ok v' w') (h : VR σ' v v') (hm : MR E w0 σ' m' w') (hf : FG σ m w σ' m' w') :
    OutOK E P w0 σ m w s (.eff v m') := ⟨.value v', v', w', σ', by rw [hs]; simp [hr], rfl, h, hm, hf⟩
theorem out_new {s : Sem Next} {s0 : Sem Value} {v' : Value} {o : AObj} {mk : Mk} {ob : Obj} {x : Inf} (hs : s = (do pure (.value (← s0)))) (hr : s0.run P w = .ok v' (w.alloc ob)) (hx : x.b = w.heap.size) (hl : o.live = true) (ho : OR E σ x o ob)
    (h : ∀ (σ' : Sg) id, σ' id = some x → VR σ' (mk.val id) v') : OutOK E P w0 σ m w s (.new o mk) := ⟨v', ob, x, by rw [hs]; simp [hr], hx, hl, ho, h⟩
theorem kcode_inj {j k : IntKind} (h : sameKind j k = true) : j = k := by cases j <;> cases k <;> first | rfl | cases h
theorem kind_kcode (k : IntKind) : kind? (kcode k) = k := by cases k <;> rfl
theorem intBin_sound {op : BinOp} {k : IntKind} {a b : Int} {v : Value} (hs : isShift op = false) (h : intBin op k a b = some v) (t : TypeId) (w : World) : (binOp op t (.int k a) (.int k b)).run P w = .ok v w ∧ simple v = true := by
  cases op <;> simp only [intBin, Option.some.injEq] at h <;> first
    | (cases hs; done)
    | (cases h; done)
    | (subst h; exact ⟨by simp [binOp, Op.intArith, Op.intBits, Op.intCmp], rfl⟩)
    | (split at h
       · cases h
       · rename_i hb; cases h; exact ⟨by simp [binOp, Op.intDiv, hb], rfl⟩)
theorem shift_sound {op : BinOp} {k j : IntKind} {a b : Int} {v : Value} (h : shift op k a b = some v) (t : TypeId) (w : World) : (binOp op t (.int k a) (.int j b)).run P w = .ok v w ∧ simple v = true := by
  cases op <;> simp only [shift] at h <;> first
    | (cases h; done)
    | (split at h
       · cases h
       · rename_i hb; cases h; exact ⟨by simp [binOp, Op.shift, hb], rfl⟩)
theorem toList_bytes (s : ByteArray) : s.toList = s.data.toList := ByteArray.toList_eq s
theorem strOp_sound {op : BinOp} {a b : ByteArray} {v : Value} (h : strOp op a.data.toList b.data.toList = some v) (t : TypeId) (w : World) : (binOp op t (.string a) (.string b)).run P w = .ok v w ∧ simple v = true := by
  have e : ∀ {op}, binOp op t (.string a) (.string b) = Op.stringOp op a b := by intro op; cases op <;> rfl
  rw [e]
  cases op <;> simp only [strOp, Option.some.injEq] at h <;> first
    | (cases h; done)
    | (subst h; exact ⟨by simp [Op.stringOp, toList_bytes], rfl⟩)
    | skip
  split at h
  · rename_i hle
    have := Nat.le_of_ble_eq_true hle
    cases h
    refine ⟨?_, rfl⟩
    have hsz : ¬ ((a.size + b.size : Nat) : Int) > IntKind.i64.max := by
      have h1 : a.size = a.data.toList.length := by cases a; rfl
      have h2 : b.size = b.data.toList.length := by cases b; rfl
      rw [h1, h2, IntKind.max_i64]; omega
    have happ : a ++ b = ⟨(a.data.toList ++ b.data.toList).toArray⟩ := by
      apply ByteArray.ext
      rw [ByteArray.data_append]
      simp
    simp only [Op.stringOp, hsz, if_false, Sem.run_pure, happ]
  · cases h
theorem partA_sound (hE : EOK E P) {t : TypeId} {c c' : Array Value} {off : Nat} {v : Value} (h : partA E t c off = some v) (hc : VRL σ c.toList c'.toList) (w : World) : ∃ v', (part t c' off).run P w = .ok v' w ∧ VR σ v v' := by
  unfold partA at h
  split at h
  · rename_i ti hti
    obtain ⟨hu, i, z, hi, hsz, _⟩ := hE.types t ti hti
    split at h
    · rename_i hag
      cases h
      refine ⟨.agg (c'.extract off (off + ti.size)), by simp [part, isAgg_run hu, hag, sizeOf_run hi, hsz], .agg_of ?_⟩
      have hlen := hc.1
      refine VRL.of_getElem? (by simp at hlen ⊢; omega) (fun i v v' hv hv' => ?_)
      simp only [Array.toList_extract, List.extract_eq_take_drop, List.getElem?_take, List.getElem?_drop] at hv hv'
      split at hv
      · rename_i hlt
        rw [if_pos hlt] at hv'
        obtain ⟨u, hu1, hu2⟩ := hc.getElem? hv
        rw [hv'] at hu1; cases hu1
        exact hu2
      · cases hv
    · rename_i hag
      have hv : c.toList[off]? = some v := by simpa using h
      obtain ⟨u, hu1, hu2⟩ := hc.getElem? hv
      have hu3 : c'[off]? = some u := by simpa using hu1
      exact ⟨u, by simp [part, isAgg_run hu, hag, hu3], hu2⟩
  · cases h
theorem VR.agg_inv {c : Array Value} {v : Value} (h : VR σ (.agg c) v) : ∃ c', v = .agg c' ∧ VRL σ c.toList c'.toList := by
  cases h with
  | refl h => simp [AS.simple] at h
  | agg hc hc' => exact ⟨_, rfl, VR.arr hc hc'⟩
theorem VR.tuple_inv {c : Array Value} {v : Value} (h : VR σ (.tuple c) v) : ∃ c', v = .tuple c' ∧ VRL σ c.toList c'.toList := by
  cases h with
  | refl h => simp [AS.simple] at h
  | tuple hc hc' => exact ⟨_, rfl, VR.arr hc hc'⟩
theorem VR.iface_inv {t : TypeId} {u v : Value} (h : VR σ (.iface t u) v) : ∃ u', v = .iface t u' ∧ VR σ u u' := by
  cases h with
  | refl h => simp [AS.simple] at h
  | iface h => exact ⟨_, rfl, h⟩
theorem VR.simple_inv {u v : Value} (hs : AS.simple u = true) (h : VR σ u v) : v = u := by
  cases h <;> first | rfl | (simp [AS.simple, bad, AS.topB, AS.topI, AS.topS, AS.topStr, AS.topE, AS.yld] at hs; done)
theorem VR.yld_inv {i : Nat} {v : Value} (h : VR σ (.complex .f32 7 i) v) : ∃ x, σ i = some x ∧ v = .func (.yield x.b) #[] #[] := by
  cases h with
  | refl h => simp [AS.simple] at h
  | yld h => exact ⟨_, h, rfl⟩
theorem VR.func_inv {fn : Fn} {f c : Array Value} {v : Value} (h : VR σ (.func fn f c) v) : ∃ f' c', v = .func fn f' c' ∧ VRL σ f.toList f'.toList ∧ VRL σ c.toList c'.toList := by
  cases h with
  | refl h => simp [AS.simple] at h
  | func hf hf' hc hc' => exact ⟨_, _, rfl, VR.arr hf hf', VR.arr hc hc'⟩
theorem eqA_sound (hE : EOK E P) : ∀ (d : Nat) (t : TypeId) (x y x' y' : Value) (b : Bool), eqA E d t x y = some b → VR σ x x' → VR σ y y' → ∀ (k : Nat), d ≤ k → ∀ w : World, (Op.equalIn k t x' y').run P w = .ok b w := by
  intro d
  induction d with
  | zero => intro t x y x' y' b h; cases h
  | succ d ih =>
    intro t x y x' y' b h hx hy k hk w
    obtain ⟨k, rfl⟩ : ∃ j, k = j + 1 := ⟨k - 1, by omega⟩
    simp only [eqA] at h
    split at h
    · cases h
    · rename_i ti hti
      obtain ⟨hu, _⟩ := hE.types t ti hti
      split at h
      · rename_i hd; cases h
        obtain rfl := hx.simple_inv rfl; obtain rfl := hy.simple_inv rfl
        simp [Op.equalIn, run_underlying hu, hd]
      · rename_i hd
        split at h
        · rename_i hk2; cases h
          obtain rfl := hx.simple_inv rfl; obtain rfl := hy.simple_inv rfl
          obtain rfl := kcode_inj hk2
          simp [Op.equalIn, run_underlying hu, hd]
        · cases h
      · rename_i hd; cases h
        obtain rfl := hx.simple_inv rfl; obtain rfl := hy.simple_inv rfl
        simp [Op.equalIn, run_underlying hu, hd, beq_toListBytes, toList_bytes]
      · rename_i hd; cases h
        obtain rfl := hx.simple_inv rfl
        cases hy <;> first | (simp [Op.equalIn, run_underlying hu, hd]; done) | skip
        all_goals simp [Op.equalIn, run_underlying hu, hd]
      · rename_i hd; cases h
        obtain rfl := hy.simple_inv rfl
        cases hx with
        | refl hs => simp [AS.simple] at hs
        | slice _ _ _ => simp [Op.equalIn, run_underlying hu, hd]
      · rename_i hd; cases h
        obtain rfl := hx.simple_inv rfl
        cases hy <;> simp [Op.equalIn, run_underlying hu, hd]
      · rename_i hd; cases h
        obtain rfl := hy.simple_inv rfl
        cases hx with
        | refl hs => simp [AS.simple] at hs
        | map _ => simp [Op.equalIn, run_underlying hu, hd]
      · rename_i hd; cases h
        obtain rfl := hx.simple_inv rfl; obtain rfl := hy.simple_inv rfl
        simp [Op.equalIn, run_underlying hu, hd]
      · rename_i hd; cases h
        obtain rfl := hx.simple_inv rfl
        obtain ⟨_, _, rfl, _, _⟩ := hy.func_inv
        simp [Op.equalIn, run_underlying hu, hd]
      · rename_i hd; cases h
        obtain rfl := hy.simple_inv rfl
        obtain ⟨_, _, rfl, _, _⟩ := hx.func_inv
        simp [Op.equalIn, run_underlying hu, hd]
      · rename_i hd; cases h
        obtain rfl := hx.simple_inv rfl
        cases hy <;> simp [Op.equalIn, run_underlying hu, hd]
      · rename_i hd; cases h
        obtain rfl := hy.simple_inv rfl
        cases hx with
        | refl hs => simp [AS.simple] at hs
        | ptr _ => simp [Op.equalIn, run_underlying hu, hd]
      · rename_i hd; cases h
        obtain rfl := hx.simple_inv rfl
        obtain ⟨_, rfl, _⟩ := hy.iface_inv
        simp [Op.equalIn, run_underlying hu, hd]
      · rename_i hd; cases h
        obtain rfl := hy.simple_inv rfl
        obtain ⟨_, rfl, _⟩ := hx.iface_inv
        simp [Op.equalIn, run_underlying hu, hd]
      · rename_i hd; cases h
        obtain rfl := hx.simple_inv rfl; obtain rfl := hy.simple_inv rfl
        simp [Op.equalIn, run_underlying hu, hd]
      · rename_i fs xs ys hd
        split at h
        · cases h
        · rename_i hst
          obtain ⟨xs', rfl, hxs⟩ := hx.agg_inv
          obtain ⟨ys', rfl, hys⟩ := hy.agg_inv
          rw [hE.prog] at hst
          have hfs : P.fieldsOf t = fs := by simp [Program.fieldsOf, hu, hd]
          rw [run_equalIn_struct w k t xs' ys' (by rw [hfs, hu, hd]) hst, hfs]
          generalize fs.toList = l at h
          clear hfs hd
          induction l with
          | nil => cases h; rfl
          | cons f l ihl =>
            simp only [List.foldr_cons] at h
            simp only [Op.eqFields]
            split at h
            · rename_i hn
              rw [if_neg (by simpa using hn)]
              exact ihl h
            · rename_i hn
              rw [if_pos (by simpa using hn)]
              split at h
              · rename_i a b' ha hb
                obtain ⟨a', ha1, ha2⟩ := partA_sound hE ha hxs w
                obtain ⟨b'', hb1, hb2⟩ := partA_sound hE hb hys w
                simp only [Sem.run_bind, ha1, hb1, Result.andThen_ok]
                split at h
                · rename_i he
                  rw [ih _ _ _ _ _ _ he ha2 hb2 k (by omega) w]
                  simpa using ihl h
                · rename_i he
                  rw [ih _ _ _ _ _ _ he ha2 hb2 k (by omega) w]
                  cases h
                  simp
                · cases h
              · cases h
      · cases h
end Go.AS
set_option linter.unusedSectionVars false
namespace Go.AS
open Go.RowKit
variable [Rho]
variable {E : Env} {P : Program} {w0 : World} {σ : Sg} {m : Mem} {w : World}
theorem ofO_mem {o : Option Out} {p : Out → Prop} (hne : ofO o ≠ []) (h : ∀ x, o = some x → p x) : ∃ x ∈ ofO o, p x := by
  cases o with
  | none => exact absurd rfl hne
  | some x => exact ⟨x, by simp [ofO], h x rfl⟩
theorem valO_mem {o : Option Value} {p : Out → Prop} (hne : valO o ≠ []) (h : ∀ x, o = some x → p (.val x)) : ∃ x ∈ valO o, p x := by
  cases o with
  | none => exact absurd rfl hne
  | some x => exact ⟨.val x, by simp [valO], h x rfl⟩
theorem eqGuard_of {op : BinOp} {t : TypeId} {x y : Operand} {a b : Value} (h : ¬ (a = .nilIface ∧ b = .nilIface)) (h2 : ∀ c d, ¬ (a = .agg c ∧ b = .agg d)) : eqGuard op t x y a b = pure () := by
  cases op <;> first
    | rfl
    | (cases a <;> first
        | rfl
        | (cases b <;> first | rfl | exact absurd ⟨rfl, rfl⟩ h | exact absurd ⟨rfl, rfl⟩ (h2 _ _)))
theorem eqGuard_agg {op : BinOp} {t : TypeId} {x y : Operand} {c d : Array Value} (h : P.eqGuardType P.depth t = false) (w : World) : (eqGuard op t x y (.agg c) (.agg d)).run P w = .ok () w := by
  unfold eqGuard
  cases op <;> simp [h]
theorem top_inv {v v' : Value} (h : VR σ v v') (ht : isTop v = false) : (∀ s, v' = .string s → v = .string s) ∧ (∀ k n, v' = .int k n → v = .int k n) ∧ (v' = .nilIface → v = .nilIface) ∧ (∀ c, v' = .agg c → ∃ d, v = .agg d) ∧ (∀ k n, v' ≠ .float k n) ∧ (∀ k a b, v' ≠ .complex k a b) := by
  cases h <;> first
    | (simp [isTop, bad, AS.topB, AS.topI, AS.topS, AS.topStr, AS.topE] at ht; done)
    | (refine ⟨fun s e => ?_, fun k n e => ?_, fun e => ?_, fun c e => ?_, fun k n e => ?_, fun k a b e => ?_⟩ <;> first | (cases e; done) | exact e | exact ⟨_, rfl⟩ | exact ⟨_, e⟩ | (subst e; rename_i hs; simp [AS.simple] at hs))
theorem cmp_run {op : BinOp} (h : cmp? op = true) (k : IntKind) (a b : Int) (t : TypeId) (w : World) : ∃ r, (binOp op t (.int k a) (.int k b)).run P w = .ok (.bool r) w := by
  cases op <;> first
    | (cases h; done)
    | exact ⟨_, by rw [binOp_eql]; rfl⟩ | exact ⟨_, by rw [binOp_neq]; rfl⟩ | exact ⟨_, by rw [binOp_lss]; rfl⟩ | exact ⟨_, by rw [binOp_leq]; rfl⟩ | exact ⟨_, by rw [binOp_gtr]; rfl⟩ | exact ⟨_, by rw [binOp_geq]; rfl⟩
theorem binop_sound (hE : EOK E P) {op : BinOp} {t : TypeId} {ox oy : Operand} {x y x' y' v : Value} (h : binop E op t x y = some v) (hx : VR σ x x') (hy : VR σ y y') (w : World) :
    ∃ v', (do eqGuard op t ox oy x' y'; binOp op t x' y').run P w = .ok v' w ∧ VR σ v v' := by
  unfold binop at h
  split at h
  · rename_i k a j b
    obtain rfl := hx.simple_inv rfl; obtain rfl := hy.simple_inv rfl
    split at h
    · obtain ⟨h1, h2⟩ := shift_sound (P := P) (j := j) h t w
      exact ⟨v, by simp [eqGuard_at_int, h1], .refl h2⟩
    · rename_i hs
      split at h
      · rename_i hk
        obtain rfl := kcode_inj hk
        obtain ⟨h1, h2⟩ := intBin_sound (P := P) hs h t w
        exact ⟨v, by simp [eqGuard_at_int, h1], .refl h2⟩
      · cases h
  · rename_i k j n
    split at h
    · rename_i hk hc
      cases h
      obtain rfl := hy.simple_inv rfl
      have hk' := kcode_inj hk
      cases hx with
      | refl hs => simp [AS.simple] at hs
      | topI k' n' =>
        rw [kind_kcode] at hk'; subst hk'
        obtain ⟨b, hb⟩ := cmp_run (P := P) hc k' n' n t w
        exact ⟨.bool b, by simp [eqGuard_at_int, hb], .topB b⟩
    · cases h
  · rename_i _ j n _
    split at h
    · rename_i hk hc
      cases h
      obtain rfl := hx.simple_inv rfl
      have hk' := kcode_inj hk
      cases hy with
      | refl hs => simp [AS.simple] at hs
      | topI k' n' =>
        rw [kind_kcode] at hk'; subst hk'
        obtain ⟨b, hb⟩ := cmp_run (P := P) hc j n n' t w
        exact ⟨.bool b, by simp [eqGuard_at_int, hb], .topB b⟩
    · cases h
  · obtain rfl := hx.simple_inv rfl; obtain rfl := hy.simple_inv rfl
    obtain ⟨h1, h2⟩ := strOp_sound (P := P) h t w
    exact ⟨v, by simp [eqGuard_at_string, h1], .refl h2⟩
  · rename_i xs ys
    split at h
    · cases h
    · rename_i hg
      rw [hE.prog] at hg
      obtain ⟨xs', rfl, _⟩ := hx.agg_inv
      obtain ⟨ys', rfl, _⟩ := hy.agg_inv
      split at h
      · rename_i he; cases h
        refine ⟨_, ?_, .refl rfl⟩
        simp only [Sem.run_bind, eqGuard_agg hg w, Result.andThen_ok, binOp, Op.equal, eqA_sound hE _ _ _ _ _ _ _ he hx hy Op.maxDepth (by decide) w]
        rfl
      · rename_i he; cases h
        refine ⟨_, ?_, .refl rfl⟩
        simp only [Sem.run_bind, eqGuard_agg hg w, Result.andThen_ok, binOp, Op.equal, eqA_sound hE _ _ _ _ _ _ _ he hx hy Op.maxDepth (by decide) w]
        rfl
      · cases h
  · cases h
  · rename_i hn1 hn2 hn3 hn4 hn5 hn6
    split at h
    · rename_i htx hty
      obtain ⟨s1, i1, n1, a1, f1, c1⟩ := top_inv hx htx
      obtain ⟨s2, i2, n2, a2, f2, c2⟩ := top_inv hy hty
      have hg : eqGuard op t ox oy x' y' = pure () := eqGuard_of (fun ⟨p, q⟩ => hn6 (n1 p) (n2 q)) (fun c d ⟨p, q⟩ => by
        obtain ⟨c', hc⟩ := a1 c p; obtain ⟨d', hd⟩ := a2 d q; exact hn5 c' d' hc hd)
      rw [hg]
      have hb : ∀ {op}, (op = .eql ∨ op = .neq) → binOp op t x' y' = (if op = .eql then (do pure (.bool (← Op.equal t x' y'))) else (do pure (.bool (!(← Op.equal t x' y'))))) := by
        intro op hop
        rcases hop with rfl | rfl <;> cases x' <;> first
          | rfl
          | (exact absurd rfl (f1 _ _)) | (exact absurd rfl (c1 _ _ _))
          | (cases y' <;> first
              | rfl
              | (exact absurd rfl (f2 _ _)) | (exact absurd rfl (c2 _ _ _))
              | (exact (hn1 _ _ _ _ (i1 _ _ rfl) (i2 _ _ rfl)).elim)
              | (exact (hn4 _ _ (s1 _ rfl) (s2 _ rfl)).elim))
      split at h
      · rename_i he; cases h
        refine ⟨_, ?_, .refl rfl⟩
        rw [hb (.inl rfl)]
        simp only [if_true, Sem.run_bind, Sem.run_pure, Result.andThen_ok, Op.equal, eqA_sound hE _ _ _ _ _ _ _ he hx hy Op.maxDepth (by decide) w]
      · rename_i he; cases h
        refine ⟨_, ?_, .refl rfl⟩
        rw [hb (.inr rfl)]
        simp only [reduceCtorEq, if_false, Sem.run_bind, Sem.run_pure, Result.andThen_ok, Op.equal, eqA_sound hE _ _ _ _ _ _ _ he hx hy Op.maxDepth (by decide) w]
      · cases h
    · cases h
theorem binopC_sound (hE : EOK E P) {op : BinOp} {t : TypeId} {ox oy : Operand} {x y x' y' v : Value} (h : binopC E op t (isConst ox || isConst oy) x y = some v) (hx : VR σ x x') (hy : VR σ y y') (w : World) :
    ∃ v', (do eqGuard op t ox oy x' y'; binOp op t x' y').run P w = .ok v' w ∧ VR σ v v' := by
  unfold binopC at h
  split at h
  · rename_i hc
    obtain rfl := hx.simple_inv rfl; obtain rfl := hy.simple_inv rfl
    have hg : (eqGuard op t ox oy .nilIface .nilIface).run P w = .ok () w := by
      unfold eqGuard
      cases op <;> cases ox <;> cases oy <;> first | rfl | (simp [isConst] at hc; done)
    split at h
    · rename_i he; cases h
      refine ⟨_, ?_, .refl rfl⟩
      simp only [Sem.run_bind, hg, Result.andThen_ok, binOp, Op.equal, eqA_sound hE _ _ _ _ _ _ _ he hx hy Op.maxDepth (by decide) w]
      rfl
    · rename_i he; cases h
      refine ⟨_, ?_, .refl rfl⟩
      simp only [Sem.run_bind, hg, Result.andThen_ok, binOp, Op.equal, eqA_sound hE _ _ _ _ _ _ _ he hx hy Op.maxDepth (by decide) w]
      rfl
    · cases h
  · exact binop_sound hE h hx hy w
end Go.AS
set_option linter.unusedSectionVars false
namespace Go.AS
open Go.RowKit
variable [Rho]
variable {E : Env} {P : Program} {w0 : World} {σ : Sg} {m : Mem} {w : World}
theorem elemSize_spec (hE : EOK E P) {t e : TypeId} {te : TI} (h : elemSize E t = some (e, te)) : P.underlying t = some (.slice e) ∧ E.types.get e = some te := by
  unfold elemSize at h
  split at h
  · rename_i e' _ _ _ hti
    obtain ⟨hu, _⟩ := hE.types t _ hti
    split at h
    · rename_i ti hte
      cases h
      exact ⟨hu, hte⟩
    · cases h
  · cases h
theorem firstCells_sound (h : MR E w0 σ m w) {size n : Nat} {v v' : Value} {l : List Value} (hf : firstCells size n v m = some l) (hv : VR σ v v') (hn : ∀ a k c, v = .slice a k c → n ≤ k) :
    ∃ l' : List Value, (∀ wx : World, wx.heap = w.heap → (Builtin.firstCells size n v').run P wx = .ok l'.toArray wx) ∧ VRL σ l l' := by
  unfold firstCells at hf
  split at hf
  · rename_i a len cap
    split at hf
    · rename_i cells k e hrow
      split at hf
      · rename_i hle
        have hle' := Nat.le_of_ble_eq_true hle
        cases hv with
        | refl hs => simp [AS.simple] at hs
        | slice hx hc ho =>
          rename_i i o c' x
          simp only at hle'
          obtain ⟨l', hrun, hl, hlen⟩ := run_cells (P := P) h hrow hx hle' hf
          refine ⟨l', fun wx hwx => ?_, hl⟩
          have hm : MR E w0 σ m ⟨wx.heap, w.tape, w.drawn, w.os, w.output⟩ := by
            have : (⟨wx.heap, w.tape, w.drawn, w.os, w.output⟩ : World) = w := by rw [hwx]
            rw [this]; exact h
          have hcs : ∀ j v, l'[j]? = some v → wx.cell? ((⟨x.b, x.sh + o, none⟩ : Addr).add j) = some v := by
            intro j v hj
            rw [addr_add]
            obtain ⟨C, fz, hB, hob, hf', hN, hn', _, hc⟩ := h.row hrow hx
            have hjl : j < n * size := by
              have := (List.getElem?_eq_some_iff.1 hj).1; omega
            have hj2 : (C.toList.drop (x.sh + o)).take (n * size) = l' := by
              have h0 := run_loadCells_list (P := P) (w := w) ⟨x.b, x.sh + o, none⟩ ((C.toList.drop (x.sh + o)).take (n * size)) (fun j v hj => by
                rw [addr_add, cell?_of hob]
                rw [List.getElem?_take, List.getElem?_drop] at hj
                split at hj
                · simpa using hj
                · cases hj)
              have hl0 : ((C.toList.drop (x.sh + o)).take (n * size)).length = n * size := by simp; omega
              rw [hl0, hrun] at h0
              injection h0 with h1 _
              have := congrArg Array.toList h1
              simpa using this.symm
            have hob' : wx.heap[x.b]? = some (.cells C e fz) := by rw [hwx]; exact hob
            rw [cell?_of hob']
            rw [← hj2, List.getElem?_take, if_pos hjl, List.getElem?_drop] at hj
            simpa using hj
          have := run_loadCells_list (P := P) (w := wx) ⟨x.b, x.sh + o, none⟩ l' hcs
          rw [hlen] at this
          simpa [Builtin.firstCells] using this
      · cases hf
    · cases hf
  · cases hf
    obtain rfl := hv.simple_inv rfl
    exact ⟨[], fun wx _ => by simp [Builtin.firstCells], VRL.nil σ⟩
  · rename_i s
    cases hf
    obtain rfl := hv.simple_inv rfl
    refine ⟨_, fun wx _ => ?_, VRL.simple (fun v hv => by
      obtain ⟨b, _, rfl⟩ := List.mem_map.1 hv; rfl)⟩
    simp only [Builtin.firstCells, Sem.run_pure]
    congr 1
    apply Array.ext'
    simp [ByteArray.extract, ByteArray.copySlice, List.map_take]
  · cases hf
theorem lenOf_sound {v v' : Value} {n : Nat} (h : lenOf v = some n) (hv : VR σ v v') (wx : World) : (Builtin.lenOf v').run P wx = .ok n wx := by
  unfold lenOf at h
  split at h
  · cases h
    cases hv with
    | refl hs => rfl
    | slice _ _ _ => rfl
  · cases h
    obtain rfl := hv.simple_inv rfl
    rfl
  · cases h
theorem VR.slice_inv {a : Option Addr} {n c : Nat} {v : Value} (h : VR σ (.slice a n c) v) : (a = none ∧ v = .slice none n c) ∨ ∃ i o x c', a = some ⟨i, o, none⟩ ∧ v = .slice (some ⟨x.b, x.sh + o, none⟩) n c' ∧ σ i = some x ∧ (c < OPEN → c' = c) ∧ (OPEN ≤ c → n ≤ c' ∧ o + c' * x.s ≤ x.N) := by
  cases h with
  | refl hs =>
    cases a with
    | none => exact .inl ⟨rfl, rfl⟩
    | some a => simp [AS.simple] at hs
  | slice hx hc ho => exact .inr ⟨_, _, _, _, rfl, rfl, hx, hc, ho⟩
theorem zeroCells_size (z : Array Value) (n : Nat) : (Builtin.zeroCells z n).size = n * z.size := by simp [Builtin.zeroCells]
theorem run_append_fits' {t ty e : TypeId} {i : TypeInfo} (ht : P.underlying t = some (.slice e)) (hi : P.info? e = some i)
    {a : Addr} {sLen sCap n : Nat} {x : Value} {new : List Value} {w w' : World} (hl : (Builtin.lenOf x).run P w = .ok n w) (hx : (Builtin.firstCells i.size n x).run P w = .ok new.toArray w) (hroom : sLen + n ≤ sCap)
    (hst : (storeCells (a.add (sLen * i.size)) new).run P w = .ok () w') : (Builtin.append_ #[t, t] ty #[.slice (some a) sLen sCap, x]).run P w = .ok (.slice (some a) (sLen + n) sCap) w' := by
  simp [Builtin.append_, run_underlying ht, sizeOf, typeInfo, hi, hl, hroom, hx, hst]
theorem run_append_none {t ty e : TypeId} {i : TypeInfo} (ht : P.underlying t = some (.slice e)) (hi : P.info? e = some i)
    {cap : Nat} {x : Value} {new : List Value} {w : World} (hl : (Builtin.lenOf x).run P w = .ok 0 w) (hx : (Builtin.firstCells i.size 0 x).run P w = .ok new.toArray w) :
    (Builtin.append_ #[t, t] ty #[.slice none 0 cap, x]).run P w = .ok (.slice none 0 cap) w := by
  simp [Builtin.append_, run_underlying ht, sizeOf, typeInfo, hi, hl, hx]
theorem run_append_grows' {t ty e : TypeId} {i : TypeInfo} {z : Value} (ht : P.underlying t = some (.slice e)) (hi : P.info? e = some i) (hz : i.zero = some z)
    {base : Option Addr} {sLen sCap n : Nat} {x : Value} {old new : List Value} {w : World} (hl : (Builtin.lenOf x).run P w = .ok n w)
    (hx : (Builtin.firstCells i.size n x).run P w.drew = .ok new.toArray w.drew) (ho : (Builtin.firstCells i.size sLen (.slice base sLen sCap)).run P w.drew = .ok old.toArray w.drew)
    (hroom : sCap < sLen + n) (h63 : sLen + n ≤ 1000000) (hby : i.bytes ≤ 100000) :
    (Builtin.append_ #[t, t] ty #[.slice base sLen sCap, x]).run P w = .ok (.slice (some ⟨w.heap.size, 0, none⟩) (sLen + n) (grownCap w (sLen + n) sCap e))
      (w.drew.alloc (.cells ((old ++ new).toArray ++ Builtin.zeroCells z.cells (grownCap w (sLen + n) sCap e - (sLen + n))) e)) := by
  have hn : ¬ (sLen + n ≤ sCap) := by omega
  have h63' : ¬ (9223372036854775807 < ((sLen : Int) + (n : Int))) := by omega
  have h48 : Builtin.nextslicecap (sLen + n) sCap * i.bytes ≤ 281474976710656 := growslice_fits hroom (by
    have : (sLen + n) * i.bytes ≤ 1000000 * 100000 := Nat.mul_le_mul h63 hby
    omega)
  have h48' : ¬ (281474976710656 < Builtin.nextslicecap (sLen + n) sCap * i.bytes) := by omega
  simp [Builtin.append_, run_underlying ht, sizeOf, typeInfo, zeroValue, hi, hz, hl, hn, h63', h48', Question.forced, hx, ho, Go.newRow, grownCap]
  congr 2
  apply Array.ext'
  simp [List.append_assoc]
theorem VRL.length {l l' : List Value} (h : VRL σ l l') : l'.length = l.length := h.1.symm
theorem OR.grown {e : TypeId} {te : TI} (hte : E.types.get e = some te) {l l' rest : List Value} (hl : VRL σ l l') (b N : Nat) (hN : N = l.length + rest.length) (fz : Nat × Nat := (0, 0)) (hf : NF fz (l'.length + rest.length) := by exact NF.zero _) :
    OR E σ ⟨b, 0, N, te.size⟩ (AS.newRow e l) (.cells (l'.toArray ++ rest.toArray) e fz) :=
  ⟨rfl, by simpa using hf, by simp [hl.1, hN], by simp [hN], ⟨te, hte, rfl⟩, fun j hj => by
    obtain ⟨v', h1, h2⟩ := hl.getElem? (List.getElem?_eq_getElem hj)
    refine ⟨_, v', by rw [T.get_ofList]; exact List.getElem?_eq_getElem hj, ?_, h2⟩
    have hj' : j < l'.length := by rw [← hl.1]; exact hj
    simp only [Nat.zero_add, List.append_toArray, List.getElem?_toArray]
    rw [List.getElem?_append_left hj']; exact h1⟩
theorem MR.adopt {m1 : Mem} {w1 : World} (h : MR E w0 σ m1 w1) {id : Nat} (hid : σ id = none) {n' : Nat} (hn : m1.n ≤ n') (hidn : id < n') {o : AObj} {ob : Obj} {x : Inf} (hB : w0.heap.size ≤ x.b) (hl : ¬ LiveB σ m1 x.b)
    (hob : w1.heap[x.b]? = some ob) (hor : OR E σ x o ob) : MR E w0 (fun j => if j = id then some x else σ j) ⟨n', m1.t.set id o⟩ w1 := by
  have hext : Ext σ (fun j => if j = id then some x else σ j) := fun i y hy => by
    have : i ≠ id := fun e => by rw [e, hid] at hy; cases hy
    simp [this, hy]
  refine ⟨h.below, h.t0, ?_, ?_, ?_⟩
  · intro j p hj hp
    by_cases e : id = j
    · subst e
      rw [T.get_set_same] at hj
      cases hj
      exact ⟨x, ob, by simp, hB, hob, hor.mono hext⟩
    · rw [T.get_set_ne _ _ e] at hj
      obtain ⟨z, oz, hz, hBz, hoz, horz⟩ := h.obj j p hj hp
      exact ⟨z, oz, hext _ _ hz, hBz, hoz, horz.mono hext⟩
  · intro j k p q z z' hj hp hk hq hz hz' e
    by_cases e1 : id = j <;> by_cases e2 : id = k
    · omega
    · subst e1
      rw [T.get_set_ne _ _ e2] at hk
      have e2' : k ≠ id := fun h => e2 h.symm
      simp only [e2', if_false, if_true, Option.some.injEq] at hz hz'
      subst hz
      exact absurd ⟨k, q, z', hk, hq, hz', e.symm⟩ hl
    · subst e2
      rw [T.get_set_ne _ _ e1] at hj
      have e1' : j ≠ id := fun h => e1 h.symm
      simp only [e1', if_false, if_true, Option.some.injEq] at hz hz'
      subst hz'
      exact absurd ⟨j, p, z, hj, hp, hz, e⟩ hl
    · rw [T.get_set_ne _ _ e1] at hj
      rw [T.get_set_ne _ _ e2] at hk
      have e1' : j ≠ id := fun h => e1 h.symm
      have e2' : k ≠ id := fun h => e2 h.symm
      simp only [e1', e2', if_false] at hz hz'
      exact h.inj j k p q z z' hj hp hk hq hz hz' e
  · intro i hi
    have h1 : i ≠ id := by have : n' ≤ i := hi; omega
    simp only [h1, if_false]
    exact h.fresh i (Nat.le_trans hn hi)
theorem MR.offstage {w' : World} (h : MR E w0 σ m w) {b : Nat} (hB : w0.heap.size ≤ b) (hl : ¬ LiveB σ m b) (hsz : w'.heap.size = w.heap.size) (hoth : ∀ k, k ≠ b → w'.heap[k]? = w.heap[k]?)
    (hos : w'.os = w.os) (ht : w'.tape = w.tape) (hout : w'.output = w.output) : MR E w0 σ m w' :=
  ⟨h.below.trans ⟨hos, ht, hout, by omega, fun k hk => hoth k (by omega)⟩, h.t0, fun i o hi ho => by
    obtain ⟨x, ob, hx, hBx, hob, hor⟩ := h.obj i o hi ho
    exact ⟨x, ob, hx, hBx, by rw [hoth x.b (fun e => hl ⟨i, o, x, hi, ho, hx, e⟩)]; exact hob, hor⟩, h.inj, h.fresh⟩
theorem LiveB.dead {i : Nat} {b : Nat} (h : LiveB σ ⟨m.n, m.t.set i .dead⟩ b) : LiveB σ m b := by
  obtain ⟨j, o, x, hj, ho, hx, hb⟩ := h
  by_cases e : i = j
  · subst e; rw [T.get_set_same] at hj; cases hj; cases ho
  · rw [T.get_set_ne _ _ e] at hj; exact ⟨j, o, x, hj, ho, hx, hb⟩
theorem append_sound (hE : EOK E P) (h : MR E w0 σ m w) {t ty : TypeId} {s x s' x' : Value} {out : Out} (ha : append E t s x m = some out) (hs : VR σ s s') (hx : VR σ x x') :
    OutOK E P w0 σ m w (do pure (.value (← Builtin.append_ #[t, t] ty #[s', x']))) out := by
  unfold append at ha
  split at ha
  · rename_i e te base len cap n hel hlen
    obtain ⟨ht, hte⟩ := elemSize_spec hE hel
    obtain ⟨_, i, z, hi, hsz, hby, hz, hzc, hzl, _, _⟩ := hE.types e te hte
    split at ha
    · rename_i new old hnew hold hk1 hk2
      have hb1 := Nat.le_of_ble_eq_true hk1
      have hb2 := Nat.le_of_ble_eq_true hk2
      have hnx : ∀ a k c, x = .slice a k c → n ≤ k := by
        intro a k c hxe
        subst hxe
        simp [lenOf] at hlen
        omega
      obtain ⟨new', hrn, hvn⟩ := firstCells_sound (P := P) h hnew hx hnx
      obtain ⟨old', hro, hvo⟩ := firstCells_sound (P := P) h hold hs (fun a k c he => by injection he with _ e2 _; omega)
      have hln := lenOf_sound (P := P) hlen hx w
      rw [← hsz] at hrn hro
      have hzs : z.cells.size = te.size := by rw [← hzl, ← hzc]; simp
      have grow : (old ++ new).length = (len + n) * te.size → ∀ (base' : Option Addr) (c : Nat) (m1 : Mem), s' = .slice base' len c → c < len + n → MR E w0 σ m1 w → m1.n = m.n → (∀ b, LiveB σ m1 b → LiveB σ m b) →
          OutOK E P w0 σ m w (do pure (.value (← Builtin.append_ #[t, t] ty #[s', x']))) (.eff (.slice (some ⟨m.n, 0, none⟩) (len + n) OPEN) ⟨m.n + 1, m1.t.set m.n (newRow e (old ++ new))⟩) := by
        intro hlenon base' c m1 hs' hc h1 hn1 hlv
        subst hs'
        have hrun := run_append_grows' (P := P) (ty := ty) ht hi hz (base := base') (sCap := c) hln (hrn w.drew rfl) (hro w.drew rfl) hc hb1 (by omega)
        have hN : len + n ≤ grownCap w (len + n) c e := grownCap_ge w (len + n) c e
        have hor := OR.grown (E := E) hte (hvo.append hvn) w.drew.heap.size _ (rest := (Builtin.zeroCells z.cells (grownCap w (len + n) c e - (len + n))).toList) rfl
        obtain ⟨hm', hf'⟩ := h1.drew.new (id := m.n) (h.fresh m.n (Nat.le_refl _)) (n' := m.n + 1) (by omega) (by omega) (x := ⟨w.drew.heap.size, 0, _, te.size⟩) rfl hor
        have hf' := hf' (by omega)
        have harr : (old' ++ new').toArray ++ (Builtin.zeroCells z.cells (grownCap w (len + n) c e - (len + n))).toList.toArray = (old' ++ new').toArray ++ Builtin.zeroCells z.cells (grownCap w (len + n) c e - (len + n)) := by simp
        rw [harr] at hm' hf'
        refine out_eff rfl hrun (.slice (x := ⟨w.drew.heap.size, 0, _, te.size⟩) (if_pos rfl) (fun hc => absurd hc (Nat.lt_irrefl _)) (fun _ => ⟨hN, ?_⟩)) hm'
          ⟨hf'.ext, hf'.size, fun b hb hl => hf'.frame b hb (fun hl1 => hl (hlv b hl1)), fun b hb => (hf'.grow b hb).imp (hlv b) id, by show m.n ≤ m.n + 1; omega, fun i hi => hf'.old i (by omega)⟩
        simp only [Array.length_toList, zeroCells_size, hzs, hlenon, Nat.zero_add]
        rw [← Nat.add_mul]
        apply Nat.mul_le_mul_right
        omega
      split at ha
      ·
        rename_i hlenon hop
        have hlenon := Nat.eq_of_beq_eq_true hlenon
        have hcap : cap < OPEN := by
          rcases Nat.lt_or_ge cap OPEN with h1 | h1
          · exact h1
          · rw [Nat.ble_eq_true_of_le h1] at hop; cases hop
        split at ha
        · rename_i hroom
          have hroom' := Nat.le_of_ble_eq_true hroom
          split at ha
          ·
            split at ha
            · rename_i hz0
              cases ha
              obtain rfl : len = 0 := by omega
              obtain rfl : n = 0 := by omega
              obtain rfl := hs.simple_inv rfl
              exact out_val rfl (run_append_none ht hi hln (hrn w rfl)) (.refl rfl)
            · cases ha
          · rename_i a
            split at ha
            · rename_i m' hst
              cases ha
              rcases hs.slice_inv with ⟨h1, _⟩ | ⟨j, o, y, c', h1, rfl, hy, hc1, hc2⟩
              · cases h1
              · cases h1
                obtain rfl := hc1 hcap
                have hp : VR σ (.pointer (some ⟨j, o + len * te.size, none⟩)) (.pointer (some ⟨y.b, y.sh + (o + len * te.size), none⟩)) := .ptr hy
                obtain ⟨a', w', ha', _, hrun, hm', hf'⟩ := storeL_sound (P := P) h hst hp hvn
                cases ha'
                refine out_eff rfl (run_append_fits' ht hi hln (hrn w rfl) hroom' (w' := w') ?_) (.slice hy (fun _ => rfl) (fun ho => by omega)) hm' hf'
                rw [addr_add, hsz, Nat.add_assoc]; exact hrun
            · cases ha
        · rename_i hroom
          have hroom' : cap < len + n := by
            rcases Nat.lt_or_ge cap (len + n) with h1 | h1
            · exact h1
            · rw [Nat.ble_eq_true_of_le h1] at hroom; cases hroom
          split at ha
          · cases ha
            obtain ⟨base', hs'⟩ : ∃ base', s' = .slice base' len cap := by
              rcases hs.slice_inv with ⟨_, rfl⟩ | ⟨j, o, y, c', _, rfl, hy, hc1, _⟩
              · exact ⟨_, rfl⟩
              · obtain rfl := hc1 hcap; exact ⟨_, rfl⟩
            exact grow hlenon base' cap m hs' hroom' h rfl (fun _ hb => hb)
          · cases ha
      ·
        rename_i hlenon hop
        have hlenon := Nat.eq_of_beq_eq_true hlenon
        have hcap : OPEN ≤ cap := Nat.le_of_ble_eq_true hop
        split at ha
        · cases ha
        rename_i a
        rcases hs.slice_inv with ⟨h1, _⟩ | ⟨j, o, y, c', h1, hs', hy, hc1, hc2⟩
        · cases h1
        cases h1
        obtain ⟨hc3, hc4⟩ := hc2 hcap
        split at ha
        · cases ha
          subst hs'
          have hnil : new' = [] := List.eq_nil_of_length_eq_zero (by rw [hvn.length]; rfl)
          subst hnil
          exact out_val rfl (run_append_fits' ht hi hln (hrn w rfl) (by omega) (w' := w) rfl) (.slice hy hc1 hc2)
        · split at ha
          · rename_i cells k e' hrow
            split at ha
            · rename_i hee hone
              obtain rfl := Nat.eq_of_beq_eq_true hee
              cases ha
              rcases Nat.lt_or_ge c' (len + n) with hlt | hge
              · exact grow hlenon _ c' _ hs' hlt (h.drop j) rfl (fun b hb => hb.dead)
              ·
                subst hs'
                obtain ⟨C, fz, hB, hob, hf, hN, hn, ⟨ti', hti', hys⟩, hc⟩ := h.row hrow hy
                obtain rfl : ti' = te := by rw [hte] at hti'; exact (Option.some.inj hti').symm
                have hol : old.length = len * ti'.size ∧ new.length = n * ti'.size := by
                  have h1 := hlenon
                  rw [List.length_append, Nat.add_mul] at h1
                  have h2 : old.length = len * ti'.size := by
                    unfold firstCells at hold
                    simp only [hrow] at hold
                    split at hold
                    · exact (T.getL_spec hold).1
                    · cases hold
                  omega
                have hfit : o + (len + n) * ti'.size ≤ y.N := by
                  have : (len + n) * ti'.size ≤ c' * ti'.size := Nat.mul_le_mul_right _ hge
                  rw [hys] at hc4; omega
                have hNl : new'.length = n * ti'.size := by rw [hvn.length, hol.2]
                obtain ⟨w', C', r1, r2, r3, r4, r5, r6, r7, r8, r9⟩ := run_storeCells (P := P) new' 0 w C (y.sh + o + len * ti'.size) hob hf (by rw [hNl]; rw [Nat.add_mul] at hfit; omega) (hvn.ones hone)
                have hnl : ¬ LiveB σ ⟨m.n, m.t.set j .dead⟩ y.b := by
                  rintro ⟨i', p, z', hi', hp, hz', hb⟩
                  by_cases e : j = i'
                  · subst e; rw [T.get_set_same] at hi'; cases hi'; cases hp
                  · rw [T.get_set_ne _ _ e] at hi'
                    exact e (h.inj j i' _ p y z' hrow rfl hi' hp hy hz' hb.symm)
                have hm1 : MR E w0 σ ⟨m.n, m.t.set j .dead⟩ w' := (h.drop j).offstage hB hnl r4 r5 r6 r7 r8
                have hor : OR E σ ⟨y.b, y.sh + o, y.N - o, ti'.size⟩ (AS.newRow e (old ++ new)) (.cells C' e fz) := by
                  refine ⟨rfl, by rw [r3]; exact hf, by rw [r3]; simp only; omega, by simp only; rw [hlenon]; omega, ⟨ti', hte, rfl⟩, fun q hq => ?_⟩
                  rw [T.get_ofList]
                  simp only
                  rw [r9, hNl]
                  rw [hlenon, Nat.add_mul] at hq
                  by_cases hqo : q < len * ti'.size
                  · rw [if_neg (by omega)]
                    rw [List.getElem?_append_left (by omega)]
                    have hq1 : q < old.length := by omega
                    unfold firstCells at hold
                    simp only [hrow] at hold
                    split at hold
                    · obtain ⟨_, hg⟩ := T.getL_spec hold
                      have hle' : o + len * ti'.size ≤ k := Nat.le_of_ble_eq_true (by assumption)
                      obtain ⟨u, u', hu, hu', hr⟩ := hc (o + q) (by omega)
                      rw [hg q (by omega)] at hu
                      exact ⟨u, u', hu, by rw [show y.sh + o + q = y.sh + (o + q) from by omega]; exact hu', hr⟩
                    · cases hold
                  · rw [if_pos (by omega)]
                    rw [List.getElem?_append_right (by omega)]
                    have hq1 : q - old.length < new.length := by omega
                    obtain ⟨v', hv1, hv2⟩ := hvn.getElem? (List.getElem?_eq_getElem hq1)
                    exact ⟨_, v', List.getElem?_eq_getElem hq1, by rw [← hv1]; congr 1; omega, hv2⟩
                have hm2 := hm1.adopt (id := m.n) (h.fresh m.n (Nat.le_refl _)) (n' := m.n + 1) (by show m.n ≤ m.n + 1; omega) (by omega) (x := ⟨y.b, y.sh + o, y.N - o, ti'.size⟩) hB hnl r2 hor
                have hrun := run_append_fits' (P := P) (ty := ty) (sCap := c') ht hi hln (hrn w rfl) hge (a := ⟨y.b, y.sh + o, none⟩) (w' := w') (by rw [addr_add, hsz]; exact r1)
                have hvr : VR (fun q => if q = m.n then some ⟨y.b, y.sh + o, y.N - o, ti'.size⟩ else σ q) (.slice (some ⟨m.n, 0, none⟩) (len + n) OPEN) (.slice (some ⟨y.b, y.sh + o + 0, none⟩) (len + n) c') :=
                  .slice (x := ⟨y.b, y.sh + o, y.N - o, ti'.size⟩) (if_pos rfl) (fun hc => absurd hc (Nat.lt_irrefl _)) (fun _ => ⟨hge, by rw [hys] at hc4; simp only; omega⟩)
                refine out_eff rfl hrun hvr hm2 ⟨fun q z' hq => ?_, by rw [r4]; exact Nat.le_refl _, fun b hb hl => r5 b (fun e => hl (e ▸ LiveB.of hrow rfl hy)), ?_, by show m.n ≤ m.n + 1; omega, fun i hi => if_neg (by omega)⟩
                · have : q ≠ m.n := fun e => by rw [e, h.fresh m.n (Nat.le_refl _)] at hq; cases hq
                  simp [this, hq]
                · rintro b ⟨q, p, z', hq, hp, hz', hb⟩
                  by_cases e : m.n = q
                  · subst e
                    simp only [if_true, Option.some.injEq] at hz'
                    subst hz'
                    have hlv : LiveB σ m y.b := LiveB.of (i := j) hrow rfl hy
                    simp only at hb
                    exact .inl (hb ▸ hlv)
                  · rw [T.get_set_ne _ _ e] at hq
                    have e' : q ≠ m.n := fun h => e h.symm
                    simp only [e', if_false] at hz'
                    exact .inl (LiveB.dead (m := m) (i := j) ⟨q, p, z', hq, hp, hz', hb⟩)
            · cases ha
          · cases ha
      · cases ha
    · cases ha
  · cases ha
end Go.AS
set_option linter.unusedSectionVars false
namespace Go.AS
open Go.RowKit
variable [Rho]
variable {E : Env} {P : Program} {w0 : World} {σ : Sg} {m : Mem} {w : World}
theorem getL_bads (K : Nat) : ∀ q o, o + q ≤ K → (T.ofList (List.replicate K bad)).getL q o = some (List.replicate q bad) := by
  intro q
  induction q with
  | zero => intro o _; rfl
  | succ q ih =>
    intro o h
    have h1 : (T.ofList (List.replicate K bad)).get o = some bad := by
      rw [T.get_ofList, List.getElem?_replicate, if_pos (by omega)]
    simp only [T.getL, h1, ih (o + 1) (by omega)]
    rfl
theorem appendB_sound (hE : EOK E P) (h : MR E w0 σ m w) {t ty : TypeId} {s x s' x' : Value} {out : Out} (ha : appendB E t s x m = some out) (hs : VR σ s s') (hx : VR σ x x') :
    OutOK E P w0 σ m w (do pure (.value (← Builtin.append_ #[t, t] ty #[s', x']))) out := by
  unfold appendB at ha
  split at ha
  · rename_i a len cap
    split at ha
    · rename_i cells e' hrow
      split at ha
      · rename_i e te n hel hlen
        split at ha
        · rename_i new hnew hk1 hk2 hcap hee
          split at ha
          · rename_i k hone hsz1 hlen2
            cases ha
            obtain rfl := Nat.eq_of_beq_eq_true hee
            have hs0 := hs
            rcases hs.slice_inv with ⟨h1, _⟩ | ⟨i, o, y, c', h1, rfl, hy, _, hc2⟩
            · cases h1
            · cases h1
              simp only at hrow
              obtain ⟨hcl, hco⟩ := hc2 (Nat.le_of_ble_eq_true hcap)
              obtain ⟨C, fz, hB, hob, hf, hN, _, ⟨ti, hti, hys⟩, _⟩ := h.row hrow hy
              obtain ⟨_, hte⟩ := elemSize_spec hE hel
              obtain rfl : ti = te := by rw [hti] at hte; exact Option.some.inj hte
              have hsize : 1 ≤ ti.size := Nat.le_of_ble_eq_true hsz1
              have hK : o + (len + 1) * ti.size ≤ y.N := by
                have : (len + 1) * ti.size ≤ c' * ti.size := Nat.mul_le_mul_right _ hcl
                rw [hys] at hco
                omega
              obtain ⟨K, hKe⟩ : ∃ K, o + (len + 1) * ti.size = K := ⟨_, rfl⟩
              rw [hKe] at hK
              obtain ⟨m2, hm2⟩ : ∃ m2 : Mem, (⟨m.n, m.t.set i (.row (T.ofList (List.replicate K bad)) K e)⟩ : Mem) = m2 := ⟨_, rfl⟩
              have g1 : m2.t.get i = some (.row (T.ofList (List.replicate K bad)) K e) := by rw [← hm2]; exact T.get_set_same _ _ _
              have g2 : ∀ q, q ≠ i → m2.t.get q = m.t.get q := fun q hq => by rw [← hm2]; exact T.get_set_ne _ _ (Ne.symm hq)
              have gn : m2.n = m.n := by rw [← hm2]
              have hlv : ∀ b, LiveB σ m2 b → LiveB σ m b := by
                rintro b ⟨q, ob, z, hq, hl, hz, hb⟩
                by_cases hqi : q = i
                · subst hqi; exact ⟨q, _, z, hrow, rfl, hz, hb⟩
                · exact ⟨q, ob, z, by rw [← g2 q hqi]; exact hq, hl, hz, hb⟩
              have hM2 : MR E w0 σ m2 w := by
                refine ⟨h.below, h.t0, fun q ob hq hl => ?_, fun q j o1 o2 x1 x2 hq hl1 hj hl2 hx1 hx2 he => ?_, fun q hq => h.fresh q (by omega)⟩
                · by_cases hqi : q = i
                  · subst hqi
                    rw [g1] at hq
                    cases hq
                    refine ⟨y, _, hy, hB, hob, rfl, hf, hN, hK, ⟨ti, hti, hys⟩, fun j hj => ?_⟩
                    have hj2 : y.sh + j < C.size := by omega
                    exact ⟨bad, C[y.sh + j], by rw [T.get_ofList, List.getElem?_replicate, if_pos hj], Array.getElem?_eq_getElem hj2, .any _⟩
                  · exact h.obj q ob (by rw [← g2 q hqi]; exact hq) hl
                · have key : ∀ {q ob}, m2.t.get q = some ob → ob.live = true → ∃ ob', m.t.get q = some ob' ∧ ob'.live = true := fun {q ob} hq hl => by
                    by_cases hqi : q = i
                    · subst hqi; exact ⟨_, hrow, rfl⟩
                    · exact ⟨ob, by rw [← g2 q hqi]; exact hq, hl⟩
                  obtain ⟨p1, k1, k2⟩ := key hq hl1
                  obtain ⟨p2, k3, k4⟩ := key hj hl2
                  exact h.inj q j p1 p2 x1 x2 k1 k2 k3 k4 hx1 hx2 he
              have hnew2 : firstCells ti.size (k + 1) x m2 = some new := by
                rw [← hnew]
                unfold firstCells
                split
                · rename_i b c d
                  by_cases hbi : b.block = i
                  · exfalso
                    unfold firstCells at hnew
                    simp only [hbi, hrow] at hnew
                    split at hnew
                    · rename_i hle
                      have hle := Nat.le_of_ble_eq_true hle
                      have : 1 ≤ (k + 1) * ti.size := Nat.le_trans hsize (Nat.le_mul_of_pos_left _ (by omega))
                      exact absurd (Nat.le_trans this (Nat.le_trans (Nat.le_add_left _ _) hle)) (by omega)
                    · cases hnew
                  · rw [g2 _ hbi]
                · rfl
                · rfl
                · rfl
              have hold2 : firstCells ti.size (len + 1) (.slice (some ⟨i, o, none⟩) (len + 1) cap) m2 = some (List.replicate ((len + 1) * ti.size) bad) := by
                unfold firstCells
                simp only [g1, hKe, Nat.ble_eq_true_of_le (Nat.le_refl K)]
                exact getL_bads K _ _ (by omega)
              have hlen3 : Nat.beq (List.replicate ((len + 1) * ti.size) bad ++ new).length ((len + 1 + (k + 1)) * ti.size) = true := by
                have := Nat.eq_of_beq_eq_true hlen2
                rw [List.length_append, List.length_replicate, this, ← Nat.add_mul]
                exact Nat.beq_refl _
              have hnn : ∃ u l, new = u :: l := by
                have := Nat.eq_of_beq_eq_true hlen2
                have h2 : 1 ≤ (k + 1) * ti.size := Nat.le_trans hsize (Nat.le_mul_of_pos_left _ (by omega))
                cases new with
                | nil => simp at this; omega
                | cons u l => exact ⟨u, l, rfl⟩
              have ha2 : append E t (.slice (some ⟨i, o, none⟩) (len + 1) cap) x m2 = some (.eff (.slice (some ⟨m.n, 0, none⟩) (len + 1 + (k + 1)) OPEN) ⟨m.n + 1, (m2.t.set i .dead).set m.n (newRow e (List.replicate ((len + 1) * ti.size) bad ++ new))⟩) := by
                obtain ⟨u, l, rfl⟩ := hnn
                unfold append
                simp only [hel, hlen, hnew2, hold2, hk1, hk2, hlen3, hcap, g1, Nat.beq_refl, hone, gn]
              obtain ⟨nx, v', w', σ', q1, q2, q3, hm', hf'⟩ := append_sound (P := P) (ty := ty) hE hM2 ha2 hs0 hx
              have hres : ∀ q ob, ((m.t.set i .dead).set m.n (AObj.row .nil 0 e)).get q = some ob → ob.live = true → ∃ ob', ((m2.t.set i .dead).set m.n (newRow e (List.replicate ((len + 1) * ti.size) bad ++ new))).get q = some ob' ∧ ob'.live = true ∧ ∀ (τ : Sg) (z : Inf) (wo : Obj), OR E τ z ob' wo → OR E τ z ob wo := by
                intro q ob hq hl
                by_cases hqn : m.n = q
                · subst hqn
                  rw [T.get_set_same] at hq
                  cases hq
                  refine ⟨_, T.get_set_same _ _ _, rfl, fun τ z wo hor => ?_⟩
                  unfold newRow at hor
                  cases wo with
                  | cells C e2 fz2 =>
                    obtain ⟨a1, a2, a3, a4, a5, _⟩ := hor
                    exact ⟨a1, a2, a3, Nat.zero_le _, a5, fun j hj => absurd hj (Nat.not_lt_zero _)⟩
                  | _ => exact hor.elim
                · rw [T.get_set_ne _ _ hqn] at hq ⊢
                  by_cases hqi : i = q
                  · subst hqi
                    rw [T.get_set_same] at hq
                    cases hq
                    cases hl
                  · rw [T.get_set_ne _ _ hqi] at hq ⊢
                    exact ⟨ob, by rw [g2 q (Ne.symm hqi)]; exact hq, hl, fun _ _ _ h => h⟩
              refine ⟨nx, v', w', σ', q1, q2, q3, ⟨hm'.below, h.t0, fun q ob hq hl => ?_, fun q j o1 o2 x1 x2 hq hl1 hj hl2 hx1 hx2 he => ?_, fun q hq => hm'.fresh q hq⟩,
                ⟨hf'.ext, hf'.size, fun b hb hl => hf'.frame b hb (fun h2 => hl (hlv b h2)), fun b hb => ?_, by have := hf'.n; rw [gn] at this; exact this, fun q hq => hf'.old q (by rw [gn]; exact hq)⟩⟩
              · obtain ⟨ob', k1, k2, k3⟩ := hres q ob hq hl
                obtain ⟨z, wo, z1, z2, z3, z4⟩ := hm'.obj q ob' k1 k2
                exact ⟨z, wo, z1, z2, z3, k3 σ' z wo z4⟩
              · obtain ⟨p1, k1, k2, _⟩ := hres q o1 hq hl1
                obtain ⟨p2, k3, k4, _⟩ := hres j o2 hj hl2
                exact hm'.inj q j p1 p2 x1 x2 k1 k2 k3 k4 hx1 hx2 he
              · obtain ⟨q, ob, z, hq, hl, hz, hb⟩ := hb
                obtain ⟨p1, k1, k2, _⟩ := hres q ob hq hl
                exact (hf'.grow b ⟨q, p1, z, k1, k2, hz, hb⟩).imp (hlv b) id
          · cases ha
        · cases ha
      · cases ha
    · exact append_sound (ty := ty) hE h ha hs hx
  · exact append_sound (ty := ty) hE h ha hs hx
end Go.AS
set_option linter.unusedSectionVars false
namespace Go.AS
open Go.RowKit
variable [Rho]
variable {E : Env} {P : Program} {w0 : World} {σ : Sg} {m : Mem} {w : World}
theorem copy_sound (hE : EOK E P) (h : MR E w0 σ m w) {t u ty : TypeId} {d s d' s' : Value} {out : Out} (ha : copyS E t d s m = some out) (hd : VR σ d d') (hs : VR σ s s') :
    OutOK E P w0 σ m w (do pure (.value (← Builtin.copy_ #[t, u] ty #[d', s']))) out := by
  unfold copyS at ha
  split at ha
  · rename_i e te n base dl dc hel hlen
    obtain ⟨ht, hte⟩ := elemSize_spec hE hel
    obtain ⟨_, i, z, hi, hsz, _⟩ := hE.types e te hte
    split at ha
    · rename_i l hl
      obtain ⟨l', hr, hv⟩ := firstCells_sound (P := P) h hl hs (fun a k c he => by subst he; simp [lenOf] at hlen; subst hlen; exact Nat.min_le_left _ _)
      have hln := lenOf_sound (P := P) hlen hs w
      have hr' := hr w rfl
      rw [← hsz] at hr'
      have hr'' : (Builtin.firstCells i.size (Nat.min n dl) s').run P w = .ok l'.toArray w := hr'
      split at ha
      · rename_i a
        split at ha
        · rename_i m' hst
          cases ha
          rcases hd.slice_inv with ⟨h1, _⟩ | ⟨j, o, y, c', h1, rfl, hy, _, _⟩
          · cases h1
          · cases h1
            obtain ⟨a', w', ha', _, hrun, hm', hf'⟩ := storeL_sound (P := P) h hst (.ptr hy) hv
            cases ha'
            refine out_eff rfl (v' := goInt ((min n dl : Nat) : Int)) ?_ (.refl rfl) hm' hf'
            simp [Builtin.copy_, run_underlying ht, sizeOf, typeInfo, hi, hln, hr'', hrun]
        · cases ha
      · cases ha
        rcases hd.slice_inv with ⟨_, rfl⟩ | ⟨j, o, y, c', h1, _⟩
        · refine out_val rfl (v' := goInt ((min n dl : Nat) : Int)) ?_ (.refl rfl)
          simp [Builtin.copy_, run_underlying ht, sizeOf, typeInfo, hi, hln, hr'']
        · cases h1
    · cases ha
  · cases ha
def VRO (σ : Sg) (v v' : Option Value) : Prop := (v = none ∧ v' = none) ∨ ∃ x x', v = some x ∧ v' = some x' ∧ VR σ x x'
theorem bound_sound {v v' : Option Value} {d hi r : Nat} (h : bound v d hi = some r) (hv : VRO σ v v') : (v = none ∧ v' = none ∧ r = d) ∨ ∃ k, v' = some (.int k r) ∧ r ≤ hi := by
  unfold bound at h
  split at h
  · cases h
    rcases hv with ⟨_, h2⟩ | ⟨x, x', h1, _⟩
    · exact .inl ⟨rfl, h2, rfl⟩
    · cases h1
  · rename_i k i
    rcases hv with ⟨h1, _⟩ | ⟨x, x', h1, h2, hr⟩
    · cases h1
    · cases h1
      obtain rfl := hr.simple_inv rfl
      cases hb : Nat.ble i hi with
      | false => rw [hb] at h; cases h
      | true =>
        rw [hb] at h
        have h3 : some i = some r := h
        cases h3
        exact .inr ⟨k, h2, Nat.le_of_ble_eq_true hb⟩
  · cases h
theorem run_bounds {isS : Bool} {len cap : Nat} {lo hi mx : Option Value} {l h m : Nat} (hm : (mx = none ∧ m = cap) ∨ ∃ k, mx = some (.int k m) ∧ m ≤ cap) (hh : (hi = none ∧ h = len) ∨ ∃ k, hi = some (.int k h) ∧ h ≤ m) (hhm : hi = none → mx = none)
    (hl : (lo = none ∧ l = 0) ∨ ∃ k, lo = some (.int k l) ∧ l ≤ h) (w : World) : (Instr.sliceBounds isS len cap lo hi mx).run P w = .ok (l, h, m) w := by
  have sb : ∀ (k : IntKind) (a b : Nat) (code : BoundsCode), a ≤ b → (Instr.sliceBound (.int k a) b code).run P w = .ok a w := by
    intro k a b code hab
    simp only [Instr.sliceBound, asIntOf, Sem.run_bind, Sem.run_pure, Result.andThen_ok]
    rw [if_pos ⟨by omega, by omega⟩]; rfl
  unfold Instr.sliceBounds
  rcases hm with ⟨rfl, rfl⟩ | ⟨k1, rfl, h1⟩ <;> rcases hh with ⟨rfl, rfl⟩ | ⟨k2, rfl, h2⟩ <;> rcases hl with ⟨rfl, rfl⟩ | ⟨k3, rfl, h3⟩ <;>
    first | (cases hhm rfl; done) | simp [*]
theorem run_sliceAt {t e : TypeId} {i : TypeInfo} (ht : P.underlying t = some (.slice e)) (hi : P.info? e = some i) {a : Option Addr} {len cap l h mm : Nat} {lo hi' mx : Option Value} {w : World}
    (hb : (Instr.sliceBounds true len cap lo hi' mx).run P w = .ok (l, h, mm) w) : (Instr.sliceAt t (.slice a len cap) lo hi' mx).run P w = .ok (.slice (if mm = l then a else a.map (·.add (l * i.size))) (h - l) (mm - l)) w := by
  simp [Instr.sliceAt, Instr.slice, run_underlying ht, hb, sizeOf, typeInfo, hi]
theorem sliceS_sound (hE : EOK E P) (hM : MR E w0 σ m w) {t e : TypeId} {te : TI} (ht : P.underlying t = some (.slice e)) (hte : E.types.get e = some te) {x x' : Value} {lo hi mx lo' hi' mx' : Option Value} (hne : sliceS e te.size x lo hi mx m ≠ []) (hx : VR σ x x')
    (hlo : VRO σ lo lo') (hhi : VRO σ hi hi') (hmx : VRO σ mx mx') (hmh : (hi.isNone && mx.isSome) = false) :
    ∃ out ∈ sliceS e te.size x lo hi mx m, OutOK E P w0 σ m w (do pure (.value (← Instr.sliceAt t x' lo' hi' mx'))) out := by
  obtain ⟨_, i, z, hi0, hsz, _⟩ := hE.types e te hte
  have hmh' : hi' = none → mx' = none := by
    intro he
    rcases hhi with ⟨h1, _⟩ | ⟨_, _, _, h2, _⟩
    · rcases hmx with ⟨_, h3⟩ | ⟨_, _, h3, _⟩
      · exact h3
      · subst h1 h3; cases hmh
    · rw [he] at h2; cases h2
  have fin : ∀ {j o len cap c' : Nat} {y : Inf} {l h mm : Nat}, x' = .slice (some ⟨y.b, y.sh + o, none⟩) len c' → σ j = some y → ((mx' = none ∧ mm = c') ∨ ∃ k, mx' = some (.int k mm) ∧ mm ≤ c') → ((hi' = none ∧ h = len) ∨ ∃ k, hi' = some (.int k h) ∧ h ≤ mm) → ((lo' = none ∧ l = 0) ∨ ∃ k, lo' = some (.int k l) ∧ l ≤ h) →
      mm < OPEN → OutOK E P w0 σ m w (do pure (.value (← Instr.sliceAt t x' lo' hi' mx'))) (.val (.slice (some (cond (Nat.beq mm l) ⟨j, o, none⟩ ⟨j, o + l * te.size, none⟩)) (h - l) (mm - l))) := by
    intro j o len cap c' y l h mm hx' hy h1 h2 h3 hlt
    subst hx'
    have hb := run_bounds (P := P) (isS := true) (len := len) (cap := c') h1 h2 hmh' h3 w
    refine out_val rfl (run_sliceAt ht hi0 hb) ?_
    by_cases e1 : mm = l
    · subst e1
      simp only [if_true, Nat.beq_refl, cond]
      exact .slice hy (fun _ => rfl) (fun ho => by omega)
    · have : Nat.beq mm l = false := by
        cases hb2 : Nat.beq mm l with
        | false => rfl
        | true => exact absurd (Nat.eq_of_beq_eq_true hb2) e1
      simp only [e1, if_false, this, cond, Option.map_some, addr_add, hsz, Nat.add_assoc]
      exact .slice hy (fun _ => rfl) (fun ho => by omega)
  generalize hL : sliceS e te.size x lo hi mx m = L at hne ⊢
  unfold sliceS at hL
  split at hL
  · rename_i a len cap
    rcases hx.slice_inv with ⟨h1, _⟩ | ⟨j, o, y, c', h1, hx', hy, hc1, hc2⟩
    · cases h1
    cases h1
    split at hL
    · rename_i mv hop
      have hcap : OPEN ≤ cap := Nat.le_of_ble_eq_true hop
      obtain ⟨hc3, hc4⟩ := hc2 hcap
      split at hL
      · rename_i mm hbm hl9
        have hl9 := Nat.le_of_ble_eq_true hl9
        split at hL
        · rename_i h hbh
          split at hL
          · rename_i l hbl
            subst hL; refine ⟨_, List.mem_singleton.2 rfl, ?_⟩
            have h1 := bound_sound hbm hmx
            have h2 := bound_sound hbh hhi
            have h3 := bound_sound hbl hlo
            have hmm : mm ≤ len := by
              rcases h1 with ⟨h, _⟩ | ⟨k, _, h⟩
              · cases h
              · exact h
            refine fin (cap := cap) hx' hy ?_ (h2.imp (fun ⟨_, a, b⟩ => ⟨a, b⟩) id) (h3.imp (fun ⟨_, a, b⟩ => ⟨a, b⟩) id) (by unfold OPEN; omega)
            rcases h1 with ⟨h, _⟩ | ⟨k, h5, h6⟩
            · cases h
            · exact .inr ⟨k, h5, by omega⟩
          · exact absurd hL.symm hne
        · exact absurd hL.symm hne
      · exact absurd hL.symm hne
    · rename_i hop
      have hcap : OPEN ≤ cap := Nat.le_of_ble_eq_true hop
      obtain ⟨hc3, hc4⟩ := hc2 hcap
      split at hL
      · rename_i cells k e' hrow
        split at hL
        · rename_i h hee hbh
          obtain rfl := Nat.eq_of_beq_eq_true hee
          obtain ⟨C, fz, hB, hob, hf, hN, hn, ⟨ti', hti', hys⟩, hc⟩ := hM.row hrow hy
          obtain rfl : ti' = te := by rw [hte] at hti'; exact (Option.some.inj hti').symm
          have hmx' : mx' = none := by
            rcases hmx with ⟨_, h⟩ | ⟨_, _, h, _⟩
            · exact h
            · cases h
          have h2 := bound_sound hbh hhi
          have hhl : h ≤ len := by
            rcases h2 with ⟨_, _, h⟩ | ⟨_, _, h⟩
            · omega
            · exact h
          split at hL
          · rename_i l hbl
            have h3 := bound_sound hbl hlo
            have hlh : l ≤ h := by
              rcases h3 with ⟨_, _, h⟩ | ⟨_, _, h⟩
              · omega
              · exact h
            have hb := run_bounds (P := P) (isS := true) (len := len) (cap := c') (mx := mx') (hi := hi') (lo := lo') (m := c') (h := h) (l := l) (.inl ⟨hmx', rfl⟩) (h2.imp (fun ⟨_, a, b⟩ => ⟨a, b⟩) (fun ⟨k, a, b⟩ => ⟨k, a, by omega⟩)) hmh' (h3.imp (fun ⟨_, a, b⟩ => ⟨a, b⟩) id) w
            subst hx'
            have hrun := run_sliceAt (P := P) ht hi0 hb (a := some ⟨y.b, y.sh + o, none⟩)
            have room : l ≤ c' → o + l * ti'.size + (c' - l) * y.s ≤ y.N := by
              intro hl
              rw [hys, Nat.add_assoc, ← Nat.add_mul, show l + (c' - l) = c' from by omega, ← hys]
              exact hc4
            split at hL
            · rename_i hb1
              have hlt : l ≠ len := fun e => by rw [e, Nat.beq_refl] at hb1; cases hb1
              subst hL; refine ⟨_, List.mem_singleton.2 rfl, ?_⟩
              refine out_val rfl hrun ?_
              rw [if_neg (by omega)]
              simp only [Option.map_some, addr_add, hsz, Nat.add_assoc]
              exact .slice hy (fun hc => absurd hc (Nat.lt_irrefl _)) (fun _ => ⟨by omega, room (by omega)⟩)
            · rename_i hb1
              obtain rfl := Nat.eq_of_beq_eq_true hb1
              obtain rfl : h = l := by omega
              split at hL
              · subst hL; refine ⟨_, List.mem_singleton.2 rfl, ?_⟩
                refine out_val rfl hrun ?_
                have : (if c' = 0 then some (⟨y.b, y.sh + o, none⟩ : Addr) else Option.map (fun x : Addr => x.add (0 * i.size)) (some (⟨y.b, y.sh + o, none⟩ : Addr))) = some ⟨y.b, y.sh + o, none⟩ := by
                  split
                  · rfl
                  · simp [addr_add]
                rw [this]
                exact .slice hy hc1 (fun _ => ⟨by omega, by simpa using hc4⟩)
              · rename_i hl0
                subst hL; refine ⟨.val topE, by simp, ?_⟩
                refine out_val rfl hrun ?_
                rw [Nat.sub_self]
                exact .topE _ _
          · exact absurd hL.symm hne
        · exact absurd hL.symm hne
      · exact absurd hL.symm hne
    · rename_i hop
      have hcap : cap < OPEN := by
        rcases Nat.lt_or_ge cap OPEN with h1 | h1
        · exact h1
        · rw [Nat.ble_eq_true_of_le h1] at hop; cases hop
      obtain rfl := hc1 hcap
      split at hL
      · rename_i mm hbm
        split at hL
        · rename_i h hbh
          split at hL
          · rename_i l hbl
            subst hL; refine ⟨_, List.mem_singleton.2 rfl, ?_⟩
            have h1 := bound_sound hbm hmx
            have h2 := bound_sound hbh hhi
            have h3 := bound_sound hbl hlo
            refine fin (cap := c') hx' hy (h1.imp (fun ⟨_, a, b⟩ => ⟨a, b⟩) id) (h2.imp (fun ⟨_, a, b⟩ => ⟨a, b⟩) id) (h3.imp (fun ⟨_, a, b⟩ => ⟨a, b⟩) id) ?_
            rcases h1 with ⟨_, _, h⟩ | ⟨_, _, h⟩ <;> omega
          · exact absurd hL.symm hne
        · exact absurd hL.symm hne
      · exact absurd hL.symm hne
  · split at hL
    · rename_i r1 hbm
      split at hL
      · rename_i r2 hbh
        split at hL
        · rename_i r3 hbl
          subst hL; refine ⟨_, List.mem_singleton.2 rfl, ?_⟩
          obtain rfl := hx.simple_inv rfl
          have z1 : r1 = 0 := by rcases bound_sound hbm hmx with ⟨_, _, h⟩ | ⟨_, _, h⟩ <;> omega
          have z2 : r2 = 0 := by rcases bound_sound hbh hhi with ⟨_, _, h⟩ | ⟨_, _, h⟩ <;> omega
          have z3 : r3 = 0 := by rcases bound_sound hbl hlo with ⟨_, _, h⟩ | ⟨_, _, h⟩ <;> omega
          subst z1 z2 z3
          have hb := run_bounds (P := P) (isS := true) (len := 0) (cap := 0) ((bound_sound hbm hmx).imp (fun ⟨_, a, b⟩ => ⟨a, b⟩) id) ((bound_sound hbh hhi).imp (fun ⟨_, a, b⟩ => ⟨a, b⟩) id) hmh' ((bound_sound hbl hlo).imp (fun ⟨_, a, b⟩ => ⟨a, b⟩) id) w
          exact out_val rfl (run_sliceAt ht hi0 hb) (by simpa using VR.refl rfl)
        · exact absurd hL.symm hne
      · exact absurd hL.symm hne
    · exact absurd hL.symm hne
  · exact absurd hL.symm hne
end Go.AS
set_option linter.unusedSectionVars false
namespace Go.AS
open Go.RowKit
variable [Rho]
variable {E : Env} {P : Program} {w0 : World} {σ : Sg} {m : Mem} {w : World}
theorem places_run {P : Program} (hE : EOK E P) : ∀ {fs : List Field} {l : List (Nat × Nat)}, places E fs = some l → fs.mapM (fun f => (P.info? f.type).map fun i => (f.offset, i.size)) = some l := by
  intro fs
  induction fs with
  | nil => intro l h; simp [places] at h; subst h; rfl
  | cons f fs ih =>
    intro l h
    simp only [places] at h
    split at h
    · rename_i ti l' hti hl
      cases h
      obtain ⟨_, i, z, hi, hsz, _⟩ := hE.types _ _ hti
      have := ih hl
      simp [List.mapM_cons, hi, hsz, this]
    · cases h
def VRP (σ : Sg) (l l' : List (Nat × Value)) : Prop := l.length = l'.length ∧ ∀ (i : Nat) a b, l[i]? = some a → l'[i]? = some b → a.1 = b.1 ∧ VR σ a.2 b.2
theorem VRP.tail {a b : Nat × Value} {l l' : List (Nat × Value)} (h : VRP σ (a :: l) (b :: l')) : VRP σ l l' := ⟨by simpa using h.1, fun i x y hx hy => h.2 (i + 1) x y (by simpa using hx) (by simpa using hy)⟩
theorem VRP.head {a b : Nat × Value} {l l' : List (Nat × Value)} (h : VRP σ (a :: l) (b :: l')) : a.1 = b.1 ∧ VR σ a.2 b.2 := h.2 0 a b rfl rfl
theorem VRP.cons_inv {a : Nat × Value} {l l' : List (Nat × Value)} (h : VRP σ (a :: l) l') : ∃ b r, l' = b :: r := by
  cases l' with
  | nil => exact absurd h.1 (by simp)
  | cons b r => exact ⟨b, r, rfl⟩
theorem foldl_set (l : List Value) : ∀ (off k : Nat) (c : Array Value), (((l.zipIdx k).foldl (fun cs x => cs.setIfInBounds (off + x.2) x.1) c).size = c.size) ∧
    ∀ j, ((l.zipIdx k).foldl (fun cs x => cs.setIfInBounds (off + x.2) x.1) c)[j]? = if off + k ≤ j ∧ j < off + k + l.length ∧ j < c.size then l[j - (off + k)]? else c[j]? := by
  induction l with
  | nil => intro off k c; exact ⟨rfl, fun j => by rw [if_neg (by simp; omega)]; rfl⟩
  | cons v l ih =>
    intro off k c
    simp only [List.zipIdx_cons, List.foldl_cons, List.length_cons]
    obtain ⟨h1, h2⟩ := ih off (k + 1) (c.setIfInBounds (off + k) v)
    refine ⟨by rw [h1]; simp, fun j => ?_⟩
    rw [h2 j]
    simp only [Array.size_setIfInBounds]
    by_cases h10 : off + (k + 1) ≤ j ∧ j < off + (k + 1) + l.length ∧ j < c.size
    · rw [if_pos h10, if_pos (by omega), show j - (off + k) = (j - (off + (k + 1))) + 1 from by omega, List.getElem?_cons_succ]
    · rw [if_neg h10, Array.getElem?_setIfInBounds]
      by_cases h11 : off + k = j
      · rw [if_pos h11]
        by_cases h12 : off + k < c.size
        · rw [if_pos h12, if_pos (by omega)]; simp [h11]
        · rw [if_neg h12, if_neg (by omega), Array.getElem?_eq_none (by omega)]
      · rw [if_neg h11, if_neg (by omega)]
theorem zipIdx_arr (c : Array Value) (cs : Array Value) (off : Nat) : c.zipIdx.foldl (fun cs (x : Value × Nat) => cs.setIfInBounds (off + x.2) x.1) cs = (c.toList.zipIdx 0).foldl (fun cs x => cs.setIfInBounds (off + x.2) x.1) cs := by
  rw [← Array.foldl_toList, Array.toList_zipIdx]
theorem fill_sound {pl : Nat → Option (Nat × Nat)} : ∀ {parts parts' : List (Nat × Value)} {c c' : Array Value} {r : Array Value}, Instr.fill pl c parts = some r → anyBad parts = false → VRP σ parts parts' → VRL σ c.toList c'.toList →
    ∃ r', Instr.fill pl c' parts' = some r' ∧ VRL σ r.toList r'.toList := by
  intro parts
  induction parts with
  | nil =>
    intro parts' c c' r h hb hp hc
    have : parts' = [] := List.eq_nil_of_length_eq_zero hp.1.symm
    subst this
    simp [Instr.fill] at h ⊢
    subst h; exact hc
  | cons a parts ih =>
    intro parts' c c' r h hb hp hc
    obtain ⟨b, rest, rfl⟩ := hp.cons_inv
    obtain ⟨i, v⟩ := a
    obtain ⟨i', v'⟩ := b
    obtain ⟨e1, hv⟩ := hp.head
    simp only at e1 hv
    subst e1
    simp only [anyBad] at hb
    have hnb : v ≠ bad := by
      rintro rfl
      simp [isBad, bad] at hb
    have hb' : anyBad parts = false := by
      cases h3 : isBad v with
      | true => rw [h3] at hb; cases hb
      | false => rw [h3] at hb; exact hb
    have hcs := hv.cells hnb
    have hsz : v.cells.size = v'.cells.size := by have := hcs.1; simpa [cellsOf] using this
    simp only [Instr.fill] at h ⊢
    split at h
    · cases h
    · rename_i off size hpl
      try rw [hpl]
      try simp only
      have hcsz : c.size = c'.size := by simpa using hc.1
      rw [← hsz, ← hcsz]
      split at h
      · cases h
      · rename_i hok
        rw [if_neg hok]
        refine ih h hb' hp.tail ?_
        have key : ∀ (cs : Array Value) (cells : Array Value), (cs.zipIdx.foldl (fun (cs : Array Value) (x : Value × Nat) => match x with | (c, j) => cs.setIfInBounds (off + j) c) cells) = (cs.toList.zipIdx 0).foldl (fun cs x => cs.setIfInBounds (off + x.2) x.1) cells := fun cs cells => zipIdx_arr cs cells off
        rw [key, key]
        obtain ⟨s1, g1⟩ := foldl_set v.cells.toList off 0 c
        obtain ⟨s2, g2⟩ := foldl_set v'.cells.toList off 0 c'
        refine VRL.of_getElem? (by simp only [Array.length_toList]; rw [s1, s2]; exact hcsz) (fun j x x' hx hx' => ?_)
        rw [Array.getElem?_toList, g1] at hx
        rw [Array.getElem?_toList, g2] at hx'
        have hl2 : v'.cells.toList.length = v.cells.toList.length := by simp [hsz]
        split at hx
        · rename_i hin
          rw [if_pos (by omega)] at hx'
          obtain ⟨y, hy1, hy2⟩ := hcs.getElem? hx
          rw [hx'] at hy1; cases hy1
          exact hy2
        · rename_i hin
          rw [if_neg (by omega)] at hx'
          obtain ⟨y, hy1, hy2⟩ := hc.getElem? (by rw [Array.getElem?_toList]; exact hx)
          rw [Array.getElem?_toList, hx'] at hy1; cases hy1
          exact hy2
theorem build_sound (hE : EOK E P) {t : TypeId} {parts : List (Nat × Value)} {parts' : Array (Nat × Value)} {v : Value} (h : buildA E t parts = some v) (hp : VRP σ parts parts'.toList) (w : World) : ∃ v', (Instr.build t parts').run P w = .ok v' w ∧ VR σ v v' := by
  unfold buildA at h
  split at h
  · rename_i ti hti hb
    obtain ⟨hu, i, z, hi, hsz, hby, hz, hzc, hzl, hzs, _⟩ := hE.types t ti hti
    have hzz : z.cells = ti.zero.toArray := by rw [← hzc]
    have hz0 : VRL σ ti.zero.toArray.toList z.cells.toList := by rw [hzc]; exact VRL.simple hzs
    split at h
    · rename_i fs hd
      split at h
      · rename_i pl hpl
        split at h
        · rename_i cells hf
          cases h
          obtain ⟨r', hr1, hr2⟩ := fill_sound hf hb hp hz0
          refine ⟨.agg r', run_build w t parts' r' ?_, .agg_of hr2⟩
          simp only [Program.built, hi, hu, hd, hz, places_run hE hpl]
          exact hr1
        · cases h
      · cases h
    · rename_i n e hd
      split at h
      · rename_i te hte
        obtain ⟨_, ie, ze, hie, hesz, _⟩ := hE.types e te hte
        split at h
        · rename_i cells hf
          cases h
          obtain ⟨r', hr1, hr2⟩ := fill_sound hf hb hp hz0
          refine ⟨.agg r', run_build w t parts' r' ?_, .agg_of hr2⟩
          simp only [Program.built, hi, hu, hd, hz, hie, hesz]
          exact hr1
        · cases h
      · cases h
    · cases h
  · cases h
theorem rep_len (z : List Value) : ∀ n, (rep n z).length = n * z.length := by
  intro n
  induction n with
  | zero => simp [rep]
  | succ n ih => simp [rep, ih, Nat.add_mul]; omega
theorem rep_get (z : List Value) (_hz : 0 < z.length) : ∀ (n j : Nat), j < n * z.length → (rep n z)[j]? = z[j % z.length]? := by
  intro n
  induction n with
  | zero => intro j hj; simp at hj
  | succ n ih =>
    intro j hj
    simp only [rep]
    by_cases h : j < z.length
    · rw [List.getElem?_append_left h, Nat.mod_eq_of_lt h]
    · rw [List.getElem?_append_right (by omega), ih _ (by rw [Nat.add_mul] at hj; omega)]
      congr 1
      exact (Nat.mod_eq_sub_mod (by omega)).symm
theorem rep_made (z : Array Value) (n : Nat) (hz : 0 < z.size) : (Array.range (n * z.size)).map (z[· % z.size]!) = (rep n z.toList).toArray := by
  apply Array.ext'
  apply List.ext_getElem?
  intro j
  by_cases hj : j < n * z.size
  · rw [List.toList_toArray, rep_get z.toList (by simpa using hz) n j (by simpa using hj)]
    have hm : j % z.size < z.size := Nat.mod_lt _ hz
    simp [hj, hm]
  · rw [List.getElem?_eq_none (by simp; omega), List.getElem?_eq_none (by simp [rep_len]; omega)]
theorem rep_simple {z : List Value} (hz : ∀ v ∈ z, simple v = true) : ∀ n, ∀ v ∈ rep n z, simple v = true := by
  intro n
  induction n with
  | zero => intro v hv; simp [rep] at hv
  | succ n ih =>
    intro v hv
    simp only [rep, List.mem_append] at hv
    rcases hv with h | h
    · exact hz v h
    · exact ih v h
theorem buildSlice_sound (hE : EOK E P) {t : TypeId} {len : Nat} {parts : List (Nat × Value)} {parts' : Array (Nat × Value)} {out : Out} (h : buildSliceA E t len parts = some out) (hp : VRP σ parts parts'.toList) :
    OutOK E P w0 σ m w (do pure (.value (← Instr.buildSlice t len parts'))) out := by
  unfold buildSliceA at h
  split at h
  · rename_i e te hel hb
    obtain ⟨ht, hte⟩ := elemSize_spec hE hel
    obtain ⟨_, i, z, hi, hsz, hby, hz, hzc, hzl, hzs, _⟩ := hE.types e te hte
    split at h
    · rename_i s hle hs1
      have hle' := Nat.le_of_ble_eq_true hle
      split at h
      · rename_i cells hf
        cases h
        have hs1 : te.size = s + 1 := hs1
        have hzsz : z.cells.size = s + 1 := by rw [← hs1, ← hzl, ← hzc]; simp
        have hzl' : z.cells.toList = te.zero := hzc
        obtain ⟨r', hr1, hr2⟩ := fill_sound (σ := σ) (c' := (rep len te.zero).toArray) hf hb hp (by simpa using VRL.simple (rep_simple hzs len))
        have hrun : (Instr.buildSlice t len parts').run P w = .ok (.slice (some ⟨w.heap.size, 0, none⟩) len len) (w.alloc (.cells r' e)) := by
          have hsm : ¬ len * i.size > 2 ^ 24 := by rw [hsz]; omega
          have hpl : (fun j => some (j * i.size, i.size)) = (fun j => some (j * (s + 1), s + 1)) := by rw [hsz, hs1]
          by_cases h0 : len * i.size = 0
          · have hl0 : len = 0 := by
              rw [hsz, hs1] at h0
              rcases Nat.mul_eq_zero.1 h0 with h | h
              · exact h
              · omega
            subst hl0
            have he : (rep 0 te.zero).toArray = #[] := rfl
            rw [he] at hr1
            have hc0 : ∀ z0 : Array Value, (Array.range (0 * i.size)).map (z0[· % z0.size]!) = #[] := fun z0 => by rw [Nat.zero_mul, Array.range_zero']; simp
            simp only [Instr.buildSlice, Sem.run_bind, run_underlying ht, Result.andThen_ok, sizeOf_run hi, Sem.run_ite, if_neg hsm, if_pos h0, Sem.run_pure, hc0, hpl, hr1]
            simp [Go.newRow]
          · refine run_buildSlice w t e len parts' r' i z ht hi hz hsm h0 ?_
            have hcells : (Array.range (len * i.size)).map (z.cells[· % z.cells.size]!) = (rep len te.zero).toArray := by
              rw [hsz, hs1, ← hzl']
              have := rep_made z.cells len (by omega)
              rw [hzsz] at this ⊢
              exact this
            rw [hcells, hpl]; exact hr1
        have hor := OR.newRow (w := w) (e := e) hte hr2
        have harr : r'.toList.toArray = r' := by simp
        rw [harr] at hor
        refine out_new rfl hrun rfl rfl hor (fun σ' id hx => ?_)
        exact .slice hx (fun _ => rfl) (fun ho => absurd ho (by
          have : len ≤ 100000 := Nat.le_trans (Nat.le_mul_of_pos_right len (by omega)) hle'
          unfold OPEN; omega))
      · cases h
    · cases h
  · cases h
theorem makeSlice_sound (hE : EOK E P) {t : TypeId} {l c l' c' : Value} {out : Out} (h : makeSliceA E t l c = some out) (hl : VR σ l l') (hc : VR σ c c') :
    OutOK E P w0 σ m w (do pure (.value (← Instr.makeSlice t l' c'))) out := by
  unfold makeSliceA at h
  split at h
  · rename_i e te k1 ln k2 cn hel
    obtain ⟨ht, hte⟩ := elemSize_spec hE hel
    obtain ⟨_, i, z, hi, hsz, hby, hz, hzc, hzl, hzs, _⟩ := hE.types e te hte
    obtain rfl := hl.simple_inv rfl
    obtain rfl := hc.simple_inv rfl
    split at h
    · rename_i h1 h2 h3 h4
      have h1' := Nat.le_of_ble_eq_true h1
      have h2' := Nat.le_of_ble_eq_true h2
      have h3' := Nat.le_of_ble_eq_true h3
      have h4' := Nat.le_of_ble_eq_true h4
      cases h
      have hb : (i.bytes : Int) * (cn : Int) ≤ 281474976710656 := by
        have : i.bytes * cn ≤ 100000 * 1000000 := Nat.mul_le_mul (by omega) h3'
        have h5 : ((i.bytes * cn : Nat) : Int) ≤ 281474976710656 := by omega
        rwa [Int.natCast_mul] at h5
      have hrun := run_make (P := P) w t e i z ht hi hz k1 k2 ln cn (by omega) (by omega) hb (by omega)
      have hcells : madeCells z.cells ((cn : Int).toNat * i.size) = (rep cn te.zero).toArray := by
        rw [Int.toNat_natCast, hsz]
        by_cases h0 : te.size = 0
        · have : te.zero = [] := List.eq_nil_of_length_eq_zero (by rw [hzl, h0])
          have h6 : (rep cn te.zero).length = 0 := by rw [rep_len, this]; simp
          rw [h0, List.eq_nil_of_length_eq_zero h6]
          unfold madeCells
          simp
        · have hzsz : z.cells.size = te.size := by rw [← hzl, ← hzc]; simp
          have := rep_made z.cells cn (by omega)
          rw [hzc, hzsz] at this
          unfold madeCells
          rw [hzsz]; exact this
      rw [hcells] at hrun
      simp only [Int.toNat_natCast] at hrun
      have hor := OR.newRow (w := w) (e := e) hte (VRL.simple (σ := σ) (rep_simple hzs cn))
      refine out_new rfl hrun rfl rfl hor (fun σ' id hx => ?_)
      exact .slice hx (fun _ => rfl) (fun ho => absurd ho (by unfold OPEN; omega))
    · cases h
  · cases h
theorem fieldAddr_sound (hE : EOK E P) {t : TypeId} {x x' v : Value} {f : Nat} (h : fieldAddrA E t x f = some v) (hx : VR σ x x') (w : World) : ∃ v', (Instr.fieldAt t x' f).run P w = .ok v' w ∧ VR σ v v' := by
  unfold fieldAddrA at h
  split at h
  · rename_i ti a hti
    obtain ⟨hu, _⟩ := hE.types t ti hti
    split at h
    · rename_i fs hd
      split at h
      · rename_i fd hfd
        split at h
        · rename_i tf htf
          obtain ⟨_, i, z, hi, hsz, _⟩ := hE.types _ _ htf
          split at h
          · cases h
          · rename_i hne
            cases h
            cases hx with
            | refl hs => simp [AS.simple] at hs
            | ptr hσ =>
              refine ⟨_, ?_, .ptr hσ⟩
              have hn : ¬ i.size = 0 := by rw [hsz]; exact fun e => hne e
              simp [Instr.fieldAt, run_underlying hu, hd, hfd, Instr.sureAddr, fieldPlace, sizeOf_run hi, hn, addr_add, Nat.add_assoc]
        · cases h
      · cases h
    · cases h
  · cases h
theorem field_sound (hE : EOK E P) {t : TypeId} {x x' v : Value} {f : Nat} (h : fieldA E t x f = some v) (hx : VR σ x x') (w : World) : ∃ v', (Instr.field t x' f).run P w = .ok v' w ∧ VR σ v v' := by
  unfold fieldA at h
  split at h
  · rename_i ti cs hti
    obtain ⟨hu, _⟩ := hE.types t ti hti
    split at h
    · rename_i fs hd
      split at h
      · rename_i fd hfd
        obtain ⟨cs', rfl, hcs⟩ := hx.agg_inv
        obtain ⟨v', hr, hv⟩ := partA_sound hE h hcs w
        exact ⟨v', by simp [Instr.field, run_underlying hu, hd, hfd, asAgg, hr], hv⟩
      · cases h
    · cases h
  · cases h
theorem indexAddr_sound (hE : EOK E P) {t : TypeId} {x x' i i' v : Value} (h : indexAddrA E t x i = some v) (hx : VR σ x x') (hi : VR σ i i') (w : World) : ∃ v', (Instr.indexAt t x' i').run P w = .ok v' w ∧ VR σ v v' := by
  unfold indexAddrA at h
  split at h
  · rename_i ti k n hti
    obtain ⟨hu, _⟩ := hE.types t ti hti
    obtain rfl := hi.simple_inv rfl
    split at h
    · rename_i e a len cap hd
      split at h
      · rename_i te hte hlt
        have hlt' : n < len := Nat.le_of_ble_eq_true hlt
        obtain ⟨_, ie, z, hie, hsz, _⟩ := hE.types _ _ hte
        cases h
        rcases hx.slice_inv with ⟨h1, _⟩ | ⟨j, o, y, c', h1, rfl, hy, _, _⟩
        · cases h1
        · cases h1
          refine ⟨_, ?_, .ptr hy⟩
          have hin : (0 : Int) ≤ Int.ofNat n ∧ Int.ofNat n < (len : Int) := ⟨Int.natCast_nonneg n, by show (n : Int) < len; omega⟩
          simp [Instr.indexAt, asIntOf, run_underlying hu, hd, sizeOf_run hie, addr_add, hsz, Nat.add_assoc]
          omega
      · cases h
    · rename_i len e a hd
      split at h
      · rename_i te hte hlt
        have hlt' : n < len := Nat.le_of_ble_eq_true hlt
        obtain ⟨_, ie, z, hie, hsz, _⟩ := hE.types _ _ hte
        cases h
        cases hx with
        | refl hs => simp [AS.simple] at hs
        | ptr hy =>
          refine ⟨_, ?_, .ptr hy⟩
          simp [Instr.indexAt, asIntOf, run_underlying hu, hd, sizeOf_run hie, addr_add, hsz, Nat.add_assoc, Instr.sureAddr]
          omega
      · cases h
    · cases h
  · cases h
theorem index_sound (hE : EOK E P) {t : TypeId} {x x' i i' v : Value} (h : indexA E t x i = some v) (hx : VR σ x x') (hi : VR σ i i') (w : World) : ∃ v', (Instr.index t x' i').run P w = .ok v' w ∧ VR σ v v' := by
  unfold indexA at h
  split at h
  · rename_i ti k n hti
    obtain ⟨hu, _⟩ := hE.types t ti hti
    obtain rfl := hi.simple_inv rfl
    split at h
    · rename_i len e cs hd
      split at h
      · rename_i te hte hlt
        have hlt' : n < len := Nat.le_of_ble_eq_true hlt
        obtain ⟨_, ie, z, hie, hsz, _⟩ := hE.types _ _ hte
        obtain ⟨cs', rfl, hcs⟩ := hx.agg_inv
        obtain ⟨v', hr, hv⟩ := partA_sound hE h hcs w
        refine ⟨v', ?_, hv⟩
        have hin : (0 : Int) ≤ Int.ofNat n ∧ Int.ofNat n < (len : Int) := ⟨Int.natCast_nonneg n, by show (n : Int) < len; omega⟩
        simp only [Instr.index, asIntOf, Sem.run_bind, Sem.run_pure, Result.andThen_ok, run_underlying hu, hd, Sem.run_ite, if_pos hin, sizeOf_run hie, hsz]
        exact hr
      · cases h
    · rename_i s hd
      split at h
      · rename_i b hb
        cases h
        obtain rfl := hx.simple_inv rfl
        refine ⟨.int .u8 b.toNat, ?_, .refl rfl⟩
        have hsb : s[n]? = some b := by
          have h1 : s.data[n]? = some b := by simpa using hb
          obtain ⟨h2, h3⟩ := Array.getElem?_eq_some_iff.1 h1
          have h4 : n < s.size := h2
          rw [getElem?_pos s n h4]
          exact congrArg some h3
        simp [Instr.index, asIntOf, run_underlying hu, hd, hsb]
      · cases h
    · cases h
  · cases h
end Go.AS
set_option linter.unusedSectionVars false
namespace Go.AS
open Go.RowKit
variable [Rho]
variable {E : Env} {P : Program} {w0 : World} {σ : Sg} {m : Mem} {w : World}
theorem store_sound (hE : EOK E P) (h : MR E w0 σ m w) {t : TypeId} {a x a' x' : Value} {m' : Mem} (hs : storeA E t a x m = some m') (ha : VR σ a a') (hx : VR σ x x') :
    ∃ w', (Instr.storeAt t a' x').run P w = .ok () w' ∧ MR E w0 σ m' w' ∧ FG σ m w σ m' w' := by
  unfold storeA at hs
  split at hs
  · rename_i ad ti hti hnb
    obtain ⟨hu, i, z, hi, hsz, _⟩ := hE.types t ti hti
    split at hs
    · rename_i hb
      have hb' := Nat.eq_of_beq_eq_true hb
      have hnb' : x ≠ bad := by rintro rfl; simp [isBad, bad] at hnb
      have hcs := hx.cells hnb'
      cases ha with
      | refl h0 => simp [AS.simple] at h0
      | ptr hy =>
        rename_i j o y
        obtain ⟨a', w', ha', _, hrun, hm', hf'⟩ := storeL_sound (P := P) h hs (.ptr hy) hcs
        cases ha'
        refine ⟨w', ?_, hm', hf'⟩
        have hlen : x'.cells.size = i.size := by rw [hsz, ← hb', hcs.1]; simp
        simp [Instr.storeAt, Instr.sureAddr, storeVar, sizeOf_run hi, hlen, hrun]
    · cases hs
  · cases hs
theorem push_modify (a : Array Obj) (x : Obj) (f : Obj → Obj) : (a.push x).modify a.size f = a.push (f x) := by
  apply Array.ext
  · simp
  · intro i h1 h2
    simp only [Array.getElem_modify, Array.getElem_push]
    by_cases h : a.size = i
    · subst h
      simp
    · have hi : i < a.size := by simp at h1; omega
      simp [h, hi]
theorem freeze_alloc (w : World) (C : Array Value) (e : TypeId) (k : Nat) : (w.alloc (.cells C e)).freeze ⟨w.heap.size, k, none⟩ 1 = w.alloc (.cells C e (k, k + 1)) := by
  unfold World.freeze
  rw [if_neg (by decide)]
  show ({ w.alloc (.cells C e) with heap := (w.heap.push (.cells C e)).modify w.heap.size _ } : World) = _
  rw [push_modify]
  rfl
theorem heap_freeze (w : World) (a : Addr) (k : Nat) (h : k ≠ a.block) : (w.freeze a 1).heap[k]? = w.heap[k]? := by
  simp only [World.freeze]
  rw [if_neg (by decide)]
  simp only [Array.getElem?_modify]
  rw [if_neg (fun e => h e.symm)]
theorem heap_freeze_at {w : World} {b : Nat} {C : Array Value} {e : TypeId} {fz : Nat × Nat} (h : w.heap[b]? = some (.cells C e fz)) (k : Nat) :
    (w.freeze ⟨b, k, none⟩ 1).heap[b]? = some (.cells C e (if fz.1 == fz.2 then (k, k + 1) else (min fz.1 k, max fz.2 (k + 1)))) := by
  unfold World.freeze
  rw [if_neg (by decide)]
  simp [Array.getElem?_modify, h]
theorem freeze_os (w : World) (a : Addr) : (w.freeze a 1).os = w.os ∧ (w.freeze a 1).tape = w.tape ∧ (w.freeze a 1).output = w.output ∧ (w.freeze a 1).heap.size = w.heap.size := by
  unfold World.freeze
  rw [if_neg (by decide)]
  exact ⟨rfl, rfl, rfl, by simp⟩
theorem mapM_bytes {l : List Value} : ∀ {bs : List UInt8}, l.mapM (fun v => match v with | .int .u8 (.ofNat b) => some (UInt8.ofNat b) | _ => none) = some bs → ∀ {l' : List Value}, VRL σ l l' →
    ∃ ns : List Int, l' = ns.map (Value.int .u8) ∧ ns.map (fun n => UInt8.ofNat n.toNat) = bs := by
  induction l with
  | nil =>
    intro bs h l' hl
    simp at h; subst h
    have : l' = [] := List.eq_nil_of_length_eq_zero hl.1.symm
    subst this
    exact ⟨[], rfl, rfl⟩
  | cons v l ih =>
    intro bs h l' hl
    cases l' with
    | nil => exact absurd hl.1 (by simp)
    | cons v' l' =>
      simp only [List.mapM_cons, Option.bind_eq_bind, Option.bind_eq_some_iff, Option.pure_def, Option.some.injEq] at h
      obtain ⟨b, hb, r, hr, rfl⟩ := h
      split at hb
      · rename_i n
        cases hb
        obtain ⟨ns, rfl, hns⟩ := ih hr hl.tail
        obtain rfl := hl.head.simple_inv rfl
        exact ⟨Int.ofNat n :: ns, rfl, by simp [hns]⟩
      · cases hb
theorem convert_sound (hE : EOK E P) (h : MR E w0 σ m w) {src dst : TypeId} {x x' : Value} {out : Out} (ha : convertA E src dst x m = some out) (hx : VR σ x x') : OutOK E P w0 σ m w (do pure (.value (← convert src dst x'))) out := by
  unfold convertA at ha
  split at ha
  · rename_i ts td hts htd
    obtain ⟨hus, _⟩ := hE.types src ts hts
    obtain ⟨hud, _⟩ := hE.types dst td htd
    split at ha
    · rename_i k j n hd
      cases ha
      obtain rfl := hx.simple_inv rfl
      refine out_val rfl (v' := .int k (k.wrap n)) ?_ (.refl rfl)
      rw [hd] at hud
      unfold convert
      simp only [Sem.run_bind, run_underlying hus, run_underlying hud, Result.andThen_ok]
      cases ts.desc <;> rfl
    · rename_i s hd
      cases ha
      obtain rfl := hx.simple_inv rfl
      refine out_val rfl (v' := .string s) ?_ (.refl rfl)
      rw [hd] at hud
      unfold convert
      simp only [Sem.run_bind, run_underlying hus, run_underlying hud, Result.andThen_ok]
      cases ts.desc <;> rfl
    · rename_i e s hd
      split at ha
      · rename_i te hte
        obtain ⟨hue, i, z, hi, hsz, _⟩ := hE.types e te hte
        split at ha
        · rename_i hde hs1 hle
          have hle' := Nat.le_of_ble_eq_true hle
          cases ha
          obtain rfl := hx.simple_inv rfl
          rw [hd] at hud
          rw [hde] at hue
          have hss : s.size = s.data.toList.length := by cases s; rfl
          have hcap := grownCap_ge w s.size 0 e
          have hconv : (convert src dst (.string s)).run P w = (Conv.stringToBytes e s).run P w := by
            unfold convert
            simp only [Sem.run_bind, run_underlying hus, run_underlying hud, Result.andThen_ok]
            cases ts.desc <;> simp [run_underlying hue]
          have hrun : (Conv.stringToBytes e s).run P w = .ok (.slice (some ⟨w.heap.size, 0, none⟩) s.data.toList.length (grownCap w s.size 0 e))
              (w.drew.alloc (.cells ((s.data.toList.map fun b => Value.int .u8 b.toNat).toArray ++ (List.replicate (grownCap w s.size 0 e - s.size) (Value.int .u8 0)).toArray) e (grownCap w s.size 0 e, grownCap w s.size 0 e + 1))) := by
            have harr : (s.data.map fun b => Value.int .u8 b.toNat) ++ Array.replicate (grownCap w s.size 0 e - s.size) (Value.int .u8 0) = (s.data.toList.map fun b => Value.int .u8 b.toNat).toArray ++ (List.replicate (grownCap w s.size 0 e - s.size) (Value.int .u8 0)).toArray := by
              apply Array.ext'
              simp
            have hCs : ((s.data.toList.map fun b => Value.int .u8 b.toNat).toArray ++ (List.replicate (grownCap w s.size 0 e - s.size) (Value.int .u8 0)).toArray).size = grownCap w s.size 0 e := by
              simp only [List.append_toArray, List.size_toArray, List.length_append, List.length_map, List.length_replicate]
              omega
            generalize hC : (s.data.toList.map fun b => Value.int .u8 b.toNat).toArray ++ (List.replicate (grownCap w s.size 0 e - s.size) (Value.int .u8 0)).toArray = C at harr hCs
            have hsh : (w.drew.alloc (.cells C e)).shape? w.heap.size = some (e, C.size) := by
              have : (w.drew.alloc (.cells C e)).heap[w.heap.size]? = some (.cells C e) := by
                show (w.heap.push (.cells C e))[w.heap.size]? = _
                simp
              unfold World.shape?
              rw [this]
            have hfr := freeze_alloc w.drew C e C.size
            have hch : (Question.appendCap s.size 0 e).cut (w.tape w.drawn (.appendCap s.size 0 e)) = grownCap w s.size 0 e := rfl
            simp only [Conv.stringToBytes, Sem.run_bind, run_choose, Question.forced, Bool.false_eq_true, if_false, Result.andThen_ok, hch, harr, Go.newRow, run_newObj, Sem.run_pure, markStringish, run_shape, World.alloc_eq, World.drew_eq, World.size_drew]
            rw [hsh]
            simp only [run_freeze, Result.andThen_ok]
            rw [show (⟨w.heap.size, C.size, none⟩ : Addr) = ⟨w.drew.heap.size, C.size, none⟩ from rfl, hfr, hCs, hss]
          have hv : VRL σ (s.data.toList.map fun b => Value.int .u8 b.toNat) (s.data.toList.map fun b => Value.int .u8 b.toNat) := VRL.simple (fun v hv => by
            obtain ⟨b, _, rfl⟩ := List.mem_map.1 hv; rfl)
          have hor := OR.grown (E := E) hte hv w.drew.heap.size _ (rest := List.replicate (grownCap w s.size 0 e - s.size) (Value.int .u8 0)) rfl (grownCap w s.size 0 e, grownCap w s.size 0 e + 1) (.inr (by simp only [List.length_map, List.length_replicate]; omega))
          obtain ⟨hm', hf'⟩ := h.drew.new (id := m.n) (h.fresh m.n (Nat.le_refl _)) (n' := m.n + 1) (by omega) (by omega) (x := ⟨w.drew.heap.size, 0, _, te.size⟩) rfl hor
          have hf' := hf' (Nat.le_refl _)
          refine out_eff rfl (hconv.trans hrun) (.slice (x := ⟨w.drew.heap.size, 0, _, te.size⟩) (if_pos rfl) (fun hc => absurd hc (Nat.lt_irrefl _)) (fun _ => ⟨by omega, ?_⟩)) hm' ⟨hf'.ext, hf'.size, hf'.frame, hf'.grow, hf'.n, hf'.old⟩
          simp only [List.length_map, List.length_replicate, hs1]
          omega
        · cases ha
      · cases ha
    · rename_i e a n c hd
      split at ha
      · rename_i te cells k e' hte hbe hrow
        obtain rfl := Nat.eq_of_beq_eq_true hbe
        obtain ⟨hue, i, z, hi, hsz, _⟩ := hE.types e te hte
        split at ha
        · rename_i hde
          cases ha
          rw [hde] at hue
          rw [hd] at hud
          rcases hx.slice_inv with ⟨h1, _⟩ | ⟨j, o, y, c', h1, rfl, hy, hc1, hc2⟩
          · cases h1
          · cases h1
            obtain ⟨C, fz, hB, hob, hf, hN, hn, hti, hc⟩ := h.row hrow hy
            have hrun : (convert src src (.slice (some ⟨y.b, y.sh + o, none⟩) n c')).run P w = .ok (.slice (some ⟨y.b, y.sh + o, none⟩) n c') (w.freeze ⟨y.b, C.size, none⟩ 1) := by
              simp [convert, run_underlying hud, run_underlying hue, markStringish, World.shape?, hob]
            obtain ⟨f1, f2, f3, f4⟩ := freeze_os w ⟨y.b, C.size, none⟩
            have ht := h.turn (o := .row cells k e') (o' := .row cells k e') hrow rfl hy rfl (w' := w.freeze ⟨y.b, C.size, none⟩ 1) f4 (fun q hq => heap_freeze w _ q hq) f1 f2 f3 (heap_freeze_at hob C.size)
              ⟨rfl, by
                rcases hf with h2 | h2
                · rw [h2]; simp only [BEq.rfl, if_true]; exact .inr (Nat.le_refl _)
                · split
                  · exact .inr (Nat.le_refl _)
                  · exact .inr (by simp only; omega), hN, hn, hti, hc⟩
            have hm2 : MR E w0 σ m (w.freeze ⟨y.b, C.size, none⟩ 1) := by
              obtain ⟨t1, t2⟩ := ht
              have key : ∀ {q p}, m.t.get q = some p → (m.t.set j (.row cells k e')).get q = some p := by
                intro q p hq
                by_cases e : j = q
                · subst e; rw [T.get_set_same]; rw [hrow] at hq; exact hq
                · rw [T.get_set_ne _ _ e]; exact hq
              exact ⟨t1.below, h.t0, fun q p hq hp => t1.obj q p (key hq) hp, h.inj, h.fresh⟩
            refine out_eff rfl hrun (.slice hy hc1 hc2) hm2 ⟨Ext.refl σ, by rw [f4]; exact Nat.le_refl _, fun b hb hl => heap_freeze w _ b (fun e => hl (e ▸ LiveB.of hrow rfl hy)), fun b hb => .inl hb, Nat.le_refl _, fun _ _ => rfl⟩
        · cases ha
      · cases ha
    · rename_i e a b hs hd
      split at ha
      · rename_i te hte
        obtain ⟨hue, _⟩ := hE.types e te hte
        split at ha
        · rename_i hde
          cases ha
          rw [hde] at hue; rw [hs] at hus; rw [hd] at hud
          obtain rfl := hx.simple_inv rfl
          exact out_val rfl (run_convert_bytes_nil w src e hus hue a b dst hud) (.refl rfl)
        · cases ha
      · cases ha
    · rename_i e a n c hs hd
      split at ha
      · rename_i te cells k e' hte hrow
        obtain ⟨hue, _⟩ := hE.types e te hte
        split at ha
        · rename_i hde hle
          have hle' := Nat.le_of_ble_eq_true hle
          split at ha
          · rename_i l hl
            split at ha
            · rename_i bs hbs
              cases ha
              rw [hde] at hue; rw [hs] at hus; rw [hd] at hud
              rcases hx.slice_inv with ⟨h1, _⟩ | ⟨j, o, y, c', h1, rfl, hy, hc1, hc2⟩
              · cases h1
              · cases h1
                obtain ⟨l', hrun, hv, hlen⟩ := run_cells (P := P) h hrow hy hle' hl
                obtain ⟨ns, rfl, hns⟩ := mapM_bytes hbs hv
                have h1 := run_bytesToString (P := P) w ⟨y.b, y.sh + o, none⟩ n c' ns hrun
                rw [foldl_push_bytes] at h1
                refine out_val rfl (v' := .string ⟨bs.toArray⟩) ?_ (.refl rfl)
                rw [run_convert_bytes_string w src dst e _ _ _ hus hue hud, h1, hns]
                simp [ByteArray.empty, ByteArray.emptyWithCapacity]
                rfl
            · cases ha
          · cases ha
        · cases ha
      · cases ha
    · rename_i e a hs hd
      split at ha
      · rename_i te cells n e' hte hrow
        split at ha
        · rename_i q hq hle
          have hle' := Nat.le_of_ble_eq_true hle
          cases ha
          obtain ⟨_, i, z, hi, hsz, _⟩ := hE.types e te hte
          rw [hs] at hus; rw [hd] at hud
          cases hx with
          | refl hs' => simp [simple] at hs'
          | ptr hy =>
            rename_i j o y
            obtain ⟨C, fz, hB, hob, hf, hN, hn, _, hc⟩ := h.row hrow hy
            simp only at hle'
            obtain ⟨u, u', hu1, hu2, hr⟩ := hc o (by omega)
            refine out_val rfl (run_convert_to_unsafe (t := e) hus hud ?_ ((cell?_of hob).trans hu2)) (.ptr hy)
            rw [hi]
            simp only [Option.map_some, hsz, hq]
            rfl
        · cases ha
      · cases ha
    · cases ha
  · cases ha
end Go.AS
set_option linter.unusedSectionVars false
namespace Go.AS
open Go.RowKit
variable [Rho]
variable {E : Env} {P : Program} {w0 : World} {σ : Sg} {m : Mem} {w : World}
theorem basicT_run (hE : EOK E P) {t : TypeId} (h : basicT E t = true) (b : Bool) (n : Nat) (v : Value) (w : World) : (Instr.checkKey b (n + 1) t v).run P w = .ok () w := by
  unfold basicT at h
  split at h
  · rename_i ti hti
    obtain ⟨hu, _⟩ := hE.types t ti hti
    split at h
    · rename_i k hd; simp only [Instr.checkKey, Sem.run_bind, run_underlying hu, Result.andThen_ok, hd]; rfl
    · rename_i hd; simp only [Instr.checkKey, Sem.run_bind, run_underlying hu, Result.andThen_ok, hd]; rfl
    · rename_i hd; simp only [Instr.checkKey, Sem.run_bind, run_underlying hu, Result.andThen_ok, hd]; rfl
    · cases h
  · cases h
theorem keyOK_run (hE : EOK E P) {t : TypeId} {ti : TI} (hti : E.types.get t = some ti) {k k' : Value} (h : keyOK E ti.desc k = true) (hk : VR σ k k') (b : Bool) (n : Nat) (w : World) : (Instr.checkKey b (n + 2) t k').run P w = .ok () w := by
  obtain ⟨hu, _⟩ := hE.types t ti hti
  unfold keyOK at h
  split at h
  · rename_i hd; simp only [Instr.checkKey, Sem.run_bind, run_underlying hu, Result.andThen_ok, hd]; rfl
  · rename_i hd; simp only [Instr.checkKey, Sem.run_bind, run_underlying hu, Result.andThen_ok, hd]; rfl
  · rename_i fs cs hd
    obtain ⟨cs', rfl, hcs⟩ := hk.agg_inv
    have hb0 : ∀ {t : TypeId}, basicT E t = true → ∀ (v : Value) (w : World), (Instr.checkKey b (n + 1) t v).run P w = .ok () w := fun h v w => basicT_run hE h b n v w
    rw [Instr.checkKey]
    generalize Instr.checkKey b (n + 1) = g at hb0
    simp only [Sem.run_bind, run_underlying hu, Result.andThen_ok, hd]
    rw [← Array.forIn_toList]
    generalize fs.toList = l at h
    clear hd hk
    induction l with
    | nil => simp
    | cons f l ih =>
      simp only [keyFields] at h
      simp only [List.forIn_cons, Sem.run_bind, Sem.run_ite]
      split at h
      · rename_i hn
        rw [if_neg (by simpa using hn)]
        simpa using ih h
      · rename_i hn
        rw [if_pos (by simpa using hn)]
        split at h
        · rename_i v hb hp
          obtain ⟨v', hv1, hv2⟩ := partA_sound hE hp hcs w
          rw [hv1]
          simp only [Result.andThen_ok, hb0 hb]
          simpa using ih h
        · cases h
  · cases h
theorem sameNow_sound {d : TypeDesc} {a b a' b' : Value} {r : Bool} (h : sameNowA d a b = some r) (ha : VR σ a a') (hb : VR σ b b') : Instr.sameNow d a' b' = some r := by
  unfold sameNowA at h
  split at h
  · split at h
    · rename_i hk
      cases h
      obtain rfl := kcode_inj hk
      obtain rfl := ha.simple_inv rfl; obtain rfl := hb.simple_inv rfl
      simp [Instr.sameNow]
    · cases h
  · cases h
    obtain rfl := ha.simple_inv rfl; obtain rfl := hb.simple_inv rfl
    simp [Instr.sameNow, beq_toListBytes, toList_bytes]
  · cases h
def ERL (σ : Sg) (es : List MapEntry) (es' : List MapEntry) : Prop := es.length = es'.length ∧ ∀ (i : Nat) (a b : MapEntry), es[i]? = some a → es'[i]? = some b → a.born = b.born ∧ VR σ a.key b.key ∧ VR σ a.val b.val
theorem ERL.head {a b : MapEntry} {l l' : List MapEntry} (h : ERL σ (a :: l) (b :: l')) : a.born = b.born ∧ VR σ a.key b.key ∧ VR σ a.val b.val := h.2 0 a b rfl rfl
theorem ERL.tail {a b : MapEntry} {l l' : List MapEntry} (h : ERL σ (a :: l) (b :: l')) : ERL σ l l' := ⟨by simpa using h.1, fun i x y hx hy => h.2 (i + 1) x y (by simpa using hx) (by simpa using hy)⟩
theorem ERL.cons_inv {a : MapEntry} {l l' : List MapEntry} (h : ERL σ (a :: l) l') : ∃ b r, l' = b :: r := by
  cases l' with
  | nil => exact absurd h.1 (by simp)
  | cons b r => exact ⟨b, r, rfl⟩
theorem ERL.nil_inv {l' : List MapEntry} (h : ERL σ [] l') : l' = [] := List.eq_nil_of_length_eq_zero h.1.symm
theorem ERL.cons {a b : MapEntry} {l l' : List MapEntry} (h : a.born = b.born ∧ VR σ a.key b.key ∧ VR σ a.val b.val) (hl : ERL σ l l') : ERL σ (a :: l) (b :: l') :=
  ⟨by simp [hl.1], fun i x y hx hy => by
    cases i with
    | zero => cases hx; cases hy; exact h
    | succ i => exact hl.2 i x y (by simpa using hx) (by simpa using hy)⟩
theorem MR.mapObj (h : MR E w0 σ m w) {r : Nat} {es : List MapEntry} {clock : Nat} (hr : m.t.get r = some (.map es clock)) {x : Inf} (hx : σ r = some x) :
    ∃ es' : Array MapEntry, w.heap[x.b]? = some (.map es' clock) ∧ ERL σ es es'.toList := by
  obtain ⟨y, ob, hy, hB, hob, hor⟩ := h.obj r _ hr rfl
  obtain rfl : y = x := by rw [hx] at hy; exact (Option.some.inj hy).symm
  cases ob with
  | map es' c' =>
    obtain ⟨rfl, h2, h3⟩ := hor
    exact ⟨es', hob, by simpa using h2, fun i a b ha hb => h3 i a b ha (by simpa using hb)⟩
  | _ => exact hor.elim
def FR (σ : Sg) : Option (Nat × Value) → Option (Nat × Value) → Prop
  | none, none => True
  | some (i, v), some (j, v') => i = j ∧ VR σ v v'
  | _, _ => False
theorem findNow_sound {t : TypeId} {d : TypeDesc} (hd : ∀ fs, d ≠ .struct fs) {k k' : Value} (hk : VR σ k k') : ∀ {es es' : List MapEntry} {i : Nat} {r : Option (Nat × Value)}, findA E t d k es i = some r → ERL σ es es' →
    ∃ r', Instr.findNow d k' es' i = some r' ∧ FR σ r r' := by
  intro es
  induction es with
  | nil =>
    intro es' i r h he
    obtain rfl := he.nil_inv
    simp [findA] at h; subst h
    exact ⟨none, rfl, trivial⟩
  | cons e es ih =>
    intro es' i r h he
    obtain ⟨e', es', rfl⟩ := he.cons_inv
    obtain ⟨_, hkk, hvv⟩ := he.head
    have hkq : keyEq E t d k e.key = sameNowA d k e.key := by
      unfold keyEq
      split
      · rename_i fs; exact absurd rfl (hd fs)
      · rfl
    simp only [findA, hkq] at h
    simp only [Instr.findNow]
    split at h
    · rename_i hs; cases h
      rw [sameNow_sound hs hk hkk]
      exact ⟨_, rfl, rfl, hvv⟩
    · rename_i hs
      rw [sameNow_sound hs hk hkk]
      exact ih h he.tail
    · cases h
theorem findAsk_sound (hE : EOK E P) {t : TypeId} {fs : Array Field} {k k' : Value} (hk : VR σ k k') : ∀ {es es' : List MapEntry} {i : Nat} {r : Option (Nat × Value)}, findA E t (.struct fs) k es i = some r → ERL σ es es' → ∀ w : World,
    ∃ r', (Instr.findAsking t k' es' i).run P w = .ok r' w ∧ FR σ r r' := by
  intro es
  induction es with
  | nil =>
    intro es' i r h he w
    obtain rfl := he.nil_inv
    simp [findA] at h; subst h
    exact ⟨none, rfl, trivial⟩
  | cons e es ih =>
    intro es' i r h he w
    obtain ⟨e', es', rfl⟩ := he.cons_inv
    obtain ⟨_, hkk, hvv⟩ := he.head
    simp only [findA, keyEq] at h
    simp only [Instr.findAsking, Sem.run_bind, Op.equal]
    split at h
    · rename_i hs; cases h
      rw [eqA_sound hE _ _ _ _ _ _ _ hs hk hkk Op.maxDepth (by decide) w]
      exact ⟨some (i, e'.val), by simp, rfl, hvv⟩
    · rename_i hs
      rw [eqA_sound hE _ _ _ _ _ _ _ hs hk hkk Op.maxDepth (by decide) w]
      obtain ⟨r', h1, h2⟩ := ih h he.tail w
      exact ⟨r', by simpa using h1, h2⟩
    · cases h
theorem findKey_sound (hE : EOK E P) {t : TypeId} {ti : TI} (hti : E.types.get t = some ti) {k k' : Value} (hk : VR σ k k') {es es' : List MapEntry} {r : Option (Nat × Value)} (h : findA E t ti.desc k es 0 = some r) (he : ERL σ es es') (w : World) :
    ∃ r', (Instr.findKey t k' es').run P w = .ok r' w ∧ FR σ r r' := by
  obtain ⟨hu, _⟩ := hE.types t ti hti
  by_cases hd : ∃ fs, ti.desc = .struct fs
  · obtain ⟨fs, hd⟩ := hd
    rw [hd] at h hu
    obtain ⟨r', h1, h2⟩ := findAsk_sound hE hk h he w
    unfold Instr.findKey
    simp only [Sem.run_bind, run_underlying hu, Result.andThen_ok]
    cases es' with
    | nil =>
      simp only [Instr.findNow, Sem.run_pure]
      simp only [Instr.findAsking, Sem.run_pure] at h1
      cases h1
      exact ⟨none, rfl, h2⟩
    | cons e es' =>
      have : Instr.findNow (.struct fs) k' (e :: es') 0 = none := by
        have h0 : Instr.sameNow (.struct fs) k' e.key = none := by
          cases k' <;> cases e.key <;> rfl
        simp [Instr.findNow, h0]
      rw [this]
      exact ⟨r', h1, h2⟩
  · obtain ⟨r', h1, h2⟩ := findNow_sound (fun fs e => hd ⟨fs, e⟩) hk h he
    refine ⟨r', ?_, h2⟩
    unfold Instr.findKey
    simp [run_underlying hu, h1]
theorem mapType_spec (hE : EOK E P) {t k : TypeId} {tk te : TI} (h : mapType E t = some (k, tk, te)) : ∃ e, P.underlying t = some (.map k e) ∧ E.types.get k = some tk ∧ E.types.get e = some te := by
  unfold mapType at h
  split at h
  · rename_i ti hti
    obtain ⟨hu, _⟩ := hE.types t ti hti
    split at h
    · rename_i k' e hd
      split at h
      · rename_i tk' te' h1 h2
        cases h
        exact ⟨e, by rw [hu, hd], h1, h2⟩
      · cases h
    · cases h
  · cases h
theorem zeroOf_sound (hE : EOK E P) {e : TypeId} {te : TI} (h : E.types.get e = some te) (w : World) : ∃ z, (zeroValue e).run P w = .ok z w ∧ VR σ (zeroOf te) z := by
  obtain ⟨hu, i, z, hi, hsz, hby, hz, hzc, hzl, hzs, hz1⟩ := hE.types e te h
  refine ⟨z, zeroValue_run hi hz w, ?_⟩
  cases hag : agg? te.desc with
  | false =>
    have h0 := hz1.1 hag
    have : zeroOf te = z := by
      unfold zeroOf
      rw [h0, hag]
    rw [this]
    exact .refl (hzs z (by rw [h0]; simp))
  | true =>
    have h0 := hz1.2 hag
    have : zeroOf te = .agg te.zero.toArray := by
      unfold zeroOf
      rw [hag]
    rw [h0, this]
    exact .agg_of (by simpa using VRL.simple hzs)
theorem run_getObj_map {w : World} {r : Nat} {es : Array MapEntry} {c : Nat} (h : w.heap[r]? = some (.map es c)) : (getObj r).run P w = .ok (.map es c) w := by
  simp [getObj, Sem.run, h]
theorem lookup_sound (hE : EOK E P) (h : MR E w0 σ m w) {t : TypeId} {x x' k k' v : Value} {ok : Bool} (ha : lookupA E t x k ok m = some v) (hx : VR σ x x') (hk : VR σ k k') : ∃ v', (Instr.lookup t x' k' ok).run P w = .ok v' w ∧ VR σ v v' := by
  unfold lookupA at ha
  split at ha
  · rename_i kt tk te hmt
    obtain ⟨e, hu, htk, hte⟩ := mapType_spec hE hmt
    split at ha
    · cases ha
    · rename_i hko
      obtain ⟨z, hz1, hz2⟩ := zeroOf_sound (σ := σ) hE hte w
      have hck : ∀ b, (Instr.checkKey b 10000 kt k').run P w = .ok () w := fun b => keyOK_run hE htk hko hk b 9998 w
      have tup : ∀ {a a' : Value} {b : Bool}, VR σ a a' → VR σ (.tuple #[a, .bool b]) (.tuple #[a', .bool b]) := fun ha => .tuple_of (VRL.cons ha (VRL.cons (.refl rfl) (VRL.nil σ)))
      split at ha
      · cases ha
        obtain rfl := hx.simple_inv rfl
        refine ⟨cond ok (.tuple #[z, .bool false]) z, ?_, by cases ok; exact hz2; exact tup hz2⟩
        have hf : (Instr.findKey kt k' []).run P w = .ok none w := by
          obtain ⟨r', h1, h2⟩ := findKey_sound (es := []) (es' := []) (r := none) hE htk hk rfl ⟨rfl, fun i a b ha => by simp at ha⟩ w
          cases r' with
          | none => exact h1
          | some _ => exact h2.elim
        simp only [Instr.lookup, Sem.run_bind, run_underlying hu, Result.andThen_ok, Sem.run_pure, hck, hf, hz1]
        cases ok <;> rfl
      · rename_i r
        split at ha
        · rename_i es clock hrow
          cases hx with
          | refl hs => simp [AS.simple] at hs
          | map hy =>
            obtain ⟨es', hob, her⟩ := h.mapObj hrow hy
            split at ha
            · rename_i i v0 hf
              cases ha
              obtain ⟨r', h1, h2⟩ := findKey_sound hE htk hk hf her w
              cases r' with
              | none => exact h2.elim
              | some q =>
                obtain ⟨j, v1⟩ := q
                obtain ⟨_, hv⟩ := h2
                refine ⟨cond ok (.tuple #[v1, .bool true]) v1, ?_, by cases ok; exact hv; exact tup hv⟩
                simp only [Instr.lookup, Sem.run_bind, run_underlying hu, Result.andThen_ok, run_getObj_map hob, Sem.run_pure, hck, h1]
                cases ok <;> rfl
            · rename_i hf
              cases ha
              obtain ⟨r', h1, h2⟩ := findKey_sound hE htk hk hf her w
              cases r' with
              | some _ => exact h2.elim
              | none =>
                refine ⟨cond ok (.tuple #[z, .bool false]) z, ?_, by cases ok; exact hz2; exact tup hz2⟩
                simp only [Instr.lookup, Sem.run_bind, run_underlying hu, Result.andThen_ok, run_getObj_map hob, Sem.run_pure, hck, h1, hz1]
                cases ok <;> rfl
            · cases ha
        · cases ha
      · cases ha
  · cases ha
end Go.AS
set_option linter.unusedSectionVars false
namespace Go.AS
open Go.RowKit
variable [Rho]
variable {E : Env} {P : Program} {w0 : World} {σ : Sg} {m : Mem} {w : World}
theorem setVal_sound {k v k' v' : Value} (hk : VR σ k k') (hv : VR σ v v') : ∀ {es es' : List MapEntry} (i : Nat), ERL σ es es' → ERL σ (setVal es i k v) (es'.modify i fun e => { e with key := k', val := v' }) := by
  intro es
  induction es with
  | nil => intro es' i h; obtain rfl := h.nil_inv; cases i <;> exact ⟨rfl, fun i a b ha => by simp [setVal] at ha⟩
  | cons e es ih =>
    intro es' i h
    obtain ⟨e', es', rfl⟩ := h.cons_inv
    cases i with
    | zero => exact ERL.cons ⟨h.head.1, hk, hv⟩ h.tail
    | succ i => exact ERL.cons h.head (ih i h.tail)
theorem eraseAt_sound : ∀ {es es' : List MapEntry} (i : Nat), ERL σ es es' → ERL σ (eraseAt es i) (es'.eraseIdx i) := by
  intro es
  induction es with
  | nil => intro es' i h; obtain rfl := h.nil_inv; exact ⟨rfl, fun i a b ha => by simp [eraseAt] at ha⟩
  | cons e es ih =>
    intro es' i h
    obtain ⟨e', es', rfl⟩ := h.cons_inv
    cases i with
    | zero => exact h.tail
    | succ i => exact ERL.cons h.head (ih i h.tail)
theorem ERL.append {a a' b b' : List MapEntry} (h : ERL σ a a') (k : ERL σ b b') : ERL σ (a ++ b) (a' ++ b') := by
  induction a generalizing a' with
  | nil => obtain rfl := h.nil_inv; exact k
  | cons x a ih => obtain ⟨y, a', rfl⟩ := h.cons_inv; exact ERL.cons h.head (ih h.tail)
theorem eq1_sound {a b a' b' : Value} (h : eq1 a b = true) (ha : VR σ a a') (hb : VR σ b b') : a' = b' ∧ ∀ n, Instr.sameBits (n + 1) a' a' = true := by
  unfold eq1 at h
  split at h
  · obtain rfl := ha.simple_inv rfl; obtain rfl := hb.simple_inv rfl
    simp only [Bool.and_eq_true, beq_iff_eq] at h
    obtain ⟨h1, rfl⟩ := h
    obtain rfl := kcode_inj h1
    exact ⟨rfl, fun n => by simp [Instr.sameBits]⟩
  · obtain rfl := ha.simple_inv rfl; obtain rfl := hb.simple_inv rfl
    rename_i x y
    have : x = y := by
      have h1 : x.data.toList = y.data.toList := by simpa using h
      apply ByteArray.ext
      apply Array.ext'
      exact h1
    subst this
    exact ⟨rfl, fun n => by simp only [Instr.sameBits]; rw [beq_toListBytes]; simp⟩
  · obtain rfl := ha.simple_inv rfl; obtain rfl := hb.simple_inv rfl
    rename_i p q
    have : p = q := by simpa using h
    subst this
    exact ⟨rfl, fun n => by simp [Instr.sameBits]⟩
  · cases h
theorem eqCells_sound : ∀ {l r l' r' : List Value}, eqCells l r = true → VRL σ l l' → VRL σ r r' → l' = r' ∧ ∀ n, (l'.zip l').all (fun (x, y) => Instr.sameBits (n + 1) x y) = true := by
  intro l
  induction l with
  | nil =>
    intro r l' r' h hl hr
    cases r with
    | cons _ _ => simp [eqCells] at h
    | nil =>
      obtain rfl : l' = [] := List.eq_nil_of_length_eq_zero hl.1.symm
      obtain rfl : r' = [] := List.eq_nil_of_length_eq_zero hr.1.symm
      exact ⟨rfl, fun n => rfl⟩
  | cons a l ih =>
    intro r l' r' h hl hr
    cases r with
    | nil => simp [eqCells] at h
    | cons b r =>
      simp only [eqCells] at h
      cases l' with
      | nil => exact absurd hl.1 (by simp)
      | cons a' l' =>
        cases r' with
        | nil => exact absurd hr.1 (by simp)
        | cons b' r' =>
          cases h1 : eq1 a b with
          | false => rw [h1] at h; cases h
          | true =>
            rw [h1] at h
            obtain ⟨rfl, h2⟩ := eq1_sound h1 hl.head hr.head
            obtain ⟨rfl, h3⟩ := ih h hl.tail hr.tail
            exact ⟨rfl, fun n => by simp only [List.zip_cons_cons, List.all_cons, h2 n, Bool.true_and]; exact h3 n⟩
theorem eqKey_sound {a b a' b' : Value} (h : eqKey a b = true) (ha : VR σ a a') (hb : VR σ b b') : a' = b' ∧ ∀ n, Instr.sameBits (n + 2) a' a' = true := by
  unfold eqKey at h
  split at h
  · obtain ⟨x', rfl, hx⟩ := ha.agg_inv
    obtain ⟨y', rfl, hy⟩ := hb.agg_inv
    obtain ⟨h1, h2⟩ := eqCells_sound h hx hy
    have : x' = y' := Array.ext' h1
    subst this
    exact ⟨rfl, fun n => by
      have := h2 n
      simp only [Instr.sameBits, BEq.rfl, Bool.true_and]
      exact this⟩
  · obtain ⟨h1, h2⟩ := eq1_sound h ha hb
    exact ⟨h1, fun n => h2 (n + 1)⟩
theorem keyStays_run {a : Value} (h : ∀ n, Instr.sameBits (n + 2) a a = true) (w : World) : (Instr.keyThatStays a a).run P w = .ok a w := by
  unfold Instr.keyThatStays
  have : Instr.sameBits 10000 a a = true := h 9998
  rw [if_pos this]; rfl
theorem run_setObj_map {w : World} {r : Nat} {es es' : Array MapEntry} {c c' : Nat} (h : w.heap[r]? = some (.map es c)) : (setObj r (.map es' c')).run P w = .ok () { w with heap := w.heap.setIfInBounds r (.map es' c') } := by
  simp [setObj, Sem.run, h]
theorem MR.turnMap (h : MR E w0 σ m w) {r : Nat} {es es2 : List MapEntry} {c c2 : Nat} (hr : m.t.get r = some (.map es c)) {x : Inf} (hx : σ r = some x) {es' : Array MapEntry} (hob : ∃ es0 c0, w.heap[x.b]? = some (.map es0 c0)) (he : ERL σ es2 es'.toList) :
    MR E w0 σ ⟨m.n, m.t.set r (.map es2 c2)⟩ { w with heap := w.heap.setIfInBounds x.b (.map es' c2) } ∧ FG σ m w σ ⟨m.n, m.t.set r (.map es2 c2)⟩ { w with heap := w.heap.setIfInBounds x.b (.map es' c2) } := by
  obtain ⟨es0, c0, hob⟩ := hob
  have hlt : x.b < w.heap.size := (Array.getElem?_eq_some_iff.1 hob).1
  refine h.turn hr rfl hx rfl (by simp) (fun k hk => by simp [Ne.symm hk]) rfl rfl rfl (ob := .map es' c2) (by simp [hlt]) ⟨rfl, by simpa using he.1, fun i a b ha hb => he.2 i a b ha (by simpa using hb)⟩
theorem mapUpdate_sound (hE : EOK E P) (h : MR E w0 σ m w) {t : TypeId} {x x' k k' v v' : Value} {m' : Mem} (ha : mapUpdateA E t x k v m = some m') (hx : VR σ x x') (hk : VR σ k k') (hv : VR σ v v') :
    ∃ w', (Instr.mapUpdate t x' k' v').run P w = .ok () w' ∧ MR E w0 σ m' w' ∧ FG σ m w σ m' w' := by
  unfold mapUpdateA at ha
  split at ha
  · rename_i kt tk te r hmt
    obtain ⟨e, hu, htk, hte⟩ := mapType_spec hE hmt
    split at ha
    · rename_i es clock hko hrow
      have hck : (Instr.checkKey false 10000 kt k').run P w = .ok () w := keyOK_run hE htk hko hk false 9998 w
      cases hx with
      | refl hs => simp [AS.simple] at hs
      | map hy =>
        rename_i y
        obtain ⟨es', hob, her⟩ := h.mapObj hrow hy
        split at ha
        · rename_i i v0 hf
          obtain ⟨r', h1, h2⟩ := findKey_sound hE htk hk hf her w
          cases r' with
          | none => exact h2.elim
          | some q =>
            obtain ⟨j, v1⟩ := q
            obtain ⟨rfl, hv1⟩ := h2
            split at ha
            · rename_i e0 he0
              split at ha
              · rename_i hkey
                cases ha
                have hlt : i < es'.size := by
                  have h5 := (List.getElem?_eq_some_iff.1 he0).1
                  have h6 := her.1
                  simp only [Array.length_toList] at h6
                  omega
                have hb : es'.toList[i]? = some es'[i] := by simp [hlt]
                obtain ⟨_, hkk, _⟩ := her.2 i e0 es'[i] he0 hb
                obtain ⟨hke, hsb⟩ := eqKey_sound hkey hkk hk
                obtain ⟨hm', hf'⟩ := h.turnMap (c2 := clock) (es2 := setVal es i k v) (es' := es'.modify i fun e => { e with key := k', val := v' }) hrow hy ⟨es', clock, hob⟩ (by rw [Array.toList_modify]; exact setVal_sound hk hv i her)
                refine ⟨_, ?_, hm', hf'⟩
                have hold : ((es'[i]?).map (·.key)).getD k' = k' := by simp [hlt, hke]
                have hst := keyStays_run (P := P) (hke ▸ hsb) w
                simp only [Instr.mapUpdate, Sem.run_bind, run_underlying hu, Result.andThen_ok, run_getObj_map hob, hck, h1, hold, hst, run_setObj_map hob]
              · cases ha
            · cases ha
        · rename_i hf
          cases ha
          obtain ⟨r', h1, h2⟩ := findKey_sound hE htk hk hf her w
          cases r' with
          | some _ => exact h2.elim
          | none =>
            obtain ⟨hm', hf'⟩ := h.turnMap (c2 := clock + 1) (es2 := es ++ [⟨k, v, clock⟩]) (es' := es'.push ⟨k', v', clock⟩) hrow hy ⟨es', clock, hob⟩ (by
              rw [Array.toList_push]
              exact her.append (ERL.cons ⟨rfl, hk, hv⟩ ⟨rfl, fun i a b ha => by simp at ha⟩))
            refine ⟨_, ?_, hm', hf'⟩
            simp only [Instr.mapUpdate, Sem.run_bind, run_underlying hu, Result.andThen_ok, run_getObj_map hob, hck, h1, run_setObj_map hob]
        · cases ha
    · cases ha
  · cases ha
theorem delete_sound (hE : EOK E P) (h : MR E w0 σ m w) {t ty : TypeId} {ts : Array TypeId} (hts : ts[0]? = some t) {x x' k k' : Value} {m' : Mem} (ha : deleteA E t x k m = some m') (hx : VR σ x x') (hk : VR σ k k') :
    ∃ w', (Builtin.delete_ ts ty #[x', k']).run P w = .ok (.tuple #[]) w' ∧ MR E w0 σ m' w' ∧ FG σ m w σ m' w' := by
  unfold deleteA at ha
  split at ha
  · rename_i kt tk te hmt
    obtain ⟨e, hu, htk, hte⟩ := mapType_spec hE hmt
    split at ha
    · cases ha
    · rename_i hko
      have hck : ∀ b, (Instr.checkKey b 10000 kt k').run P w = .ok () w := fun b => keyOK_run hE htk hko hk b 9998 w
      split at ha
      · cases ha
        obtain rfl := hx.simple_inv rfl
        refine ⟨w, ?_, h, FG.refl σ m w⟩
        simp [Builtin.delete_, hts, run_underlying hu, hck]
      · rename_i r
        split at ha
        · rename_i es clock hrow
          cases hx with
          | refl hs => simp [AS.simple] at hs
          | map hy =>
            rename_i y
            obtain ⟨es', hob, her⟩ := h.mapObj hrow hy
            split at ha
            · rename_i i v0 hf
              cases ha
              obtain ⟨r', h1, h2⟩ := findKey_sound hE htk hk hf her w
              cases r' with
              | none => exact h2.elim
              | some q =>
                obtain ⟨j, v1⟩ := q
                obtain ⟨rfl, hv1⟩ := h2
                obtain ⟨hm', hf'⟩ := h.turnMap (c2 := clock) (es2 := eraseAt es i) (es' := es'.eraseIdxIfInBounds i) hrow hy ⟨es', clock, hob⟩ (by
                  rw [Array.toList_eraseIdxIfInBounds]; exact eraseAt_sound i her)
                refine ⟨_, ?_, hm', hf'⟩
                simp [Builtin.delete_, hts, run_underlying hu, hck, run_getObj_map hob, h1, run_setObj_map hob]
            · rename_i hf
              cases ha
              obtain ⟨r', h1, h2⟩ := findKey_sound hE htk hk hf her w
              cases r' with
              | some _ => exact h2.elim
              | none =>
                have hlt : y.b < w.heap.size := (Array.getElem?_eq_some_iff.1 hob).1
                have hsame : ({ w with heap := w.heap.setIfInBounds y.b (.map es' clock) } : World) = w := by
                  have : w.heap.setIfInBounds y.b (.map es' clock) = w.heap := by
                    apply Array.ext_getElem?
                    intro q
                    rw [Array.getElem?_setIfInBounds]
                    by_cases e : y.b = q
                    · subst e; rw [if_pos rfl, if_pos hlt, hob]
                    · rw [if_neg e]
                  rw [this]
                refine ⟨w, ?_, h, FG.refl σ m w⟩
                simp [Builtin.delete_, hts, run_underlying hu, hck, run_getObj_map hob, h1, run_setObj_map hob, hsame]
            · cases ha
        · cases ha
      · cases ha
  · cases ha
theorem len_sound (hE : EOK E P) (h : MR E w0 σ m w) {t ty : TypeId} {x x' v : Value} (ha : lenA E t x m = some v) (hx : VR σ x x') : ∃ v', (Builtin.len_ #[t] ty #[x']).run P w = .ok v' w ∧ VR σ v v' := by
  unfold lenA at ha
  split at ha
  · rename_i ti hti
    obtain ⟨hu, _⟩ := hE.types t ti hti
    split at ha
    · rename_i s hd
      cases ha
      obtain rfl := hx.simple_inv rfl
      have hss : s.size = s.data.toList.length := by cases s; rfl
      exact ⟨goInt s.size, by simp [Builtin.len_, run_underlying hu, hd], by rw [← hss]; exact .refl rfl⟩
    · rename_i a n c hd
      cases ha
      rcases hx.slice_inv with ⟨_, rfl⟩ | ⟨_, _, _, _, _, rfl, _⟩ <;> exact ⟨goInt n, by simp [Builtin.len_, run_underlying hu, hd], .refl rfl⟩
    · rename_i hd
      cases ha
      cases hx with
      | refl hs => simp [AS.simple] at hs
      | topS a n c => exact ⟨goInt n, by simp [Builtin.len_, run_underlying hu, hd], .topI .i64 n⟩
    · rename_i hd
      cases ha
      cases hx with
      | refl hs => simp [AS.simple] at hs
      | topE a c => exact ⟨goInt 0, by simp [Builtin.len_, run_underlying hu, hd], .refl rfl⟩
    · rename_i hd
      cases ha
      cases hx with
      | refl hs => simp [AS.simple] at hs
      | topStr s => exact ⟨goInt s.size, by simp [Builtin.len_, run_underlying hu, hd], .topI .i64 _⟩
    · rename_i n e hd
      cases ha
      exact ⟨goInt n, by cases x' <;> simp [Builtin.len_, run_underlying hu, hd], .refl rfl⟩
    · rename_i hd
      cases ha
      obtain rfl := hx.simple_inv rfl
      exact ⟨goInt 0, by simp [Builtin.len_, run_underlying hu, hd], .refl rfl⟩
    · rename_i r hd
      split at ha
      · rename_i es clock hrow
        cases ha
        cases hx with
        | refl hs => simp [AS.simple] at hs
        | map hy =>
          obtain ⟨es', hob, her⟩ := h.mapObj hrow hy
          have hl : es.length = es'.size := by simpa using her.1
          exact ⟨goInt es'.size, by simp [Builtin.len_, run_underlying hu, hd, run_getObj_map hob], by rw [← hl]; exact .refl rfl⟩
      · cases ha
    · cases ha
  · cases ha
theorem minmax_sound {mx : Bool} {ts : Array TypeId} {ty : TypeId} {x y x' y' v : Value} (h : minmax mx x y = some v) (hx : VR σ x x') (hy : VR σ y y') (w : World) :
    (match mx with | true => Builtin.max_ ts ty #[x', y'] | false => Builtin.min_ ts ty #[x', y']).run P w = .ok v w ∧ simple v = true := by
  unfold minmax at h
  split at h
  · split at h
    · rename_i hk
      cases h
      obtain rfl := hx.simple_inv rfl; obtain rfl := hy.simple_inv rfl
      cases mx
      · exact ⟨run_min_int2 w ts ty _ _ _ _, rfl⟩
      · exact ⟨run_max_int2 w ts ty _ _ _ _, rfl⟩
    · cases h
  · cases h
end Go.AS
set_option linter.unusedSectionVars false
namespace Go.AS
open Go.RowKit
variable [Rho]
variable {E : Env} {P : Program} {w0 : World} {σ : Sg} {m : Mem} {w : World}
theorem sameKind_eq {a b : IntKind} (h : sameKind a b = true) : a = b := by cases a <;> cases b <;> first | rfl | (cases h; done)
theorem cellA_sound (h : MR E w0 σ m w) {a : Addr} {v p' : Value} (hl : cellA a m = some v) (hp : VR σ (.pointer (some a)) p') :
    ∃ b o v' C e fz, p' = .pointer (some ⟨b, o, none⟩) ∧ w.heap[b]? = some (.cells C e fz) ∧ w.cell? ⟨b, o, none⟩ = some v' ∧ w.frozen? ⟨b, o, none⟩ = false ∧ VR σ v v' := by
  unfold cellA at hl
  split at hl
  · rename_i cells n e hrow
    split at hl
    · rename_i hle
      have hle' := Nat.le_of_ble_eq_true hle
      cases hp with
      | refl hs => simp [simple] at hs
      | ptr hx =>
        rename_i i' o x
        obtain ⟨C, fz, hB, hob, hf, hN, hn, _, hc⟩ := h.row hrow hx
        simp only at hle' hl
        obtain ⟨u, u', hu1, hu2, hr⟩ := hc o (by omega)
        rw [hl] at hu1
        cases hu1
        exact ⟨x.b, x.sh + o, u', C, e, fz, rfl, hob, by rw [cell?_of hob]; exact hu2, frozen?_of hob hf (by omega), hr⟩
    · cases hl
  · cases hl
theorem ptr_plain {a : Addr} {p' : Value} (h : VR σ (.pointer (some a)) p') : a = ⟨a.block, a.off, none⟩ := by
  cases h with
  | refl hs => simp [simple] at hs
  | ptr hx => rfl
theorem loadT_eq (t : Extern.Atomic.T) (a : Value) : Extern.Atomic.loadT t #[a] = (do Extern.Atomic.read t (← asAddr a)) := rfl
theorem storeT_eq (a v : Value) : Extern.Atomic.storeT #[a, v] = (do store (← asAddr a) v .atomic; pure Extern.Atomic.none_) := rfl
theorem update_eq (op : IntKind → Int → Int → Sem Value) (k : IntKind) (r : Bool) (addr y : Value) : Extern.Atomic.update op k r #[addr, y] = (do
    let a ← asAddr addr
    let old ← Extern.Atomic.read (.int k) a
    let new ← op k (← asInt old) (← asInt y)
    store a new .atomic
    pure (if r then new else old)) := rfl
theorem read_run {w : World} {b o : Nat} {k : IntKind} {n : Int} (hc : w.cell? ⟨b, o, none⟩ = some (.int k n)) : (Extern.Atomic.read (.int k) ⟨b, o, none⟩).run P w = .ok (.int k n) w := by
  simp [Extern.Atomic.read, load, Sem.run, hc, Bind.bind, Sem.bind, Pure.pure]
theorem touches_run {w : World} {b o : Nat} {C : Array Value} {e : TypeId} {fz : Nat × Nat} (h : w.heap[b]? = some (.cells C e fz)) (hz : w.frozen? ⟨b, o, none⟩ = false) : (Extern.Atomic.touchesFrozen ⟨b, o, none⟩).run P w = .ok false w := by
  have hs : (w.shape? b).isSome = true := by simp [World.shape?, h]
  have hv : (viewAt b).run P w = .ok none w := by
    simp [viewAt, shape, Sem.run, Bind.bind, Sem.bind, hs]
  simp only [Extern.Atomic.touchesFrozen, Sem.run_bind, hv, Result.andThen_ok]
  simp [frozen, Sem.run, hz]
theorem casT_eq (t : Extern.Atomic.T) (addr old new : Value) : Extern.Atomic.casT t #[addr, old, new] = (do
    let a ← asAddr addr
    if ← Extern.Atomic.touchesFrozen a then unsupported (.unsafePointer "a write to bytes that a string shares")
    let eq ← match t, ← Extern.Atomic.read t a, old with
      | _, .int _ x, .int _ y => pure (x == y)
      | .ptr, .pointer x, .pointer y => samePointer x y
      | .int _, .pointer (some _), .int _ 0 | .int _, .int _ 0, .pointer (some _) => pure false
      | .int _, .pointer (some _), _ | .int _, _, .pointer (some _) => unsupported .addressObserved
      | _, _, _ => stuck "atomic.CompareAndSwap: old is no T"
    if eq then store a new .atomic
    pure (.bool eq)) := rfl
theorem asAddr_eq (a : Addr) : asAddr (.pointer (some a)) = pure a := rfl
theorem asInt_eq (k : IntKind) (n : Int) : asInt (.int k n) = pure n := rfl
theorem store_one (h : MR E w0 σ m w) {a : Addr} {v v' p' : Value} {m' : Mem} {b o : Nat} (hs : storeL ⟨a.block, a.off, none⟩ [v] m = some m') (hp : VR σ (.pointer (some a)) p') (hpe : p' = .pointer (some ⟨b, o, none⟩)) (hv : VR σ v v') {u : Value} (hc : w.cell? ⟨b, o, none⟩ = some u) :
    ∃ w', (store ⟨b, o, none⟩ v' .atomic).run P w = .ok () w' ∧ MR E w0 σ m' w' ∧ FG σ m w σ m' w' := by
  rw [← ptr_plain hp] at hs
  obtain ⟨a', w', h1, _, h2, h3, h4⟩ := storeL_sound (P := P) h hs hp (VRL.cons hv (VRL.nil σ))
  obtain rfl : a' = ⟨b, o, none⟩ := by rw [hpe] at h1; cases h1; rfl
  refine ⟨w', ?_, h3, h4⟩
  rw [← h2]
  simp only [storeCells, addr_add, Nat.add_zero]
  cases v' <;> simp [store, Sem.run, hc] <;> rfl
theorem extA_sound (h : MR E w0 σ m w) {x : Xtn} {args : List Value} {args' : Array Value} {out : Out} (ho : extA x args m = some out) (hl : VRL σ args args'.toList) :
    OutOK E P w0 σ m w (do pure (.value (← x.impl args'))) out := by
  have two : ∀ {a b : Value}, args = [a, b] → ∃ a' b', args' = #[a', b'] ∧ VR σ a a' ∧ VR σ b b' := by
    intro a b e
    subst e
    rcases args' with ⟨l⟩
    match l, hl with
    | [a', b'], hl => exact ⟨a', b', rfl, hl.head, hl.tail.head⟩
    | [], hl => exact absurd hl.1 (by simp)
    | [_], hl => exact absurd hl.1 (by simp)
    | _ :: _ :: _ :: _, hl => exact absurd hl.1 (by simp)
  unfold extA at ho
  split at ho
  · rename_i k a
    obtain ⟨a', rfl, ha⟩ : ∃ a', args' = #[a'] ∧ VR σ (.pointer (some a)) a' := by
      rcases args' with ⟨l⟩
      match l, hl with
      | [a'], hl => exact ⟨a', rfl, hl.head⟩
      | [], hl => exact absurd hl.1 (by simp)
      | _ :: _ :: _, hl => exact absurd hl.1 (by simp)
    split at ho
    · rename_i j n hcell
      split at ho
      · rename_i hk
        obtain rfl := sameKind_eq hk
        cases ho
        obtain ⟨b, o, v', C, e, fz, rfl, hob, hc, hz, hv⟩ := cellA_sound h hcell ha
        obtain rfl := hv.simple_inv rfl
        refine out_val (s0 := Xtn.impl (.load k) #[.pointer (some ⟨b, o, none⟩)]) rfl ?_ (.refl rfl)
        simp only [Xtn.impl, loadT_eq, asAddr_eq, Sem.run_bind, Sem.run_pure, Result.andThen_ok, read_run hc]
      · cases ho
    · cases ho
  · rename_i a v
    obtain ⟨a', v', rfl, ha, hv⟩ := two rfl
    split at ho
    · rename_i m' hb hs
      cases ho
      have hw : ∃ b o u, a' = .pointer (some ⟨b, o, none⟩) ∧ w.cell? ⟨b, o, none⟩ = some u := by
        unfold storeL at hs
        split at hs
        · rename_i cells n e hrow
          split at hs
          · rename_i hle _
            have hle' := Nat.le_of_ble_eq_true hle
            cases ha with
            | refl h => simp [simple] at h
            | ptr hx =>
              rename_i i o x
              obtain ⟨C, fz, hB, hob, hf, hN, hn, _, hc⟩ := h.row hrow hx
              simp only [List.length_cons, List.length_nil] at hle'
              obtain ⟨u, u', _, hu2, _⟩ := hc o (by omega)
              exact ⟨_, _, u', rfl, by rw [cell?_of hob]; exact hu2⟩
          · cases hs
        · cases hs
      obtain ⟨b, o, u, rfl, hc⟩ := hw
      obtain ⟨w', h1, h2, h3⟩ := store_one (P := P) h hs ha rfl hv hc
      refine out_eff (s0 := Xtn.impl .store #[.pointer (some ⟨b, o, none⟩), v']) rfl ?_ (VR.undef σ) h2 h3
      simp only [Xtn.impl, storeT_eq, asAddr_eq, Sem.run_bind, Sem.run_pure, Result.andThen_ok, h1]
      rfl
    · cases ho
  · rename_i k a j y
    obtain ⟨a', v', rfl, ha, hv⟩ := two rfl
    split at ho
    · rename_i i n hcell
      split at ho
      · rename_i m' hk hs
        obtain rfl := sameKind_eq hk
        cases ho
        obtain ⟨b, o, u, C, e, fz, rfl, hob, hc, hz, hu⟩ := cellA_sound h hcell ha
        obtain rfl := hu.simple_inv rfl
        obtain rfl := hv.simple_inv rfl
        obtain ⟨w', h1, h2, h3⟩ := store_one (P := P) h hs ha rfl (.refl (v := .int k (k.wrap (n + y))) rfl) hc
        refine out_eff (s0 := Xtn.impl (.add k) #[.pointer (some ⟨b, o, none⟩), .int j y]) rfl ?_ (.refl rfl) h2 h3
        simp only [Xtn.impl, update_eq, asAddr_eq, asInt_eq, Op.intArith, Sem.run_bind, Sem.run_pure, Result.andThen_ok, read_run hc, h1, if_true]
      · cases ho
    · cases ho
  · rename_i k a j y v
    obtain ⟨a', y', v', rfl, ha, hy, hv⟩ : ∃ a' y' v', args' = #[a', y', v'] ∧ VR σ (.pointer (some a)) a' ∧ VR σ (.int j y) y' ∧ VR σ v v' := by
      rcases args' with ⟨l⟩
      match l, hl with
      | [a', y', v'], hl => exact ⟨a', y', v', rfl, hl.head, hl.tail.head, hl.tail.tail.head⟩
      | [], hl => exact absurd hl.1 (by simp)
      | [_], hl => exact absurd hl.1 (by simp)
      | [_, _], hl => exact absurd hl.1 (by simp)
      | _ :: _ :: _ :: _ :: _, hl => exact absurd hl.1 (by simp)
    split at ho
    · rename_i i n hcell _
      split at ho
      · rename_i hk
        obtain rfl := sameKind_eq hk
        obtain ⟨b, o, u, C, e, fz, rfl, hob, hc, hz, hu⟩ := cellA_sound h hcell ha
        obtain rfl := hu.simple_inv rfl
        obtain rfl := hy.simple_inv rfl
        split at ho
        · rename_i hny
          split at ho
          · rename_i m' hs
            cases ho
            obtain ⟨w', h1, h2, h3⟩ := store_one (P := P) h hs ha rfl hv hc
            refine out_eff (s0 := Xtn.impl (.cas k) #[.pointer (some ⟨b, o, none⟩), .int j y, v']) rfl ?_ (.refl (v := .bool true) rfl) h2 h3
            simp only [Xtn.impl, casT_eq, asAddr_eq, Sem.run_bind, Sem.run_pure, Result.andThen_ok, read_run hc, touches_run hob hz, Bool.false_eq_true, if_false, hny, if_true, h1]
          · cases ho
        · rename_i hny
          cases ho
          refine out_val (s0 := Xtn.impl (.cas k) #[.pointer (some ⟨b, o, none⟩), .int j y, v']) rfl ?_ (.refl (v := .bool false) rfl)
          simp only [Xtn.impl, casT_eq, asAddr_eq, Sem.run_bind, Sem.run_pure, Result.andThen_ok, read_run hc, touches_run hob hz, Bool.false_eq_true, if_false, hny]
      · cases ho
    · cases ho
  · rename_i a b
    obtain ⟨a', b', rfl, ha, hb⟩ := two rfl
    obtain rfl := ha.simple_inv rfl
    obtain rfl := hb.simple_inv rfl
    cases ho
    exact out_val (s0 := Xtn.impl .cmps #[.string a, .string b]) rfl (Lib.run_compareString a b w) (.refl rfl)
  · rename_i q k
    cases ho
    exact out_val (s0 := Xtn.impl (.nop k) args') (v' := und) rfl rfl (VR.undef σ)
  · rename_i k a
    cases ho
    obtain ⟨a', rfl, ha⟩ : ∃ a', args' = #[a'] ∧ VR σ (.pointer (some a)) a' := by
      rcases args' with ⟨l⟩
      match l, hl with
      | [a'], hl => exact ⟨a', rfl, hl.head⟩
      | [], hl => exact absurd hl.1 (by simp)
      | _ :: _ :: _, hl => exact absurd hl.1 (by simp)
    cases ha with
    | refl h => simp [simple] at h
    | ptr hx => exact out_val (s0 := Xtn.impl (.markd k) _) (v' := und) rfl rfl (VR.undef σ)
  · cases ho
end Go.AS
