import Derived.Lib.Hide
import Derived.Calls
import Derived.KernelRfl
import Derived.Below
import Derived.Laws.Cells
set_option linter.unusedSectionVars false
set_option linter.unusedVariables false
set_option linter.unusedSimpArgs false
namespace Go
theorem aR{a b:Prop}(x:a)(y:b):a∧b:=⟨x,y⟩
theorem aC{p:Prop}(h:p):RowKit.Hid p:=Lib.hid h
end Go
namespace Go.AS
noncomputable section
inductive Pos where|e|z (p:Pos)|o (p:Pos)
def Bg (f:Nat):Nat→Pos :=
 @Nat.rec (fun _=>Nat→Pos) (fun _ => .e) (fun _ ih n => @Nat.rec (fun _=>Pos) .e (fun m _ => @Bool.rec (fun _=>Pos) (.o (ih (Nat.div m 2))) (.z (ih (Nat.div m 2))) (Nat.beq (Nat.mod m 2) 0)) n) f
def posOf (n:Nat):Pos:=Bg n n
theorem qU (f:Nat):Bg f 0 =.e:=by cases f<;>rfl
theorem nE (f m:Nat):Bg (f+1) (m+1)=cond (Nat.beq (Nat.mod m 2) 0) (.z (Bg f (Nat.div m 2))) (.o (Bg f (Nat.div m 2))):=by
 show @Bool.rec (fun _=>Pos) (.o (Bg f (Nat.div m 2))) (.z (Bg f (Nat.div m 2))) (Nat.beq (Nat.mod m 2) 0)=_
 cases Nat.beq (Nat.mod m 2) 0<;>rfl
theorem BL:∀(f g n:Nat),n≤f→n≤g→Bg f n=Bg g n:=by
 intro f
 induction f with
 | zero=>intro g n h _;obtain rfl:n=0:=by omega
         rw[qU,qU]
 | succ f ih =>
   intro g n h hg
   cases n with
   | zero=>rw[qU,qU]
   | succ m =>
     obtain⟨g,rfl⟩:∃g',g=g'+1:=⟨g-1,by omega⟩
     have hd:Nat.div m 2=m/2:=rfl
     rw[nE,nE,ih g (Nat.div m 2) (by omega) (by omega)]
section
variable {β:Type}
def fz (f:Nat→β):β:=f 0
def fs (p:Nat) (_:(Nat→β)→β) (f:Nat→β):β:=f (Nat.succ p)
def IK (n:Nat) (f:Nat→β):β := @Nat.rec (fun _=>(Nat→β)→β) fz fs n f
theorem Cc (n:Nat) (f:Nat→β):IK n f=f n:=by cases n<;>rfl
end
inductive T (α:Type) where
 | nil
 | node (v:Option α) (l r:T α)
namespace T
variable {α:Type}
def gE (v:Option α) (_ _:Pos→Option α):Option α:=v
def gZ (q:Pos) (_:Option α→(Pos→Option α)→(Pos→Option α)→Option α) (_:Option α) (l _:Pos→Option α):Option α:=l q
def gO (q:Pos) (_:Option α→(Pos→Option α)→(Pos→Option α)→Option α) (_:Option α) (_ r:Pos→Option α):Option α:=r q
def gN (v:Option α) (_ _:T α) (ihl ihr:Pos→Option α) (p:Pos):Option α := @Pos.rec (fun _=>Option α→(Pos→Option α)→(Pos→Option α)→Option α) gE gZ gO p v ihl ihr
def gX (_:Pos):Option α:=none
def Ug (t:T α) (p:Pos):Option α := @T.rec α (fun _=>Pos→Option α) gX gN t p
def s1E (v:α):T α :=.node (some v) .nil .nil
def s1Z (_:Pos) (ih:α→T α) (v:α):T α :=.node none (ih v) .nil
def s1O (_:Pos) (ih:α→T α) (v:α):T α :=.node none .nil (ih v)
def JD (v:α) (p:Pos):T α := @Pos.rec (fun _=>α→T α) s1E s1Z s1O p v
abbrev SF (α:Type):=Option α→T α→T α→(Pos→α→T α)→(Pos→α→T α)→α→T α
def sE (_:Option α) (l r:T α) (_ _:Pos→α→T α) (v:α):T α :=.node (some v) l r
def sZ (q:Pos) (_:SF α) (x:Option α) (_ r:T α) (ihl _:Pos→α→T α) (v:α):T α :=.node x (ihl q v) r
def sO (q:Pos) (_:SF α) (x:Option α) (l _:T α) (_ ihr:Pos→α→T α) (v:α):T α :=.node x l (ihr q v)
def sN (x:Option α) (l r:T α) (ihl ihr:Pos→α→T α) (p:Pos) (v:α):T α := @Pos.rec (fun _=>SF α) sE sZ sO p x l r ihl ihr v
def sX (p:Pos) (v:α):T α:=JD v p
def Sk (t:T α) (p:Pos) (v:α):T α := @T.rec α (fun _=>Pos→α→T α) sX sN t p v
def get (t:T α) (n:Nat):Option α:=IK n fun n=>Ug t (posOf n)
def single (v:α) (f n:Nat):T α:=JD v (Bg f n)
def set (t:T α) (n:Nat) (v:α):T α:=IK n fun n=>Sk t (posOf n) v
theorem yJ (t:T α) (n:Nat):t.Ug (posOf n)=t.get n:=(Cc n fun n=>Ug t (posOf n)).symm
theorem yC (t:T α) (n:Nat) (v:α):t.Sk (posOf n) v=t.set n v:=(Cc n fun n=>Sk t (posOf n) v).symm
theorem Kw {m f:Nat} (h:m+1≤f+1):Nat.div m 2≤f:=by
 have:Nat.div m 2=m/2:=rfl
 omega
theorem get_nil (j:Nat):(T.nil:T α).get j=none:=by rw[←yJ];rfl
theorem Ou (v:Option α) (l r:T α):(T.node v l r).get 0=v:=rfl
theorem nP (v:Option α) (l r:T α) (m:Nat):(T.node v l r).get (m+1)=cond (Nat.beq (Nat.mod m 2) 0) (l.get (Nat.div m 2)) (r.get (Nat.div m 2)):=by
 rw[←yJ,←yJ,←yJ,posOf,nE,BL m (Nat.div m 2) (Nat.div m 2) (Kw (Nat.le_refl _)) (Nat.le_refl _)]
 cases Nat.beq (Nat.mod m 2) 0<;>rfl
theorem EJ (v:α) (n:Nat):single v 0 n =.node (some v) .nil .nil:=rfl
theorem wh (v:α) (f:Nat):single v (f+1) 0 =.node (some v) .nil .nil:=rfl
theorem EK (v:α) (f m:Nat):single v (f+1) (m+1)=cond (Nat.beq (Nat.mod m 2) 0) (.node none (single v f (Nat.div m 2)) .nil) (.node none .nil (single v f (Nat.div m 2))):=by
 unfold single
 rw[nE]
 cases Nat.beq (Nat.mod m 2) 0<;>rfl
theorem set_nil (n:Nat) (v:α):(T.nil:T α).set n v=single v n n:=by rw[←yC];rfl
theorem MW (x:Option α) (l r:T α) (v:α):(T.node x l r).set 0 v =.node (some v) l r:=rfl
theorem MX (x:Option α) (l r:T α) (m:Nat) (v:α):(T.node x l r).set (m+1) v=cond (Nat.beq (Nat.mod m 2) 0) (.node x (l.set (Nat.div m 2) v) r) (.node x l (r.set (Nat.div m 2) v)):=by
 rw[←yC,←yC,←yC,posOf,nE,BL m (Nat.div m 2) (Nat.div m 2) (Kw (Nat.le_refl _)) (Nat.le_refl _)]
 cases Nat.beq (Nat.mod m 2) 0<;>rfl
def K4:T α→Nat→List α→T α
 | t,_,[]=>t
 | t,i,x::l=>K4 (t.set i x) (i+1) l
def ofList (l:List α):T α:=K4 .nil 0 l
def wG (t:T α):Nat→Nat→Option (List α)
 | 0,_=>some []
 | n+1,i=>match t.get i with
   | none=>none
   | some x=>match wG t n (i+1)with
     | none=>none
     | some l=>some (x::l)
end T
def bad:Value :=.chan (some 0)
def lG:Value :=.complex .f32 1 0
def Kg:IntKind→Nat
 | .i8=>0 | .i16=>1 | .i32=>2 | .i64=>3 | .u8=>4 | .u16=>5 | .u32=>6 | .u64=>7
def kind? : Nat→IntKind
 | 0 => .i8|1 => .i16|2 => .i32|3 => .i64|4 => .u8|5 => .u16|6 => .u32|_ => .u64
def nC (k:IntKind):Value :=.complex .f32 2 (Kg k)
def sI:Value :=.complex .f32 3 0
def iY:Value :=.complex .f32 4 0
def pR:Value :=.complex .f32 5 0
def uq (i:Nat):Value :=.complex .f32 7 i
def und:Value :=.tuple #[]
def sym (i:Nat):Value :=.complex .f32 30 i
def OPEN:Nat:=18446744073709551616
def simple:Value→Bool
 | .bool _ | .int _ _ | .string _ | .pointer none | .slice none _ _ | .map none | .nilFunc | .nilIface=>true
 | _=>false
def one:Value→Bool
 | .agg _ | .tuple _ | .chan _=>false
 | _=>true
def uk:List Value→Bool
 | []=>true
 | v::l=>cond (one v) (uk l) false
inductive fA where
 | row (cells:T Value) (n:Nat) (elem:TypeId)
 | map (es:List MapEntry) (clock:Nat)
 | sit (s:ByteArray) (pos:Nat)
 | ND (r:Option Nat) (since:Nat) (seen:List Nat) (last:Nat)
 | loop (t:T Value) (N:Nat) (ps:Array Tmp) (assign body:Code)
 | dyn (q:Value→Nat→Obj→Prop)
 | dead
def fA.live:fA→Bool
 | .dead=>false
 | _=>true
structure Mem where
 n:Nat
 t:T fA
structure TI where
 desc:TypeDesc
 size:Nat
 bytes:Nat
 zero:List Value
inductive BH where
 | load (k:IntKind)
 | store
 | add (k:IntKind)
 | U3 (k:IntKind)
 | QY
 | WH (k:Mark)
 | Fw (k:Addr→Mark)
structure fE where
 key:Nat×Nat×Nat
 args:List Value
 res:Value
structure Env where
 P:Program
 types:T TI
 funcs:T Func
 exts:T BH
 rules:List fE
 Tw:World→Prop
 own:Nat→Prop:=fun _=>False
 conds:List (Nat×Bool):=[]
def rY:List (Nat×Bool)→Nat→Option Bool
 | [],_=>none
 | (j,b)::l,i=>match Nat.beq j i with
   | true=>some b
   | false=>rY l i
inductive Mk where
 | ptr
 | slice (len cap:Nat)
 | map
def Mk.val (b:Nat):Mk→Value
 | .ptr => .pointer (some ⟨b,0,none⟩)
 | .slice n c => .slice (some ⟨b,0,none⟩) n c
 | .map => .map (some b)
inductive Tgt where
 | fn (f:FuncId)
 | uq (i:Nat)
inductive Out where
 | val (v:Value)
 | new (o:fA) (mk:Mk)
 | kM (v:Value) (m:Mem)
 | enter (f:Tgt) (args:List Value)
def yB : TypeDesc→Bool
 | .struct _ | .array _ _=>true
 | _=>false
def cellsOf (v:Value):List Value:=v.cells.toList
def vk:Value→Bool
 | .chan _=>true
 | _=>false
def tv (t:T Value) (i:Nat):Value:=match t.get i with|some v=>v|none=>und
def loadAt (E:Env) (t:TypeId) (a:Addr) (m:Mem):Option Value :=
 match E.types.get t,m.t.get a.block with
 | some ti,some (.row cells n _) =>
   match Nat.ble (a.off+ti.size) n with
   | true=>match yB ti.desc with
     | true=>match cells.wG ti.size a.off with
       | some l=>some (.agg l.toArray)
       | none=>none
     | false=>match ti.size with
       | 1=>cells.get a.off
       | _=>none
   | false=>none
 | _,_=>none
def mW (a:Addr) (l:List Value) (m:Mem):Option Mem :=
 match m.t.get a.block with
 | some (.row cells n e)=>match Nat.ble (a.off+l.length) n,uk l with
   | true,true=>some ⟨m.n,m.t.set a.block (.row (cells.K4 a.off l) n e)⟩
   | _,_=>none
 | _=>none
def newRow (e:TypeId) (l:List Value):fA :=.row (T.ofList l) l.length e
def zQ (op:BinOp) (k:IntKind) (a b:Int):Option Value :=
 match op with
 | .add=>some (.int k (k.wrap (a+b)))
 | .sub=>some (.int k (k.wrap (a-b)))
 | .mul=>some (.int k (k.wrap (a*b)))
 | .quo=>if b=0 then none else some (.int k (k.wrap (a.tdiv b)))
 | .rem=>if b=0 then none else some (.int k (a.tmod b))
 | .eql=>some (.bool (a==b))
 | .neq=>some (.bool (a != b))
 | .lss=>some (.bool (a<b))
 | .leq=>some (.bool (a≤b))
 | .gtr=>some (.bool (a>b))
 | .geq=>some (.bool (a≥b))
 | .and=>some (.int k (k.wrap ((BitVec.ofInt k.bits a &&& BitVec.ofInt k.bits b).toNat)))
 | .or=>some (.int k (k.wrap ((BitVec.ofInt k.bits a ||| BitVec.ofInt k.bits b).toNat)))
 | .xor=>some (.int k (k.wrap ((BitVec.ofInt k.bits a ^^^ BitVec.ofInt k.bits b).toNat)))
 | .andNot=>some (.int k (k.wrap ((BitVec.ofInt k.bits a &&& ~~~ BitVec.ofInt k.bits b).toNat)))
 | _=>none
def shift (op:BinOp) (k:IntKind) (a b:Int):Option Value :=
 match op with
 | .shl=>if b<0 then none else some (.int k (k.wrap (a*2 ^ (min b.toNat k.bits))))
 | .shr=>if b<0 then none else some (.int k (a.fdiv (2 ^ (min b.toNat k.bits))))
 | _=>none
def Ki:BinOp→Bool
 | .shl | .shr=>true
 | _=>false
def sameKind (j k:IntKind):Bool:=Nat.beq (Kg j) (Kg k)
def Uu : BinOp→Bool
 | .eql | .neq | .lss | .leq | .gtr | .geq=>true
 | _=>false
def zu (E:Env) (t:TypeId) (cs:Array Value) (off:Nat):Option Value :=
 match E.types.get t with
 | some ti=>match yB ti.desc with
   | true=>some (.agg (cs.extract off (off+ti.size)))
   | false=>cs[off]?
 | none=>none
def Um (E:Env):Nat→TypeId→Value→Value→Option Bool
 | 0,_,_,_=>none
 | d+1,t,x,y =>
   match E.types.get t with
   | none=>none
   | some ti=>match ti.desc,x,y with
     | .bool,.bool a,.bool b=>some (a==b)
     | .int _,.int j a,.int k b=>match sameKind j k with|true=>some (a==b)|false=>none
     | .string,.string a,.string b=>some (a.data.toList==b.data.toList)
     | .slice _,.slice none _ _,.slice b _ _=>some b.isNone
     | .slice _,.slice (some _) _ _,.slice none _ _=>some false
     | .map _ _,.map none,.map b=>some b.isNone
     | .map _ _,.map (some _),.map none=>some false
     | .func _ _ _,.nilFunc,.nilFunc=>some true
     | .func _ _ _,.nilFunc,.func _ _ _ | .func _ _ _,.func _ _ _,.nilFunc=>some false
     | .pointer _,.pointer none,.pointer b=>some b.isNone
     | .pointer _,.pointer (some _),.pointer none=>some false
     | .interface _,.nilIface,.iface _ _ | .interface _,.iface _ _,.nilIface=>some false
     | .interface _,.nilIface,.nilIface=>some true
     | .struct fs,.agg xs,.agg ys=>match E.P.stoodInHeld t with
       | true=>none
       | false=>fs.toList.foldr (fun f r=>match f.name == "_" with
         | true=>r
         | false=>match zu E f.type xs f.offset,zu E f.type ys f.offset with
           | some a,some b=>match Um E d f.type a b with
             | some true=>r
             | some false=>some false
             | none=>none
           | _,_=>none) (some true)
     | _,_,_=>none
def MO (op:BinOp) (a b:List UInt8):Option Value :=
 match op with
 | .add=>match Nat.ble (a.length+b.length) 1000000 with
   | true=>some (.string ⟨(a++b).toArray⟩)
   | false=>none
 | .eql=>some (.bool (a==b))
 | .neq=>some (.bool !(a==b))
 | .lss=>some (.bool (Op.bytesLess a b))
 | .leq=>some (.bool (Op.bytesLess a b||a==b))
 | .gtr=>some (.bool !(Op.bytesLess a b||a==b))
 | .geq=>some (.bool !Op.bytesLess a b)
 | _=>none
def Kh:Value→Bool
 | .complex _ _ _ | .chan _=>true
 | _=>false
def binop (E:Env) (op:BinOp) (t:TypeId) (x y:Value):Option Value :=
 match x,y with
 | .int k a,.int j b=>match Ki op with
   | true=>shift op k a b
   | false=>match sameKind k j with
     | true=>zQ op k a b
     | false=>none
 | .complex .f32 2 k,.int j _=>match sameKind (kind? k) j,Uu op with
   | true,true=>some lG
   | _,_=>none
 | .int j _,.complex .f32 2 k=>match sameKind j (kind? k),Uu op with
   | true,true=>some lG
   | _,_=>none
 | .string a,.string b=>MO op a.data.toList b.data.toList
 | .agg xs,.agg ys=>match E.P.eqGuardType E.P.depth t with
   | true=>none
   | false=>match op,Um E 20 t (.agg xs) (.agg ys)with
     | .eql,some b=>some (.bool b)
     | .neq,some b=>some (.bool !b)
     | _,_=>none
 | .nilIface,.nilIface=>none
 | x,y=>match Kh x,Kh y with
   | false,false=>match op,Um E 20 t x y with
     | .eql,some b=>some (.bool b)
     | .neq,some b=>some (.bool !b)
     | _,_=>none
   | _,_=>none
def isConst:Operand→Bool
 | .const _=>true
 | _=>false
def AL (E:Env) (op:BinOp) (t:TypeId) (c:Bool) (x y:Value):Option Value :=
 match c,x,y with
 | true,.nilIface,.nilIface=>match op,Um E 20 t .nilIface .nilIface with
   | .eql,some b=>some (.bool b)
   | .neq,some b=>some (.bool !b)
   | _,_=>none
 | _,x,y=>binop E op t x y
def lenOf:Value→Option Nat
 | .slice _ n _=>some n
 | .string s=>some s.size
 | _=>none
def lT (E:Env) (t:TypeId):Option (TypeId×TI) :=
 match E.types.get t with
 | some ⟨.slice e,_,_,_⟩=>match E.types.get e with|some ti=>some (e,ti)|none=>none
 | _=>none
def firstCells (size n:Nat) (v:Value) (m:Mem):Option (List Value) :=
 match v with
 | .slice (some a) _ _=>match m.t.get a.block with
   | some (.row cells k _)=>match Nat.ble (a.off+n*size) k with
     | true=>cells.wG (n*size) a.off
     | false=>none
   | _=>none
 | .slice none _ _=>some []
 | .string s=>some ((s.data.toList.take n).map fun b => .int .u8 b.toNat)
 | _=>none
def append (E:Env) (st:TypeId) (s x:Value) (m:Mem):Option Out :=
 match lT E st,s,lenOf x with
 | some (e,ti),.slice base len cap,some n =>
   match firstCells ti.size n x m,firstCells ti.size len s m,Nat.ble (len+n) 1000000,Nat.ble ti.bytes 100000 with
   | some new,some old,true,true =>
     match Nat.beq (old++new).length ((len+n)*ti.size),Nat.ble OPEN cap with
     | true,false=>match Nat.ble (len+n) cap with
       | true=>match base with
         | none=>match len+n with
           | 0=>some (.val (.slice none 0 cap))
           | _=>none
         | some a=>match mW ⟨a.block,a.off+len*ti.size,none⟩ new m with
           | some m'=>some (.kM (.slice base (len+n) cap) m')
           | none=>none
       | false=>match Nat.ble cap 1000000 with
         | true=>some (.kM (.slice (some ⟨m.n,0,none⟩) (len+n) OPEN) ⟨m.n+1,m.t.set m.n (newRow e (old++new))⟩)
         | false=>none
     | true,true=>match base with
       | none=>none
       | some a=>match n,new with
         | 0,[]=>some (.val s)
         | _,_=>match m.t.get a.block with
           | some (.row _ _ e')=>match Nat.beq e e',uk new with
             | true,true=>some (.kM (.slice (some ⟨m.n,0,none⟩) (len+n) OPEN) ⟨m.n+1,(m.t.set a.block .dead).set m.n (newRow e (old++new))⟩)
             | _,_=>none
           | _=>none
     | _,_=>none
   | _,_,_,_=>none
 | _,_,_=>none
def El (E:Env) (st:TypeId) (s x:Value) (m:Mem):Option Out :=
 match s with
 | .slice (some a) (len+1) cap=>match m.t.get a.block with
   | some (.row _ 0 e')=>match lT E st,lenOf x with
     | some (e,ti),some n=>match firstCells ti.size n x m,Nat.ble (len+1+n) 1000000,Nat.ble ti.bytes 100000,Nat.ble OPEN cap,Nat.beq e e' with
       | some new,true,true,true,true=>match n,Nat.beq new.length (n*ti.size),uk new,Nat.ble 1 ti.size with
         | _+1,true,true,true=>some (.kM (.slice (some ⟨m.n,0,none⟩) (len+1+n) OPEN) ⟨m.n+1,(m.t.set a.block .dead).set m.n (.row .nil 0 e)⟩)
         | _,_,_,_=>none
       | _,_,_,_,_=>none
     | _,_=>none
   | _=>append E st s x m
 | _=>append E st s x m
def OL (E:Env) (t:TypeId) (d s:Value) (m:Mem):Option Out :=
 match lT E t,lenOf s,d with
 | some (_,ti),some n,.slice base dl _=>match firstCells ti.size (min n dl) s m with
   | some l=>match base with
     | some a=>match mW a l m with
       | some m'=>some (.kM (.int .i64 ((min n dl:Nat):Int)) m')
       | none=>none
     | none=>some (.val (.int .i64 ((min n dl:Nat):Int)))
   | none=>none
 | _,_,_=>none
def bound (v:Option Value) (dflt hi:Nat):Option Nat :=
 match v with
 | none=>some dflt
 | some (.int _ (.ofNat i))=>cond (Nat.ble i hi) (some i) none
 | _=>none
def zb (e:TypeId) (size:Nat) (x:Value) (lo hi mx:Option Value) (m:Mem):List Out :=
 match x with
 | .slice (some a) len cap =>
   match Nat.ble OPEN cap,mx with
   | true,some mv=>match bound (some mv) 0 len,Nat.ble len 1000000000 with
     | some mm,true=>match bound hi len mm with
       | some h=>match bound lo 0 h with
         | some l=>[.val (.slice (some (cond (Nat.beq mm l) a ⟨a.block,a.off+l*size,none⟩)) (h-l) (mm-l))]
         | none=>[]
       | none=>[]
     | _,_=>[]
   | true,none=>match m.t.get a.block with
     | some (.row _ _ e')=>match Nat.beq e e',bound hi len len with
       | true,some h=>match bound lo 0 h with
         | some l=>match Nat.beq l len with
           | false=>[.val (.slice (some ⟨a.block,a.off+l*size,none⟩) (h-l) OPEN)]
           | true=>match l with
             | 0=>[.val x]
             | _=>[.val pR]
         | none=>[]
       | _,_=>[]
     | _=>[]
   | false,_=>match bound mx cap cap with
     | some mm=>match bound hi len mm with
       | some h=>match bound lo 0 h with
         | some l=>[.val (.slice (some (cond (Nat.beq mm l) a ⟨a.block,a.off+l*size,none⟩)) (h-l) (mm-l))]
         | none=>[]
       | none=>[]
     | none=>[]
 | .slice none 0 0=>match bound mx 0 0 with
   | some _=>match bound hi 0 0 with
     | some _=>match bound lo 0 0 with
       | some _=>[.val (.slice none 0 0)]
       | none=>[]
     | none=>[]
   | none=>[]
 | _=>[]
def Ms:Option Out→List Out
 | some o=>[o]
 | none=>[]
def ow:Option Value→List Out
 | some v=>[.val v]
 | none=>[]
end
end Go.AS
namespace Go.AS
open Go.RowKit
namespace T
variable {α:Type}
theorem Q7 (m:Nat):Nat.beq (Nat.mod m 2) 0=decide (m%2=0):=by
 show Nat.beq (m%2) 0=_
 rcases Nat.mod_two_eq_zero_or_one m with h|h<;>rw[h]<;>rfl
theorem FM {m k:Nat} {t:Bool} (h:Nat.beq (Nat.mod m 2) 0=t) (h':Nat.beq (Nat.mod k 2) 0=t) (h2:Nat.div m 2=Nat.div k 2):m=k:=by
 rw[Q7]at h h'
 have h3:decide (m%2=0)=decide (k%2=0):=h.trans h'.symm
 have h2':m/2=k/2:=h2
 have hm:=Nat.div_add_mod m 2
 have hk:=Nat.div_add_mod k 2
 rcases Nat.mod_two_eq_zero_or_one m with a|a<;>rcases Nat.mod_two_eq_zero_or_one k with b|b
 ·omega
 ·rw[a,b]at h3;exact absurd h3 (by decide)
 ·rw[a,b]at h3;exact absurd h3 (by decide)
 ·omega
theorem DL {m k:Nat} {t:Bool} (h:Nat.beq (Nat.mod m 2) 0=t) (h':Nat.beq (Nat.mod k 2) 0 = !t):m+1≠k+1:=by
 intro e
 obtain rfl:m=k:=by omega
 rw[h]at h';cases t<;>cases h'
theorem QG {m f:Nat} (h:m+1≤f+1):Nat.div m 2≤f:=by
 have:Nat.div m 2=m/2:=rfl
 omega
theorem IJ (v:α):∀(f n j:Nat),n≤f→(single v f n).get j=if n=j then some v else none:=by
 intro f
 induction f with
 | zero =>
   intro n j h
   obtain rfl:n=0:=by omega
   rw[EJ]
   cases j with
   | zero=>rfl
   | succ k=>simp only[nP,get_nil];cases Nat.beq (Nat.mod k 2) 0<;>rfl
 | succ f ih =>
   intro n j h
   cases n with
   | zero =>
     rw[wh]
     cases j with
     | zero=>rfl
     | succ k=>simp only[nP,get_nil];cases Nat.beq (Nat.mod k 2) 0<;>rfl
   | succ m =>
     rw[EK]
     cases hm:Nat.beq (Nat.mod m 2) 0<;>cases j with
     | zero=>rfl
     | succ k =>
       cases hk:Nat.beq (Nat.mod k 2) 0<;>simp only[cond,nP,hk]<;>first
        | (rw[ih _ _ (QG h)]
           by_cases e:Nat.div m 2=Nat.div k 2
           ·rw[if_pos e,if_pos (by rw[FM hm hk e])]
           ·rw[if_neg e,if_neg (by intro e2;apply e;obtain rfl:m=k:=by omega
                                   rfl)])
        | (first|rw[get_nil,if_neg (DL hm hk)]|rw[if_neg (DL hm hk)])
theorem mO (t:T α):∀(i j:Nat) (v:α),(t.set i v).get j=if i=j then some v else t.get j:=by
 induction t with
 | nil=>intro i j v;rw[get_nil,set_nil];exact IJ v i i j (Nat.le_refl _)
 | node x l r ihl ihr =>
   intro i j v
   cases i with
   | zero =>
     rw[MW]
     cases j with
     | zero=>rfl
     | succ k=>rw[nP,nP];simp
   | succ m =>
     rw[MX]
     cases hm:Nat.beq (Nat.mod m 2) 0<;>cases j with
     | zero=>simp[cond,Ou]
     | succ k =>
       cases hk:Nat.beq (Nat.mod k 2) 0<;>simp only[cond,nP,hk]<;>first
        | (first|rw[ihl]|rw[ihr]
           by_cases e:Nat.div m 2=Nat.div k 2
           ·rw[if_pos e,if_pos (by rw[FM hm hk e])]
           ·rw[if_neg e,if_neg (by intro e2;apply e;obtain rfl:m=k:=by omega
                                   rfl)])
        | (rw[if_neg (DL hm hk)])
theorem get_set_same (t:T α) (i:Nat) (v:α):(t.set i v).get i=some v:=by rw[mO,if_pos rfl]
theorem bC (t:T α) {i j:Nat} (v:α) (h:i≠j):(t.set i v).get j=t.get j:=by rw[mO,if_neg h]
theorem FT (l:List α):∀(t:T α) (i j:Nat),(t.K4 i l).get j=if i≤j∧j<i+l.length then l[j-i]? else t.get j:=by
 induction l with
 | nil=>intro t i j;simp only[K4,List.length_nil];rw[if_neg (by omega)]
 | cons x l ih =>
   intro t i j
   simp only[K4,List.length_cons]
   rw[ih,mO]
   by_cases h1:i+1≤j∧j<i+1+l.length
   ·rw[if_pos h1,if_pos (by omega)]
    obtain⟨d,hd⟩:∃d,j-i=d+1:=⟨j-i-1,by omega⟩
    rw[hd,List.getElem?_cons_succ,show j-(i+1)=d from by omega]
   ·rw[if_neg h1]
    by_cases h2:i=j
    ·subst h2;simp
    ·rw[if_neg h2,if_neg (by omega)]
theorem gG (l:List α) (j:Nat):(ofList l).get j=l[j]? := by
 unfold ofList
 rw[FT]
 by_cases h:j<l.length
 ·rw[if_pos (by omega)];simp
 ·rw[if_neg (by omega),get_nil,List.getElem?_eq_none (by omega)]
theorem nQ {t:T α}:∀{n i:Nat} {l:List α},t.wG n i=some l→l.length=n∧∀j,j<n→t.get (i+j)=l[j]? := by
 intro n
 induction n with
 | zero=>intro i l h;simp[wG]at h;subst h;exact⟨rfl,fun j hj=>by omega⟩
 | succ n ih =>
   intro i l h
   simp only[wG]at h
   split at h
   ·cases h
   ·rename_i x hx
    split at h
    ·cases h
    ·rename_i l' hl
     cases h
     obtain⟨h1,h2⟩:=ih hl
     refine⟨by simp[h1],fun j hj => ?_⟩
     cases j with
     | zero=>simpa using hx
     | succ j=>rw[List.getElem?_cons_succ,←h2 j (by omega)];congr 1;omega
end T
structure Inf where
 b:Nat
 sh:Nat
 N:Nat
 s:Nat
 v:Value
abbrev Sg:=Nat→Option Inf
class bH where
 D:Nat→Value
variable [bH]
inductive VR (σ:Sg):Value→Value→Prop where
 | sym {i:Nat} (h:(bH.D i).oneCell'=true):VR σ (.complex .f32 30 i) (bH.D i)
 | any (v':Value):VR σ bad v'
 | dyn {i:Nat} {x:Inf} (h:σ i=some x) (ho:x.v.oneCell'=true):VR σ (.complex .f32 31 i) x.v
 | EI {i n c:Nat} {x:Inf} (h:σ i=some x) (hn:0<n):VR σ (.complex .f32 32 i) (.slice (some ⟨x.b,x.sh,none⟩) n c)
 | lG (b:Bool):VR σ lG (.bool b)
 | nC (k:IntKind) (n:Int):VR σ (nC k) (.int k n)
 | sI (a:Option Addr) (n c:Nat):VR σ sI (.slice a n c)
 | iY (s:ByteArray):VR σ iY (.string s)
 | pR (a:Option Addr) (c:Nat):VR σ pR (.slice a 0 c)
 | refl {v:Value} (h:simple v=true):VR σ v v
 | ptr {i o:Nat} {x:Inf} (h:σ i=some x):VR σ (.pointer (some ⟨i,o,none⟩)) (.pointer (some ⟨x.b,x.sh+o,none⟩))
 | slice {i o n c c':Nat} {x:Inf} (h:σ i=some x) (hc:c<OPEN→c'=c) (ho:OPEN≤c→n≤c'∧o+c'*x.s≤x.N) :
    VR σ (.slice (some ⟨i,o,none⟩) n c) (.slice (some ⟨x.b,x.sh+o,none⟩) n c')
 | map {r:Nat} {x:Inf} (h:σ r=some x):VR σ (.map (some r)) (.map (some x.b))
 | uq {i:Nat} {x:Inf} (h:σ i=some x):VR σ (AS.uq i) (.func (.yield x.b) #[] #[])
 | func {fn:Fn} {f f' c c':Array Value} (hf:f.size=f'.size) (hf':∀i,i<f.size→VR σ (f.getD i und) (f'.getD i und))
    (hc:c.size=c'.size) (hc':∀i,i<c.size→VR σ (c.getD i und) (c'.getD i und)):VR σ (.func fn f c) (.func fn f' c')
 | iface {t:TypeId} {v v':Value} (h:VR σ v v'):VR σ (.iface t v) (.iface t v')
 | agg {c c':Array Value} (hc:c.size=c'.size) (hc':∀i,i<c.size→VR σ (c.getD i und) (c'.getD i und)):VR σ (.agg c) (.agg c')
 | tuple {c c':Array Value} (hc:c.size=c'.size) (hc':∀i,i<c.size→VR σ (c.getD i und) (c'.getD i und)):VR σ (.tuple c) (.tuple c')
def Ext (σ σ':Sg):Prop:=∀i x,σ i=some x→σ' i=some x
theorem Ext.refl (σ:Sg):Ext σ σ:=fun _ _ h=>h
theorem Ext.trans {a b c:Sg} (h:Ext a b) (k:Ext b c):Ext a c:=fun i x hx=>k i x (h i x hx)
theorem VR.mono {σ σ':Sg} (he:Ext σ σ') {v v':Value} (h:VR σ v v'):VR σ' v v':=by
 induction h with
 | sym h=>exact .sym h
 | any v'=>exact .any v'
 | dyn h ho=>exact .dyn (he _ _ h) ho
 | EI h hn=>exact .EI (he _ _ h) hn
 | lG b=>exact .lG b
 | nC k n=>exact .nC k n
 | sI a n c=>exact .sI a n c
 | iY s=>exact .iY s
 | pR a c=>exact .pR a c
 | refl h=>exact .refl h
 | ptr h=>exact .ptr (he _ _ h)
 | slice h hc ho=>exact .slice (he _ _ h) hc ho
 | map h=>exact .map (he _ _ h)
 | uq h=>exact .uq (he _ _ h)
 | func hf _ hc _ ih1 ih2=>exact .func hf ih1 hc ih2
 | iface _ ih=>exact .iface ih
 | agg hc _ ih=>exact .agg hc ih
 | tuple hc _ ih=>exact .tuple hc ih
theorem VR.undef (σ:Sg):VR σ und und :=.tuple rfl (fun i hi=>by simp at hi)
def cZ (σ:Sg) (l l':List Value):Prop:=l.length=l'.length∧∀i,i<l.length→VR σ (l.getD i und) (l'.getD i und)
theorem cZ.mono {σ σ':Sg} (he:Ext σ σ') {l l':List Value} (h:cZ σ l l'):cZ σ' l l':=⟨h.1,fun i hi=>(h.2 i hi).mono he⟩
theorem cZ.nil (σ:Sg):cZ σ [] []:=⟨rfl,fun i hi=>by simp at hi⟩
theorem cZ.cons {σ:Sg} {v v':Value} {l l':List Value} (h:VR σ v v') (hl:cZ σ l l'):cZ σ (v::l) (v'::l') :=
 ⟨by simp[hl.1],fun i hi=>by
   cases i with
   | zero=>simpa using h
   | succ i=>simpa using hl.2 i (by simpa using hi)⟩
theorem cZ.head {σ:Sg} {v v':Value} {l l':List Value} (h:cZ σ (v::l) (v'::l')):VR σ v v':=by simpa using h.2 0 (by simp)
theorem cZ.tail {σ:Sg} {v v':Value} {l l':List Value} (h:cZ σ (v::l) (v'::l')):cZ σ l l' :=
 ⟨by simpa using h.1,fun i hi=>by simpa using h.2 (i+1) (by simpa using hi)⟩
theorem cZ.append {σ:Sg} {a a' b b':List Value} (h:cZ σ a a') (k:cZ σ b b'):cZ σ (a++b) (a'++b'):=by
 induction a generalizing a' with
 | nil =>
   cases a' with
   | nil=>exact k
   | cons _ _=>exact absurd h.1 (by simp)
 | cons x a ih =>
   cases a' with
   | nil=>exact absurd h.1 (by simp)
   | cons y a'=>exact cZ.cons h.head (ih h.tail)
theorem oN {l:List Value} {i:Nat} (h:i<l.length):l.getD i und=l[i]:=by simp[List.getD_eq_getElem?_getD,h]
theorem cZ.getElem? {σ:Sg} {l l':List Value} (h:cZ σ l l') {i:Nat} {v:Value} (hv:l[i]? = some v):∃v',l'[i]? = some v'∧VR σ v v':=by
 obtain⟨hi,he⟩:=List.getElem?_eq_some_iff.1 hv
 have hr:=h.2 i hi
 have hi':i<l'.length:=by rw[←h.1];exact hi
 refine⟨l'[i],List.getElem?_eq_getElem hi',?_⟩
 rw[oN hi,oN hi',he]at hr
 exact hr
theorem cZ.kg {σ:Sg} {l l':List Value} (hl:l.length=l'.length) (h:∀(i:Nat) (v v':Value),l[i]? = some v→l'[i]? = some v'→VR σ v v'):cZ σ l l' :=
 ⟨hl,fun i hi=>by
   have hi':i<l'.length:=by rw[←hl];exact hi
   rw[oN hi,oN hi']
   exact h i _ _ (List.getElem?_eq_getElem hi) (List.getElem?_eq_getElem hi')⟩
theorem vR (c:Array Value) (i:Nat):c.getD i und=c.toList.getD i und:=by
 cases c;simp
theorem VR.arr {σ:Sg} {c c':Array Value} (hc:c.size=c'.size) (hc':∀i,i<c.size→VR σ (c.getD i und) (c'.getD i und)):cZ σ c.toList c'.toList :=
 ⟨by simpa using hc,fun i hi=>by rw[←vR,←vR];exact hc' i (by simpa using hi)⟩
theorem cZ.vP {σ:Sg} {c c':Array Value} (h:cZ σ c.toList c'.toList):c.size=c'.size:=by simpa using h.1
theorem cZ.yS {σ:Sg} {c c':Array Value} (h:cZ σ c.toList c'.toList):∀i,i<c.size→VR σ (c.getD i und) (c'.getD i und) :=
 fun i hi=>by rw[vR,vR];exact h.2 i (by simpa using hi)
theorem VR.wT {σ:Sg} {c c':Array Value} (h:cZ σ c.toList c'.toList):VR σ (.agg c) (.agg c') :=.agg h.vP h.yS
theorem VR.ig {σ:Sg} {c c':Array Value} (h:cZ σ c.toList c'.toList):VR σ (.tuple c) (.tuple c') :=.tuple h.vP h.yS
theorem VR.one {σ:Sg} {v v':Value} (h:VR σ v v') (ho:one v=true):v'.oneCell'=true:=by
 cases h<;>first|rfl|(simp[AS.one,bad]at ho;done)|assumption|skip
 rename_i hs
 cases v<;>first|rfl|(simp[AS.one]at ho;done)
theorem VR.cells {σ:Sg} {v v':Value} (h:VR σ v v') (hb:v≠bad):cZ σ (cellsOf v) v'.cells.toList:=by
 have key:∀{u u':Value},VR σ u u'→cZ σ [u] [u']:=fun hu=>cZ.cons hu (cZ.nil σ)
 cases h with
 | sym ho =>
   rename_i i
   have:(bH.D i).cells.toList=[bH.D i]:=by
    generalize bH.D i=u at ho ⊢
    cases u<;>first|rfl|cases ho
   rw[this]
   exact key (.sym ho)
 | any v'=>exact absurd rfl hb
 | dyn h ho =>
   rename_i i x
   have:x.v.cells.toList=[x.v]:=by
    generalize x.v=u at ho ⊢
    cases u<;>first|rfl|cases ho
   rw[this]
   exact key (.dyn h ho)
 | EI h hn=>exact key (.EI h hn)
 | agg hc hc'=>exact VR.arr hc hc'
 | refl hs =>
   have:cellsOf v=[v]∧v.cells.toList=[v]:=by cases v<;>first|exact⟨rfl,rfl⟩|(simp[simple]at hs;done)
   rw[this.1,this.2]
   exact key (.refl hs)
 | lG b=>exact key (.lG b)
 | nC k n=>exact key (.nC k n)
 | sI a n c=>exact key (.sI a n c)
 | iY s=>exact key (.iY s)
 | pR a c=>exact key (.pR a c)
 | ptr h=>exact key (.ptr h)
 | slice h a b=>exact key (.slice h a b)
 | map h=>exact key (.map h)
 | uq h=>exact key (.uq h)
 | func a b c d=>exact key (.func a b c d)
 | iface a=>exact key (.iface a)
 | tuple a b=>exact key (.tuple a b)
end Go.AS
