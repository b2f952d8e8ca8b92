import Derived.Test.YtlaogoehmndcjaaGreatDoorZ01
import Derived.Lib.Bytealg
set_option linter.unusedSectionVars false
set_option linter.unusedVariables false
set_option linter.unusedSimpArgs false
namespace Go.AS
noncomputable section
def nZ:List Value→Bool
 | []=>true
 | v::l=>cond (simple v) (nZ l) false
def places (E:Env):List Field→Option (List (Nat×Nat))
 | []=>some []
 | f::fs=>match E.types.get f.type,places E fs with
   | some ti,some l=>some ((f.offset,ti.size)::l)
   | _,_=>none
def wR:List (Nat×Value)→Bool
 | []=>false
 | (_,v)::l=>cond (vk v) true (wR l)
def Je (E:Env) (t:TypeId) (parts:List (Nat×Value)):Option Value :=
 match E.types.get t,wR parts with
 | some ti,false=>match ti.desc with
   | .struct fs=>match places E fs.toList with
     | some pl=>match Instr.fill (pl.toArray[·]?) ti.zero.toArray parts with
       | some cells=>some (.agg cells)
       | none=>none
     | none=>none
   | .array _ e=>match E.types.get e with
     | some te=>match Instr.fill (fun i=>some (i*te.size,te.size)) ti.zero.toArray parts with
       | some cells=>some (.agg cells)
       | none=>none
     | none=>none
   | _=>none
 | _,_=>none
def rep (n:Nat) (z:List Value):List Value :=
 match n with
 | 0=>[]
 | n+1=>z++rep n z
def kF (E:Env) (t:TypeId) (len:Nat) (parts:List (Nat×Value)):Option Out :=
 match lT E t,wR parts with
 | some (e,te),false=>match Nat.ble (len*te.size) 100000,te.size with
   | true,s+1=>match Instr.fill (fun i=>some (i*(s+1),s+1)) (rep len te.zero).toArray parts with
     | some cells=>some (.new (newRow e cells.toList) (.slice len len))
     | none=>none
   | _,_=>none
 | _,_=>none
def lM (E:Env) (t:TypeId) (l c:Value):Option Out :=
 match lT E t,l,c with
 | some (e,te),.int _ (.ofNat l),.int _ (.ofNat c)=>match Nat.ble l c,Nat.ble (c*te.size) 100000,Nat.ble c 1000000,Nat.ble te.bytes 100000 with
   | true,true,true,true=>some (.new (newRow e (rep c te.zero)) (.slice l c))
   | _,_,_,_=>none
 | _,_,_=>none
def tO (E:Env) (t:TypeId) (x:Value) (f:Nat):Option Value :=
 match E.types.get t,x with
 | some ti,.pointer (some a)=>match ti.desc with
   | .struct fs=>match fs[f]? with
     | some fd=>match E.types.get fd.type with
       | some tf=>match tf.size with
         | 0=>none
         | _=>some (.pointer (some ⟨a.block,a.off+fd.offset,none⟩))
       | none=>none
     | none=>none
   | _=>none
 | _,_=>none
def IL (E:Env) (t:TypeId) (x:Value) (f:Nat):Option Value :=
 match E.types.get t,x with
 | some ti,.agg cs=>match ti.desc with
   | .struct fs=>match fs[f]? with
     | some fd=>zu E fd.type cs fd.offset
     | none=>none
   | _=>none
 | _,_=>none
def tJ (E:Env) (t:TypeId) (x i:Value):Option Value :=
 match E.types.get t,i with
 | some ti,.int _ (.ofNat i)=>match ti.desc,x with
   | .slice e,.slice (some a) n _=>match E.types.get e,Nat.blt i n with
     | some te,true=>some (.pointer (some ⟨a.block,a.off+i*te.size,none⟩))
     | _,_=>none
   | .array n e,.pointer (some a)=>match E.types.get e,Nat.blt i n with
     | some te,true=>some (.pointer (some ⟨a.block,a.off+i*te.size,none⟩))
     | _,_=>none
   | _,_=>none
 | _,_=>none
def Iq (E:Env) (t:TypeId) (x i:Value):Option Value :=
 match E.types.get t,i with
 | some ti,.int _ (.ofNat i)=>match ti.desc,x with
   | .array n e,.agg cs=>match E.types.get e,Nat.blt i n with
     | some te,true=>zu E e cs (i*te.size)
     | _,_=>none
   | .string,.string s=>match s.data.toList[i]? with
     | some b=>some (.int .u8 b.toNat)
     | none=>none
   | _,_=>none
 | _,_=>none
def qD (E:Env) (src dst:TypeId) (x:Value) (m:Mem):Option Out :=
 match E.types.get src,E.types.get dst with
 | some ts,some td=>match ts.desc,td.desc,x with
   | _,.int k,.int _ n=>some (.val (.int k (k.wrap n)))
   | _,.string,.string s=>some (.val (.string s))
   | _,.slice e,.string s=>match E.types.get e with
     | some te=>match te.desc,te.size,Nat.ble s.data.toList.length 1000000 with
       | .int .u8,1,true=>some (.kM (.slice (some ⟨m.n,0,none⟩) s.data.toList.length OPEN) ⟨m.n+1,m.t.set m.n (newRow e (s.data.toList.map fun b => .int .u8 b.toNat))⟩)
       | _,_,_=>none
     | none=>none
   | _,.slice e,.slice (some a) n c=>match E.types.get e,Nat.beq src dst,m.t.get a.block with
     | some te,true,some (.row _ _ _)=>match te.desc with
       | .int .u8=>some (.kM (.slice (some a) n c) m)
       | _=>none
     | _,_,_=>none
   | .slice e,.string,.slice none _ _=>match E.types.get e with
     | some te=>match te.desc with
       | .int .u8=>some (.val (.string ⟨#[]⟩))
       | _=>none
     | none=>none
   | .slice e,.string,.slice (some a) n _=>match E.types.get e,m.t.get a.block with
     | some te,some (.row cells k _)=>match te.desc,Nat.ble (a.off+n) k with
       | .int .u8,true=>match cells.wG n a.off with
         | some l=>match l.mapM (fun v=>match v with | .int .u8 (.ofNat b)=>some (UInt8.ofNat b)|_=>none)with
           | some bs=>some (.val (.string ⟨bs.toArray⟩))
           | none=>none
         | none=>none
       | _,_=>none
     | _,_=>none
   | .pointer e,.unsafePointer,.pointer (some a)=>match E.types.get e,m.t.get a.block with
     | some te,some (.row _ n _)=>match te.size,Nat.ble (a.off+1) n with
       | _+1,true=>some (.val (.pointer (some a)))
       | _,_=>none
     | _,_=>none
   | _,_,_=>none
 | _,_=>none
def uG (kind:TypeDesc) (a b:Value):Option Bool :=
 match kind,a,b with
 | .int _,.int j x,.int k y=>match sameKind j k with|true=>some (x==y)|false=>none
 | .string,.string a,.string b=>some (a.data.toList==b.data.toList)
 | _,_,_=>none
def Ke (E:Env) (t:TypeId) (d:TypeDesc) (a b:Value):Option Bool :=
 match d with
 | .struct _=>Um E 20 t a b
 | _=>uG d a b
def qy (E:Env) (t:TypeId) (d:TypeDesc) (k:Value):List MapEntry→Nat→Option (Option (Nat×Value))
 | [],_=>some none
 | e::es,i=>match Ke E t d k e.key with
   | some true=>some (some (i,e.val))
   | some false=>qy E t d k es (i+1)
   | none=>none
def Ee (E:Env) (t:TypeId):Bool :=
 match E.types.get t with
 | some ti=>match ti.desc with
   | .int _ | .string | .bool=>true
   | _=>false
 | none=>false
def qW (E:Env) (cs:Array Value):List Field→Bool
 | []=>true
 | f::fs=>match f.name == "_" with
   | true=>qW E cs fs
   | false=>match Ee E f.type,zu E f.type cs f.offset with
     | true,some _=>qW E cs fs
     | _,_=>false
def mapType (E:Env) (t:TypeId):Option (TypeId×TI×TI) :=
 match E.types.get t with
 | some ti=>match ti.desc with
   | .map k e=>match E.types.get k,E.types.get e with
     | some tk,some te=>some (k,tk,te)
     | _,_=>none
   | _=>none
 | none=>none
def Fx (E:Env) (d:TypeDesc) (k:Value):Bool :=
 match d,k with
 | .int _,.int _ _=>true
 | .string,.string _=>true
 | .struct fs,.agg cs=>qW E cs fs.toList
 | _,_=>false
def Yh (a b:Value):Bool :=
 match a,b with
 | .int j x,.int k y=>sameKind j k&&x==y
 | .string a,.string b=>a.data.toList==b.data.toList
 | .bool a,.bool b=>a==b
 | _,_=>false
def ru:List Value→List Value→Bool
 | [],[]=>true
 | a::l,b::r=>cond (Yh a b) (ru l r) false
 | _,_=>false
def OB (a b:Value):Bool :=
 match a,b with
 | .agg x,.agg y=>ru x.toList y.toList
 | a,b=>Yh a b
def zeroOf (te:TI):Value :=
 match yB te.desc,te.zero with
 | false,[z]=>z
 | _,l => .agg l.toArray
def Dx (E:Env) (t:TypeId) (x k:Value) (ok:Bool) (m:Mem):Option Value :=
 match mapType E t with
 | some (kt,tk,te)=>match Fx E tk.desc k with
   | false=>none
   | true=>match x with
     | .map none=>some (cond ok (.tuple #[zeroOf te,.bool false]) (zeroOf te))
     | .map (some r)=>match m.t.get r with
       | some (.map es _)=>match qy E kt tk.desc k es 0 with
         | some (some (_,v))=>some (cond ok (.tuple #[v,.bool true]) v)
         | some none=>some (cond ok (.tuple #[zeroOf te,.bool false]) (zeroOf te))
         | none=>none
       | _=>none
     | _=>none
 | none=>none
def zg (es:List MapEntry) (i:Nat) (k v:Value):List MapEntry :=
 match es,i with
 | [],_=>[]
 | e::es,0=>⟨k,v,e.born⟩::es
 | e::es,i+1=>e::zg es i k v
def tF (E:Env) (t:TypeId) (x k v:Value) (m:Mem):Option Mem :=
 match mapType E t,x with
 | some (kt,tk,_),.map (some r)=>match Fx E tk.desc k,m.t.get r with
   | true,some (.map es clock)=>match qy E kt tk.desc k es 0 with
     | some (some (i,_))=>match es[i]? with
       | some e=>match OB e.key k with
         | true=>some ⟨m.n,m.t.set r (.map (zg es i k v) clock)⟩
         | false=>none
       | none=>none
     | some none=>some ⟨m.n,m.t.set r (.map (es++[⟨k,v,clock⟩]) (clock+1))⟩
     | none=>none
   | _,_=>none
 | _,_=>none
def vJ:List MapEntry→Nat→List MapEntry
 | [],_=>[]
 | _::es,0=>es
 | e::es,i+1=>e::vJ es i
def DZ (E:Env) (t:TypeId) (x k:Value) (m:Mem):Option Mem :=
 match mapType E t with
 | some (kt,tk,_)=>match Fx E tk.desc k with
   | false=>none
   | true=>match x with
     | .map none=>some m
     | .map (some r)=>match m.t.get r with
       | some (.map es clock)=>match qy E kt tk.desc k es 0 with
         | some (some (i,_))=>some ⟨m.n,m.t.set r (.map (vJ es i) clock)⟩
         | some none=>some m
         | none=>none
       | _=>none
     | _=>none
 | none=>none
def TE (E:Env) (t:TypeId) (x:Value) (m:Mem):Option Value :=
 match E.types.get t with
 | some ti=>match ti.desc,x with
   | .string,.string s=>some (.int .i64 s.data.toList.length)
   | .slice _,.slice _ n _=>some (.int .i64 n)
   | .slice _,.complex .f32 3 0=>some (nC .i64)
   | .slice _,.complex .f32 5 0=>some (.int .i64 0)
   | .string,.complex .f32 4 0=>some (nC .i64)
   | .array n _,_=>some (.int .i64 n)
   | .map _ _,.map none=>some (.int .i64 0)
   | .map _ _,.map (some r)=>match m.t.get r with
     | some (.map es _)=>some (.int .i64 es.length)
     | _=>none
   | _,_=>none
 | none=>none
def zK (mx:Bool) (x y:Value):Option Value :=
 match x,y with
 | .int k a,.int j b=>match sameKind k j with
   | true=>some (.int k (cond mx (if b>a then b else a) (if b<a then b else a)))
   | false=>none
 | _,_=>none
def G5 (E:Env) (t:TypeId) (a x:Value) (m:Mem):Option Mem :=
 match a,E.types.get t,vk x with
 | .pointer (some a),some ti,false=>match Nat.beq (cellsOf x).length ti.size with
   | true=>mW ⟨a.block,a.off,none⟩ (cellsOf x) m
   | false=>none
 | _,_,_=>none
def isIface:TypeDesc→Bool
 | .interface _=>true
 | _=>false
def zf (E:Env) (t:TypeId) (x:Value) (lo hi mx:Option Value) (m:Mem):List Out :=
 match E.types.get t,(hi.isNone&&mx.isSome)with
 | some ti,false=>match ti.desc with
   | .slice e=>match E.types.get e with
     | some te=>zb e te.size x lo hi mx m
     | none=>[]
   | .string=>match x,mx with
     | .string s,none=>match bound hi s.data.toList.length s.data.toList.length with
       | some h=>match bound lo 0 h with
         | some l=>[.val (.string ⟨((s.data.toList.drop l).take (h-l)).toArray⟩)]
         | none=>[]
       | none=>[]
     | _,_=>[]
   | .array n e=>match x,E.types.get e,Nat.ble n 1000000 with
     | .pointer (some a),some te,true=>match bound mx n n with
       | some mm=>match bound hi n mm with
         | some h=>match bound lo 0 h with
           | some l=>[.val (.slice (some (cond (Nat.beq mm l) a ⟨a.block,a.off+l*te.size,none⟩)) (h-l) (mm-l))]
           | none=>[]
         | none=>[]
       | none=>[]
     | _,_,_=>[]
   | _=>[]
 | _,_=>[]
def WW:TypeDesc→Bool
 | .pointer _=>true
 | _=>false
def oK (E:Env) (t:TypeId) (name:String) (v:Value):Option (FuncId×Value) :=
 match E.P.info? t,E.types.get t with
 | some i,some ti=>match i.methods.toList.find? (fun m=>m.name==name)with
   | some m=>match m.path.toList,m.func with
     | [],some (f,ptr)=>match ti.desc,ptr with
       | .pointer _,true=>some (f,v)
       | .pointer _,false=>none
       | _,false=>some (f,v)
       | _,true=>none
     | [st],some (f,true)=>match st.deref,E.types.get st.struct,v with
       | true,some ts,.pointer (some a)=>match ts.desc with
         | .struct fs=>match fs[st.index]? with
           | some fd=>match E.types.get fd.type with
             | some tf=>match Nat.beq tf.size 0,WW tf.desc with
               | false,false=>some (f,.pointer (some ⟨a.block,a.off+fd.offset,none⟩))
               | _,_=>none
             | none=>none
           | none=>none
         | _=>none
       | _,_,_=>none
     | _,_=>none
   | none=>none
 | _,_=>none
def noT (ok:Bool) (z:Value):Option Value:=cond ok (some (.tuple #[z,.bool false])) none
def R5 (ok:Bool) (v:Value):Option Value:=some (cond ok (.tuple #[v,.bool true]) v)
def LB (name:String) (sig:TypeId):List Method→Bool
 | []=>false
 | m::l=>cond (m.name==name) (cond (Nat.beq m.sig sig) true (LB name sig l)) (LB name sig l)
def zJ (got:List Method):List (String×TypeId)→Bool
 | []=>false
 | (n,s)::l=>cond (LB n s got) (zJ got l) true
def Eg (E:Env) (asserted:TypeId) (x:Value) (ok:Bool):Option Value :=
 match E.types.get asserted with
 | none=>none
 | some ta=>match ta.desc,x with
   | .interface _,.nilIface=>noT ok (zeroOf ta)
   | .interface want,.iface t v=>match E.P.info? t with
     | none=>none
     | some i=>match zJ i.methods.toList want.toList with
       | false=>R5 ok (.iface t v)
       | true=>noT ok (zeroOf ta)
   | _,.nilIface=>noT ok (zeroOf ta)
   | _,.iface t v=>match Nat.beq t asserted with
     | true=>R5 ok v
     | false=>noT ok (zeroOf ta)
   | _,_=>none
def Hl (E:Env) (t:TypeId) (x:Value) (m:Mem):Option Out :=
 match E.types.get t with
 | none=>none
 | some ti=>match ti.desc,x with
   | .string,.string s=>some (.new (.sit s 0) .ptr)
   | .map _ _,.map none=>some (.new (.ND none 0 [] 0) .ptr)
   | .map _ _,.map (some r)=>match m.t.get r with
     | some (.map _ clock)=>some (.new (.ND (some r) clock [] clock) .ptr)
     | _=>none
   | _,_=>none
def EY:Value :=.tuple #[.bool false]
def rC (last:Nat):List MapEntry→Bool
 | []=>true
 | e::l=>cond (Nat.ble last e.born) (rC last l) false
def isNil {α:Type}:List α→Bool
 | []=>true
 | _::_=>false
def NH (x:Nat):List Nat→Bool
 | []=>false
 | y::l=>cond (Nat.beq x y) true (NH x l)
def ql (m:Mem) (i r since:Nat) (seen:List Nat) (clock:Nat):List MapEntry→List Out
 | []=>[]
 | e::l => .kM (.tuple #[.bool true,e.key,e.val]) ⟨m.n,m.t.set i (.ND (some r) since (seen++[e.born]) clock)⟩::ql m i r since seen clock l
def leftOf (seen:List Nat):List MapEntry→List MapEntry
 | []=>[]
 | e::l=>cond (NH e.born seen) (leftOf seen l) (e::leftOf seen l)
def qc (since:Nat):List MapEntry→List MapEntry
 | []=>[]
 | e::l=>cond (Nat.blt e.born since) (e::qc since l) (qc since l)
def xw (since:Nat):List MapEntry→List MapEntry
 | []=>[]
 | e::l=>cond (Nat.blt e.born since) (xw since l) (e::xw since l)
def Fg (it:Value) (isString:Bool) (m:Mem):List Out :=
 match it with
 | .pointer (some ⟨i,0,none⟩)=>match m.t.get i,isString with
   | some (.sit s p),true=>match Nat.blt p s.size with
     | true=>[.kM (.tuple #[.bool true,.int .i64 p,.int .i32 (Utf8.decode s p).1]) ⟨m.n,m.t.set i (.sit s (p+(Utf8.decode s p).2))⟩]
     | false=>[.val EY]
   | some (.ND none _ _ _),false=>[.val EY]
   | some (.ND (some r) since seen last),false=>match m.t.get r with
     | some (.map es clock)=>match isNil seen,isNil es,rC last es with
       | false,false,true=>[]
       | _,_,_=>cond (isNil (qc since (leftOf seen es))) [.kM EY m] []++ql m i r since seen clock (qc since (leftOf seen es)++xw since (leftOf seen es))
     | _=>[]
   | _,_=>[]
 | _=>[]
def Kb:List Nat→Option Nat
 | []=>none
 | [x]=>some x
 | _::y::l=>Kb (y::l)
def vG (b:Nat):List MapEntry→Option MapEntry
 | []=>none
 | e::l=>cond (Nat.beq e.born b) (some e) (vG b l)
def IW (it:Value) (m:Mem):Option Value :=
 match it with
 | .pointer (some ⟨i,0,none⟩)=>match m.t.get i with
   | some (.ND (some r) _ seen stepped)=>match Kb seen,m.t.get r with
     | some stamp,some (.map es clock)=>match Nat.beq clock stepped,vG stamp es with
       | true,some e=>some (.tuple #[e.key,e.val])
       | _,_=>none
     | _,_=>none
   | _=>none
 | _=>none
def Gg (a:Addr) (m:Mem):Option Value :=
 match m.t.get a.block with
 | some (.row cells n _)=>match Nat.ble (a.off+1) n with
   | true=>cells.get a.off
   | false=>none
 | _=>none
def Ul (x:BH) (args:List Value) (m:Mem):Option Out :=
 match x,args with
 | .load k,[.pointer (some a)]=>match Gg a m with
   | some (.int j n)=>match sameKind k j with
     | true=>some (.val (.int j n))
     | false=>none
   | _=>none
 | .store,[.pointer (some a),v]=>match vk v,mW ⟨a.block,a.off,none⟩ [v] m with
   | false,some m'=>some (.kM und m')
   | _,_=>none
 | .add k,[.pointer (some a),.int _ y]=>match Gg a m with
   | some (.int j n)=>match sameKind k j,mW ⟨a.block,a.off,none⟩ [.int k (k.wrap (n+y))] m with
     | true,some m'=>some (.kM (.int k (k.wrap (n+y))) m')
     | _,_=>none
   | _=>none
 | .U3 k,[.pointer (some a),.int _ y,v]=>match Gg a m,vk v with
   | some (.int j n),false=>match sameKind k j with
     | true=>match n==y with
       | true=>match mW ⟨a.block,a.off,none⟩ [v] m with
         | some m'=>some (.kM (.bool true) m')
         | none=>none
       | false=>some (.val (.bool false))
     | false=>none
   | _,_=>none
 | .QY,[.string a,.string b]=>some (.val (.int .i64 (Lib.compareBytes a.data.toList b.data.toList)))
 | .WH _,_=>some (.val und)
 | .Fw _,[.pointer (some _)]=>some (.val und)
 | _,_=>none
def qH (E:Env) (ρ:Operand→Value) (c:Call) (m:Mem):List Out :=
 match c.callee with
 | .builtin .len=>match c.argTypes.toList,c.args.toList with
   | [t],[x]=>ow (TE E t (ρ x) m)
   | _,_=>[]
 | .builtin .append=>match c.argTypes.toList,c.args.toList with
   | [t,u],[s,x]=>match Nat.beq t u with
     | true=>Ms (El E t (ρ s) (ρ x) m)
     | false=>[]
   | _,_=>[]
 | .builtin .copy=>match c.argTypes.toList,c.args.toList with
   | [t,_],[s,x]=>Ms (OL E t (ρ s) (ρ x) m)
   | _,_=>[]
 | .builtin .delete=>match c.argTypes.toList,c.args.toList with
   | t::_,[x,k]=>match DZ E t (ρ x) (ρ k) m with
     | some m'=>[.kM und m']
     | none=>[]
   | _,_=>[]
 | .builtin .min=>match c.args.toList with
   | [x,y]=>ow (zK false (ρ x) (ρ y))
   | _=>[]
 | .builtin .max=>match c.args.toList with
   | [x,y]=>ow (zK true (ρ x) (ρ y))
   | _=>[]
 | .value f=>match ρ f with
   | .func (.func g) first cap=>match E.funcs.get g with
     | some _=>[.enter (.fn g) (first.toList++c.args.toList.map ρ++cap.toList)]
     | none=>match E.exts.get g with
       | some x=>Ms (Ul x (first.toList++c.args.toList.map ρ++cap.toList) m)
       | none=>[]
   | .func (.method name) first _=>match first.toList with
     | .iface t v::r=>match oK E t name v with
       | some (g,u)=>match E.funcs.get g with
         | some _=>[.enter (.fn g) (u::(r++c.args.toList.map ρ))]
         | none=>[]
       | none=>[]
     | _=>[]
   | .complex .f32 7 i=>[.enter (.uq i) (c.args.toList.map ρ)]
   | _=>[]
 | .invoke r name=>match ρ r with
   | .iface t v=>match oK E t name v with
     | some (g,u)=>match E.funcs.get g with
       | some _=>[.enter (.fn g) (u::c.args.toList.map ρ)]
       | none=>[]
     | none=>[]
   | _=>[]
 | _=>[]
def kC (E:Env) (ρ:Operand→Value) (o:Oper) (m:Mem):List Out :=
 match o.op with
 | .move x | .assign x=>[.val (ρ x)]
 | .pick c a b=>match ρ c with
   | .bool t=>[.val (cond t (ρ a) (ρ b))]
   | .complex .f32 1 0=>[.val (ρ a),.val (ρ b)]
   | _=>[]
 | .alloc t=>match E.types.get t with
   | some ti=>[.new (newRow t ti.zero) .ptr]
   | none=>[]
 | .box t x=>match E.types.get t,vk (ρ x)with
   | some _,false=>[.new (newRow t (cellsOf (ρ x))) .ptr]
   | _,_=>[]
 | .build t parts=>ow (Je E t (parts.toList.map fun p=>(p.1,ρ p.2)))
 | .buildSlice t len parts=>Ms (kF E t len (parts.toList.map fun p=>(p.1,ρ p.2)))
 | .load t a=>match ρ a with
   | .pointer (some a)=>ow (loadAt E t a m)
   | _=>[]
 | .store t a x=>match G5 E t (ρ a) (ρ x) m with
   | some m'=>[.kM und m']
   | none=>[]
 | .nilCheck x=>match ρ x with
   | .pointer (some a)=>[.val (.pointer (some a))]
   | .func (.func g) a b=>[.val (.func (.func g) a b)]
   | .func (.method name) a b=>match a.toList with
     | .iface t v::_=>match oK E t name v with
       | some _=>[.val (.func (.method name) a b)]
       | none=>[]
     | _=>[]
   | .iface t v=>[.val (.iface t v)]
   | .complex .f32 7 i=>[.val (uq i)]
   | _=>[]
 | .binOp op t x y _=>ow (AL E op t (isConst x||isConst y) (ρ x) (ρ y))
 | .unOp op _ x=>match op,ρ x with
   | .not,.bool b=>[.val (.bool !b)]
   | .not,.complex .f32 1 0=>[.val lG]
   | .neg,.int k n=>[.val (.int k (k.wrap (0-n)))]
   | .xor,.int k n=>ow (zQ .xor k (if k.signed then -1 else k.max) n)
   | _,_=>[]
 | .convert src dst x=>Ms (qD E src dst (ρ x) m)
 | .makeInterface t x=>match E.types.get t with
   | some ti=>match isIface ti.desc with
     | false=>[.val (.iface t (ρ x))]
     | true=>[]
   | none=>[]
 | .makeFunc fn first captured=>[.val (.func fn (first.map ρ) (captured.map ρ))]
 | .makeMap _ none=>[.new (.map [] 0) .map]
 | .makeSlice t l c=>Ms (lM E t (ρ l) (ρ c))
 | .slice t x lo hi mx=>zf E t (ρ x) (lo.map ρ) (hi.map ρ) (mx.map ρ) m
 | .fieldAddr t x f=>ow (tO E t (ρ x) f)
 | .field t x f=>ow (IL E t (ρ x) f)
 | .indexAddr t x i=>ow (tJ E t (ρ x) (ρ i))
 | .index t x i=>ow (Iq E t (ρ x) (ρ i))
 | .lookup t x k ok=>ow (Dx E t (ρ x) (ρ k) ok m)
 | .mapUpdate t x k v | .insert t x k v=>match tF E t (ρ x) (ρ k) (ρ v) m with
   | some m'=>[.kM und m']
   | none=>[]
 | .extract t i=>match ρ t with
   | .tuple vs=>match vs.toList[i]? with
     | some v=>[.val v]
     | none=>[]
   | _=>[]
 | .range t x=>Ms (Hl E t (ρ x) m)
 | .next it isString=>Fg (ρ it) isString m
 | .entry it=>ow (IW (ρ it) m)
 | .typeAssert x _ asserted ok=>ow (Eg E asserted (ρ x) ok)
 | .call c=>qH E ρ c m
 | _=>[]
mutual
def Vk:Nat→Value→Value→Bool
 | 0,_,_=>false
 | n+1,a,b=>match a,b with
   | .bool a,.bool b=>a==b
   | .int j a,.int k b=>sameKind j k&&a==b
   | .string a,.string b=>a.data.toList==b.data.toList
   | .pointer none,.pointer none=>true
   | .pointer (some ⟨a,b,none⟩),.pointer (some ⟨c,d,none⟩)=>Nat.beq a c&&Nat.beq b d
   | .slice none a b,.slice none c d=>Nat.beq a c&&Nat.beq b d
   | .slice (some ⟨i,o,none⟩) a b,.slice (some ⟨j,p,none⟩) c d=>Nat.beq i j&&Nat.beq o p&&Nat.beq a c&&Nat.beq b d
   | .map none,.map none=>true
   | .map (some a),.map (some b)=>Nat.beq a b
   | .func (.func f) a b,.func (.func g) c d=>Nat.beq f g&&uy n a.toList c.toList&&uy n b.toList d.toList
   | .nilFunc,.nilFunc=>true
   | .nilIface,.nilIface=>true
   | .iface t v,.iface u x=>Nat.beq t u&&Vk n v x
   | .agg a,.agg b=>uy n a.toList b.toList
   | .tuple a,.tuple b=>uy n a.toList b.toList
   | .complex .f32 a b,.complex .f32 c d=>Nat.beq a c&&Nat.beq b d
   | _,_=>false
def uy:Nat→List Value→List Value→Bool
 | 0,_,_=>false
 | n+1,l,r=>match l,r with
   | [],[]=>true
   | a::l,b::r=>Vk n a b&&uy n l r
   | _,_=>false
end
def pQ:BinOp→Nat
 | .add=>10 | .sub=>11 | .mul=>12 | .quo=>13 | .rem=>14 | .and=>15 | .or=>16 | .xor=>17 | .shl=>18 | .shr=>19 | .andNot=>20
 | .eql=>21 | .neq=>22 | .lss=>23 | .leq=>24 | .gtr=>25 | .geq=>26
def wX:UnOp→Nat
 | .neg=>30 | .xor=>31 | .not=>32 | .plus=>33
def Fv (l h m:Option Operand):Nat:=(match l with|some _=>1|none=>0)+(match h with|some _=>2|none=>0)+(match m with|some _=>4|none=>0)
def nM:List TypeId→Nat
 | []=>0
 | t::_=>t
def jl (o:Oper):Option (Nat×Nat×Nat) :=
 match o.op with
 | .binOp op t _ _ u=>some (pQ op,t,u)
 | .unOp op t _=>some (wX op,t,0)
 | .convert a b _=>some (1,a,b)
 | .pick _ _ _=>some (2,0,0)
 | .slice t _ l h m=>some (3,t,Fv l h m)
 | .load t _=>some (40,t,0)
 | .indexAddr t _ _=>some (41,t,0)
 | .index t _ _=>some (42,t,0)
 | .fieldAddr t _ f=>some (43,t,f)
 | .field t _ f=>some (44,t,f)
 | .nilCheck _=>some (45,0,0)
 | .call c=>match c.callee with
   | .builtin .len=>some (4,nM c.argTypes.toList,o.type)
   | .builtin .cap=>some (5,nM c.argTypes.toList,o.type)
   | .builtin .min=>some (6,nM c.argTypes.toList,o.type)
   | .builtin .max=>some (7,nM c.argTypes.toList,o.type)
   | _=>none
 | _=>none
def M7 (a b:Nat×Nat×Nat):Bool:=match a,b with|(x,y,z),(u,v,w)=>Nat.beq x u&&Nat.beq y v&&Nat.beq z w
def nR (k:Nat×Nat×Nat) (args:List Value):List fE→Option Value
 | []=>none
 | r::l=>match M7 k r.key with
   | true=>match uy 30 args r.args with
     | true=>some r.res
     | false=>nR k args l
   | false=>nR k args l
def jG (E:Env) (ρ:Operand→Value) (o:Oper) (m:Mem):List Out :=
 match jl o with
 | none=>kC E ρ o m
 | some k=>match nR k (o.op.operands.toList.map ρ) E.rules with
   | some v=>[.val v]
   | none=>kC E ρ o m
inductive Ex where|normal|exit (id:Nat)|ret
def cst:Value→Value
 | .bool b => .bool b
 | .int k n => .int k n
 | .string s => .string s
 | .pointer none => .pointer none
 | .slice none a b => .slice none a b
 | .map none => .map none
 | .nilFunc => .nilFunc
 | .nilIface => .nilIface
 | .tuple vs=>match vs.toList with|[]=>und|_=>bad
 | .agg vs=>match nZ vs.toList with|true => .agg vs|false=>bad
 | _=>bad
def ku (t:T Value):Operand→Value
 | .tmp i=>match t.get i with|some v=>v|none=>und
 | .const v=>cst v
 | .global _=>bad
 | .func f => .func (.func f) #[] #[]
def put (N:Nat) (t:T Value) (d:Option Tmp) (v:Value):T Value :=
 match d with
 | none=>t
 | some i=>match Nat.blt i N with
   | true=>t.set i v
   | false=>t
def wanted (ops:Array Oper) (o:Oper) (t:T Value):Option Bool :=
 match o.guard with
 | none=>some true
 | some (j,want)=>match ops.toList[j]? with
   | some p=>match p.dst with
     | some d=>match t.get d with
       | some (.bool b)=>some (b==want)
       | some (.tuple _)=>some false
       | _=>none
     | none=>none
   | none=>none
def jy {α β:Type} (l:List α) (f:α→List β):List β :=
 match l with
 | []=>[]
 | [x]=>f x
 | x::y::l=>match f x with
   | []=>[]
   | a::as=>match jy (y::l) f with
     | []=>[]
     | b::bs=>(a::as)++(b::bs)
abbrev gM:=Tgt→List Value→Mem→List (Value×Mem)
def sj (E:Env) (call:gM) (N:Nat) (ops:Array Oper):List Oper→T Value→Mem→List (T Value×Mem)
 | [],t,m=>[(t,m)]
 | o::rest,t,m =>
   match wanted ops o t with
   | none=>[]
   | some false=>sj E call N ops rest (put N t o.dst und) m
   | some true=>jy (jG E (ku t) o m) fun
     | .val v=>sj E call N ops rest (put N t o.dst v) m
     | .new ob mk=>sj E call N ops rest (put N t o.dst (mk.val m.n)) ⟨m.n+1,m.t.set m.n ob⟩
     | .kM v m=>sj E call N ops rest (put N t o.dst v) m
     | .enter f args=>jy (call f args m) fun r=>sj E call N ops rest (put N t o.dst r.1) r.2
def mJ:Op→Bool
 | .move _ | .assign _ | .pick .. | .alloc _ | .box .. | .build .. | .buildSlice .. | .nilCheck _ | .binOp .. | .unOp .. | .makeInterface .. | .makeFunc .. | .makeMap .. | .makeSlice .. | .fieldAddr .. | .field .. | .indexAddr .. | .index .. | .extract .. | .typeAssert .. => true
 | .call c=>match c.callee with
   | .builtin .min | .builtin .max=>true
   | _=>false
 | _=>false
def oF (acc:List Nat):List Edge→Nat→Nat
 | [],s=>s
 | e::l,s=>oF acc l (match Region.binds .any e with|true=>s ||| 2 ^ e.on ||| acc.getD e.on 0|false=>s)
def masks:List Oper→List Nat→List Nat
 | [],acc=>acc
 | o::l,acc=>masks l (acc++[oF acc o.after.toList 0])
def looks (ops:Array Oper) (o:Oper):List Tmp :=
 (o.op.operands.toList.filterMap fun | .tmp t=>some t|_=>none) ++
 (match o.guard with
  | some (g,_)=>match ops.toList[g]? with
    | some p=>p.dst.toList
    | none=>[]
  | none=>[])
def Lr (x:Nat):List Nat→Bool
 | []=>false
 | y::l=>cond (Nat.beq x y) true (Lr x l)
def sw (ops:Array Oper) (x y:Oper):Bool :=
 (match x.dst with
  | some d=>Lr d (looks ops y)||(match y.dst with|some e=>Nat.beq d e|none=>false)
  | none=>false) ||
 (match y.dst with
  | some d=>Lr d (looks ops x)
  | none=>false)
def oU (ops:Array Oper) (B:List Nat) (o:Oper) (b:Nat):List Oper→Nat→Bool
 | [],_=>true
 | p::l,i=>match sw ops p o with
   | true=>cond (Nat.testBit b i) (oU ops B o b l (i+1)) false
   | false=>oU ops B o b l (i+1)
def CL (ops:Array Oper) (B:List Nat):List Oper→Nat→Bool
 | [],_=>true
 | o::l,j=>cond (oU ops B o (B.getD j 0) (ops.toList.take j) 0) (CL ops B l (j+1)) false
def yN:List Oper→Nat→Bool
 | [],_=>true
 | o::l,j=>cond (o.after.toList.all fun e => !Region.binds .any e||Nat.blt e.on j) (yN l (j+1)) false
inductive Cl where
 | skip
 | pure (v:Value)
 | read (v:Value)
 | alloc (o:fA) (mk:Mk)
 | kM (v:Value) (m:Mem)
structure DS where
 t:T Value
 chain:Mem
 eU:List (Nat×fA)
 kD:List (Nat×Mem)
 reads:List (Nat×Oper×T Value×Value)
 mask:Nat
def eZ (N0 b:Nat):List (Nat×fA)→T fA→T fA
 | [],t=>t
 | (j,ob)::l,t=>cond (Nat.testBit b j) ((eZ N0 b l t).set (N0+j) ob) (eZ N0 b l t)
def wU (N0:Nat):List (Nat×fA)→T fA→T fA
 | [],t=>t
 | (j,ob)::l,t=>(wU N0 l t).set (N0+j) ob
def jS (b:Nat):List (Nat×fA)→List (Nat×fA)
 | []=>[]
 | (j,ob)::l=>cond (Nat.testBit b j) (jS b l) ((j,ob)::jS b l)
def iX (E:Env) (o:Oper) (t:T Value) (v:Value) (m:Mem):Bool :=
 match jG E (ku t) o m with
 | [.val x]=>Vk 30 x v
 | _=>false
def lF (E:Env) (M0:Mem) (o:Oper) (t:T Value) (v:Value) (b:Nat):List (Nat×Mem)→Bool
 | []=>iX E o t v M0
 | (e,c)::l=>cond (iX E o t v c) (cond (Nat.testBit b e) true (lF E M0 o t v b l)) false
def oV (E:Env) (b:Nat) (m:Mem):List (Nat×Oper×T Value×Value)→Bool
 | []=>true
 | (j,o,t,v)::l=>cond (cond (Nat.testBit b j) true (iX E o t v m)) (oV E b m l) false
def vS (b:Nat):List (Nat×Mem)→Bool
 | []=>true
 | (e,_)::l=>cond (Nat.testBit b e) (vS b l) false
def jF (t:T fA) (i:Nat):Bool :=
 match t.get i with
 | some .dead=>true
 | none=>true
 | _=>false
def qw (N0 mask:Nat) (t:T fA):Nat→Bool
 | 0=>true
 | n+1=>cond (cond (Nat.testBit mask n) true (jF t (N0+n))) (qw N0 mask t n) false
def F3 (E:Env) (n N0:Nat) (S:DS) (b:Nat) (m:Mem):Bool :=
 cond (vS b S.kD) (cond (qw N0 (S.mask ||| b) m.t n) (oV E b m S.reads) false) false
def rJ (E:Env) (call:gM) (ops:Array Oper) (n N0:Nat) (M0:Mem) (S:DS) (o:Oper) (b:Nat):Option Cl :=
 match wanted ops o S.t with
 | none=>none
 | some false=>some .skip
 | some true=>match mJ o.op with
   | true=>match jG E (ku S.t) o M0 with
     | [.val v]=>some (.pure v)
     | [.new ob mk]=>some (.alloc ob mk)
     | _=>none
   | false=>match jG E (ku S.t) o ⟨S.chain.n,eZ N0 b S.eU S.chain.t⟩with
     | [.val v]=>match lF E M0 o S.t v b S.kD with
       | true=>some (.read v)
       | false=>none
     | [.kM v m]=>match F3 E n N0 S b m with
       | true=>some (.kM v m)
       | false=>none
     | [.enter f args]=>match call f args ⟨S.chain.n,eZ N0 b S.eU S.chain.t⟩with
       | [(v,m)]=>match F3 E n N0 S b m with
         | true=>some (.kM v m)
         | false=>none
       | _=>none
     | _=>none
def Cl.val (N0 i:Nat):Cl→Value
 | .skip=>und
 | .pure v=>v
 | .read v=>v
 | .alloc _ mk=>mk.val (N0+i)
 | .kM v _=>v
def oW (N N0:Nat) (S:DS) (i:Nat) (o:Oper) (b:Nat) (c:Cl):DS :=
 match c with
 | .skip=>{ S with t:=put N S.t o.dst und }
 | .pure v=>{ S with t:=put N S.t o.dst v }
 | .read v=>{ S with t:=put N S.t o.dst v,reads:=(i,o,S.t,v)::S.reads }
 | .alloc ob mk=>{ S with t:=put N S.t o.dst (mk.val (N0+i)),eU:=(i,ob)::S.eU }
 | .kM v m=>{ S with t:=put N S.t o.dst v,chain:=m,eU:=jS b S.eU,kD:=(i,m)::S.kD,mask:=S.mask ||| b }
def M3 (E:Env) (call:gM) (ops:Array Oper) (B:List Nat) (n N N0:Nat) (M0:Mem):List Oper→Nat→DS→Option DS
 | [],_,S=>some S
 | o::l,i,S=>match rJ E call ops n N0 M0 S o (B.getD i 0)with
   | none=>none
   | some c=>M3 E call ops B n N N0 M0 l (i+1) (oW N N0 S i o (B.getD i 0) c)
def DW (E:Env) (call:gM) (N:Nat) (ops:Array Oper) (t:T Value) (m:Mem):List (T Value×Mem) :=
 match yN ops.toList 0,CL ops (masks ops.toList []) ops.toList 0 with
 | true,true=>match M3 E call ops (masks ops.toList []) ops.toList.length N m.n ⟨m.n+ops.toList.length,m.t⟩ ops.toList 0 ⟨t,⟨m.n+ops.toList.length,m.t⟩,[],[],[],0⟩with
   | some S=>[(S.t,⟨S.chain.n,wU m.n S.eU S.chain.t⟩)]
   | none=>[]
 | _,_=>[]
def Af (round:T Value→Mem→List (Ex×T Value×Mem)):Nat→T Value→Mem→List (Ex×T Value×Mem)
 | 0,_,_=>[]
 | n+1,t,m=>jy (round t m) fun
   | (.normal,t,m)=>Af round n t m
   | r=>[r]
def both {α:Type} (l r:List α):List α :=
 match l,r with
 | x::l,y::r=>(x::l)++(y::r)
 | _,_=>[]
def CV (E:Env) (g:Value) (i:Nat):Option (FuncId×List Value) :=
 match g with
 | .func (.func f) first cap=>match E.funcs.get f with
   | some _=>some (f,first.toList++[uq i]++cap.toList)
   | none=>none
 | _=>none
def Yj (t:T Value) (i:Nat) (r:Value×Mem):List (Ex×T Value×Mem) :=
 match r.2.t.get i with
 | some (.loop _ _ _ _ _)=>[(.normal,t,⟨r.2.n,r.2.t.set i .dead⟩)]
 | _=>[]
def yL (E:Env) (call:gM) (N:Nat) (g:Operand) (ps:Array Tmp) (assign body:Code) (t:T Value) (m:Mem):List (Ex×T Value×Mem) :=
 match CV E (ku t g) m.n with
 | some (f,args)=>jy (call (.fn f) args ⟨m.n+1,m.t.set m.n (.loop t N ps assign body)⟩) (Yj t m.n)
 | none=>[]
def fP (E:Env) (call:gM) (rd:Bool) (N fuel:Nat):Code→T Value→Mem→List (Ex×T Value×Mem)
 | .skip,t,m=>[(.normal,t,m)]
 | .region _ ops d,t,m=>jy (cond d (DW E call N ops t m) (sj E call N ops ops.toList t m)) fun r=>[(.normal,r.1,r.2)]
 | .seq a b,t,m=>jy (fP E call rd N fuel a t m) fun
   | (.normal,t,m)=>fP E call rd N fuel b t m
   | r=>[r]
 | .cond c a b,t,m=>match ku t c with
   | .bool true=>fP E call rd N fuel a t m
   | .bool false=>fP E call rd N fuel b t m
   | .complex .f32 1 0=>both (fP E call rd N fuel a t m) (fP E call rd N fuel b t m)
   | .complex .f32 30 i=>match rY E.conds i with
     | some true=>fP E call rd N fuel a t m
     | some false=>fP E call rd N fuel b t m
     | none=>[]
   | _=>[]
 | .block id b,t,m=>jy (fP E call rd N fuel b t m) fun
   | (.exit id',t,m)=>[(cond (Nat.beq id id') .normal (.exit id'),t,m)]
   | r=>[r]
 | .loop b,t,m=>Af (fP E call rd N fuel b) fuel t m
 | .exit id,t,m=>[(.exit id,t,m)]
 | .ret,t,m=>[(.ret,t,m)]
 | .rangeFunc g ps assign body,t,m=>match rd with
   | false=>yL E call N g ps assign body t m
   | true=>[]
 | _,_,_=>[]
def iA (E:Env) (t:T Value) (m:Mem):List ResultVar→Option (List Value)
 | []=>some []
 | .tmp i::l=>match t.get i,iA E t m l with
   | some v,some r=>some (v::r)
   | _,_=>none
 | .cell a ty::l=>match t.get a with
   | some (.pointer (some a))=>match loadAt E ty a m,iA E t m l with
     | some v,some r=>some (v::r)
     | _,_=>none
   | _=>none
def oC:List Value→Value
 | [v]=>v
 | l => .tuple l.toArray
abbrev qM:=FuncId→List Value→Mem→Option (List (Value×Mem))
def EM (N:Nat) (t:T Value):List Tmp→List Value→T Value
 | p::ps,v::vs=>EM N (put N t (some p) v) ps vs
 | _,_=>t
def roundEnd (i:Nat) (o:fA) (x:Ex×T Value×Mem):List (Value×Mem) :=
 match x with
 | (.normal,_,m2)=>[(.bool true,⟨m2.n,m2.t.set i o⟩)]
 | _=>[]
def EP (ev:T Value→Mem→List (Ex×T Value×Mem)) (i:Nat) (x:Ex×T Value×Mem):List (Value×Mem) :=
 match x with
 | (.normal,t1,m1)=>match m1.t.get i with
   | some (.loop t N ps as body)=>jy (ev t1 ⟨m1.n,m1.t.set i .dead⟩) (roundEnd i (.loop t N ps as body))
   | _=>[]
 | _=>[]
def vH (E:Env) (call:gM) (fuel i:Nat) (args:List Value) (m:Mem):List (Value×Mem) :=
 match m.t.get i with
 | some (.loop t N ps assign body)=>match Nat.beq args.length ps.size with
   | true=>jy (fP E call true N fuel assign (EM N t ps.toList args) m) (EP (fP E call true N fuel body) i)
   | false=>[]
 | _=>[]
def LF (E:Env) (call:gM) (fuel:Nat) (f:FuncId) (args:List Value) (m:Mem):List (Value×Mem) :=
 match E.funcs.get f with
 | none=>[]
 | some fn=>match fn.body with
   | none=>[]
   | some c=>match Nat.ble args.length fn.ntmps with
     | false=>[]
     | true=>jy (fP E call false fn.ntmps fuel c (T.ofList args) m) fun
       | (.exit _,_,_)=>[]
       | (_,t,m)=>match iA E t m fn.results.toList with
         | some l=>[(oC l,m)]
         | none=>[]
def eB (E:Env) (S:qM) (fuel:Nat):Nat→gM
 | 0,_,_,_=>[]
 | d+1,.fn f,args,m=>match S f args m with
   | some l=>l
   | none=>LF E (eB E S fuel d) fuel f args m
 | d+1,.uq i,args,m=>vH E (eB E S fuel d) fuel i args m
