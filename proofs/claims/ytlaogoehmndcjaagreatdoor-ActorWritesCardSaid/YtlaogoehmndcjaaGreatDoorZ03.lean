import Derived.Test.YtlaogoehmndcjaaGreatDoorZ01
import Derived.Test.YtlaogoehmndcjaaGreatDoorZ02
import Derived.Laws.World
import Derived.Laws.Entries
import Derived.Laws.Tables
import Derived.Laws.Build
import Derived.Laws.StructEq
import Derived.Laws.Strings
import Derived.Laws.Small
import Derived.Laws.Slices
import Derived.Laws.Pointers
import Derived.LaidEql
set_option linter.unusedSectionVars false
set_option linter.unusedVariables false
set_option linter.unusedSimpArgs false
namespace Go.AS
open Go.RowKit
variable [bH]
variable {E:Env} {P:Program}
def BH.impl:BH→Array Value→Sem Value
 | .load k=>Extern.Atomic.loadT (.int k)
 | .store=>Extern.Atomic.storeT
 | .add k=>Extern.Atomic.update (Op.intArith .add) k true
 | .U3 k=>Extern.Atomic.casT (.int k)
 | .QY=>Extern.BytealgCompare.compare
 | .WH k=>fun _=>do mark k;pure Extern.Race.none_
 | .Fw k=>Extern.Race.marked k
structure Kept (own:Nat→Prop) (w0 w:World):Prop where
 os:w.os=w0.os
 tape:w.tape=w0.tape
 output:w.output=w0.output
 size:w0.heap.size≤w.heap.size
 block:∀b,b<w0.heap.size→¬own b→w.heap[b]? = w0.heap[b]?
omit [bH] in
theorem Kept.refl (own:Nat→Prop) (w:World):Kept own w w:=⟨rfl,rfl,rfl,Nat.le_refl _,fun _ _ _=>rfl⟩
omit [bH] in
theorem Kept.below {w0 w:World} (h:Kept (fun _=>False) w0 w):Below w0.heap.size w0 w:=⟨h.os,h.tape,h.output,h.size,fun b hb=>h.block b hb (fun h=>h)⟩
omit [bH] in
theorem Kept.of_below {own:Nat→Prop} {w0 w:World} (h:Below w0.heap.size w0 w):Kept own w0 w:=⟨h.os,h.tape,h.output,h.size,fun b hb _=>h.block b hb⟩
omit [bH] in
theorem Kept.trans {own:Nat→Prop} {a b c:World} (h:Kept own a b) (k:Kept own b c):Kept own a c:=⟨k.os.trans h.os,k.tape.trans h.tape,k.output.trans h.output,Nat.le_trans h.size k.size,fun x hx hn=>(k.block x (Nat.lt_of_lt_of_le hx h.size) hn).trans (h.block x hx hn)⟩
omit [bH] in
theorem Kept.grown {own:Nat→Prop} {a b c:World} (h:Kept own a b) (k:Below b.heap.size b c):Kept own a c:=h.trans (.of_below k)
omit [bH] in
theorem Kept.drew {own:Nat→Prop} {a b:World} (h:Kept own a b):Kept own a b.drew:=⟨h.os,h.tape,h.output,h.size,h.block⟩
omit [bH] in
theorem Kept.alloc {own:Nat→Prop} {a b:World} (h:Kept own a b) (ob:Obj):Kept own a (b.alloc ob):=h.grown ((Below.refl _ _).alloc (Nat.le_refl _) ob)
omit [bH] in
theorem Kept.one {own:Nat→Prop} {a b:World} {k:Nat} (hk:a.heap.size≤k∨own k) {c:World} (h:Kept own a b) (hos:c.os=b.os) (ht:c.tape=b.tape) (hout:c.output=b.output) (hsz:c.heap.size=b.heap.size) (hoth:∀j,j≠k→c.heap[j]? = b.heap[j]?):Kept own a c :=
 ⟨hos.trans h.os,ht.trans h.tape,hout.trans h.output,by rw[hsz];exact h.size,fun j hj hn=>(hoth j (fun e=>by subst e;rcases hk with hk|hk;omega;exact hn hk)).trans (h.block j hj hn)⟩
def Mine (E:Env) (w0:World) (b:Nat):Prop:=w0.heap.size≤b∨E.own b
structure jO (E:Env) (P:Program):Prop where
 prog:E.P=P
 types:∀t ti,E.types.get t=some ti→P.underlying t=some ti.desc∧∃i z,P.info? t=some i∧i.size=ti.size∧i.bytes=ti.bytes∧i.zero=some z∧z.cells.toList=ti.zero∧ti.zero.length=ti.size∧(∀v∈ti.zero,simple v=true)∧(yB ti.desc=false→ti.zero=[z])∧(yB ti.desc=true→z =.agg ti.zero.toArray)
 funcs:∀f fn,E.funcs.get f=some fn→P.funcs[f]? = some fn∧(fn.name == "runtime.NumGoroutine")=false∧∃c,fn.body=some c
 exts:∀f x,E.exts.get f=some x→∃fn,P.funcs[f]? = some fn∧(fn.name == "runtime.NumGoroutine")=false∧fn.body=none∧Extern.findNext fn=none∧Extern.find fn=some x.impl
 rules:∀r∈E.rules,∀o:Oper,jl o=some r.key→∀(σ:Sg) (ρ':Operand→Value),cZ σ r.args (o.op.operands.toList.map ρ')→∀w0 w,E.Tw w0→Kept E.own w0 w→∃v',(execOp ρ' o).run P w =.ok (.value v') w∧VR σ r.res v'
 conds:∀i b,rY E.conds i=some b→bH.D i =.bool b
def NF (fz:Nat×Nat) (n:Nat):Prop:=fz.1=fz.2∨n≤fz.1
theorem NF.zero (n:Nat):NF (0,0) n :=.inl rfl
theorem NF.not {fz:Nat×Nat} {n:Nat} (h:NF fz n):∀o,o<n→¬(fz.1≤o∧o<fz.2):=fun o ho=>by
 rcases h with h|h<;>omega
def OR (E:Env) (σ:Sg) (x:Inf):fA→Obj→Prop
 | .row cells n e,.cells C e' fz=>e'=e∧NF fz C.size∧x.sh+x.N=C.size∧n≤x.N∧(∃ti,E.types.get e=some ti∧x.s=ti.size)∧∀j,j<n→∃v v',cells.get j=some v∧C[x.sh+j]? = some v'∧VR σ v v'
 | .sit s p,.stringIter s' p'=>s'=s∧p'=p∧x.sh=0
 | .ND none _ _ _,.mapIter none _ _ _=>x.sh=0
 | .ND (some r) since seen last,.mapIter (some b) since' seen' last'=>(∃y,σ r=some y∧y.b=b)∧since'=since∧seen'.toList=seen∧last'=last∧x.sh=0
 | .loop t N ps as body,.loop L=>L.state =.ready∧L.pending=none∧L.params=ps∧L.assign=as∧L.body=body∧L.tmps.size=N∧∀i,VR σ (tv t i) (L.tmps.getD i undef)
 | .map es clock,.map es' clock'=>clock'=clock∧es.length=es'.size∧∀(i:Nat) (a b:MapEntry),es[i]? = some a→es'[i]? = some b→a.born=b.born∧VR σ a.key b.key∧VR σ a.val b.val
 | .dyn q,ob=>q x.v x.b ob
 | _,_=>False
structure MR (E:Env) (w0:World) (σ:Sg) (m:Mem) (w:World):Prop where
 below:Kept E.own w0 w
 t0:E.Tw w0
 obj:∀i o,m.t.get i=some o→o.live=true→∃x ob,σ i=some x∧Mine E w0 x.b∧w.heap[x.b]? = some ob∧OR E σ x o ob
 inj:∀i j o o' x y,m.t.get i=some o→o.live=true→m.t.get j=some o'→o'.live=true→σ i=some x→σ j=some y→x.b=y.b→i=j
 fresh:∀i,m.n≤i→σ i=none
def dY (σ:Sg) (m:Mem) (b:Nat):Prop:=∃i o x,m.t.get i=some o∧o.live=true∧σ i=some x∧x.b=b
structure FG (σ:Sg) (m:Mem) (w:World) (σ':Sg) (m':Mem) (w':World):Prop where
 ext:Ext σ σ'
 size:w.heap.size≤w'.heap.size
 frame:∀b,b<w.heap.size→¬dY σ m b→w'.heap[b]? = w.heap[b]?
 grow:∀b,dY σ' m' b→dY σ m b∨w.heap.size≤b
 n:m.n≤m'.n
 old:∀i,i<m.n→σ' i=σ i
theorem FG.refl (σ:Sg) (m:Mem) (w:World):FG σ m w σ m w:=⟨Ext.refl σ,Nat.le_refl _,fun _ _ _=>rfl,fun _ h => .inl h,Nat.le_refl _,fun _ _=>rfl⟩
theorem FG.trans {σ σ1 σ2:Sg} {m m1 m2:Mem} {w w1 w2:World} (h:FG σ m w σ1 m1 w1) (k:FG σ1 m1 w1 σ2 m2 w2):FG σ m w σ2 m2 w2 where
 ext:=h.ext.trans k.ext
 size:=Nat.le_trans h.size k.size
 frame:=fun b hb hl=>by
  have h1:=h.frame b hb hl
  rw[←h1]
  refine k.frame b (Nat.lt_of_lt_of_le hb h.size) (fun hl1 => ?_)
  rcases h.grow b hl1 with h2|h2
  ·exact hl h2
  ·omega
 grow:=fun b hl=>by
  rcases k.grow b hl with h1|h1
  ·exact h.grow b h1
  ·exact .inr (Nat.le_trans h.size h1)
 n:=Nat.le_trans h.n k.n
 old:=fun i hi=>(k.old i (Nat.lt_of_lt_of_le hi h.n)).trans (h.old i hi)
theorem OR.mono {σ σ':Sg} (he:Ext σ σ') {x:Inf} {o:fA} {ob:Obj} (h:OR E σ x o ob):OR E σ' x o ob:=by
 cases o with
 | row cells n e =>
   cases ob with
   | cells C e' fz =>
     obtain⟨h1,h2,h3,h4,h5,h6⟩:=h
     exact⟨h1,h2,h3,h4,h5,fun j hj=>let⟨v,v',a,b,c⟩:=h6 j hj; ⟨v,v',a,b,c.mono he⟩⟩
   | _=>exact h.elim
 | map es clock =>
   cases ob with
   | map es' clock' =>
     obtain⟨h1,h2,h3⟩:=h
     exact⟨h1,h2,fun i a b ha hb=>let⟨p,q,r⟩:=h3 i a b ha hb; ⟨p,q.mono he,r.mono he⟩⟩
   | _=>exact h.elim
 | sit s p=>cases ob<;>first|exact h|exact h.elim
 | ND r a b c =>
   cases r with
   | none=>cases ob with
     | mapIter r' _ _ _=>cases r'<;>first|exact h|exact h.elim
     | _=>exact h.elim
   | some r=>cases ob with
     | mapIter r' _ _ _ =>
       cases r' with
       | none=>exact h.elim
       | some b' =>
         obtain⟨⟨y,h1,h2⟩,h3⟩:=h
         exact⟨⟨y,he _ _ h1,h2⟩,h3⟩
     | _=>exact h.elim
 | loop t N ps as body =>
   cases ob with
   | loop L =>
     obtain⟨h1,h2,h3,h4,h5,h6,h7⟩:=h
     exact⟨h1,h2,h3,h4,h5,h6,fun i=>(h7 i).mono he⟩
   | _=>exact h.elim
 | dyn q=>cases ob<;>exact h
 | dead=>cases ob<;>exact h.elim
theorem MR.row {w0:World} {σ:Sg} {m:Mem} {w:World} (h:MR E w0 σ m w) {i:Nat} {cells:T Value} {n:Nat} {e:TypeId} (hr:m.t.get i=some (.row cells n e)) {x:Inf} (hx:σ i=some x) :
 ∃C fz,Mine E w0 x.b∧w.heap[x.b]? = some (.cells C e fz)∧NF fz C.size∧x.sh+x.N=C.size∧n≤x.N∧(∃ti,E.types.get e=some ti∧x.s=ti.size)∧∀j,j<n→∃v v',cells.get j=some v∧C[x.sh+j]? = some v'∧VR σ v v':=by
 obtain⟨y,ob,hy,hB,eu,hor⟩:=h.obj i _ hr rfl
 obtain rfl:y=x:=by rw[hx]at hy;exact(Option.some.inj hy).symm
 cases ob with
 | cells C e' fz =>
   obtain⟨rfl,hf,h3,h4,h5,h6⟩:=hor
   exact⟨C,fz,hB,eu,hf,h3,h4,h5,h6⟩
 | _=>exact hor.elim
theorem kE {w:World} {b o:Nat} {C:Array Value} {e:TypeId} {fz:Nat×Nat} (h:w.heap[b]? = some (.cells C e fz)):w.cell? ⟨b,o,none⟩=C[o]? := by
 simp[World.cell?,h]
theorem Aa {w:World} {b o:Nat} {C:Array Value} {e:TypeId} {fz:Nat×Nat} (h:w.heap[b]? = some (.cells C e fz)) (hf:NF fz C.size) (ho:o<C.size):w.frozen? ⟨b,o,none⟩=false:=by
 simp only[World.frozen?,h]
 have:=hf.not o ho
 rw[Bool.and_eq_false_iff]
 by_cases h1:fz.1≤o
 ·exact .inr (by simpa using fun h2=>this ⟨h1,h2⟩)
 ·exact .inl (by simpa using h1)
theorem addr_add (b o n:Nat):(⟨b,o,none⟩:Addr).add n=⟨b,o+n,none⟩:=Addr.add_lit b o n
theorem wm {w0:World} {σ:Sg} {m:Mem} {w:World} (h:MR E w0 σ m w) {i:Nat} {cells:T Value} {n:Nat} {e:TypeId} (hr:m.t.get i=some (.row cells n e)) {x:Inf} (hx:σ i=some x)
 {k o:Nat} (hk:o+k≤n) {l:List Value} (hl:cells.wG k o=some l) :
 ∃l',(loadCells ⟨x.b,x.sh+o,none⟩ k).run P w =.ok l'.toArray w∧cZ σ l l'∧l'.length=k:=by
 obtain⟨C,fz,hB,eu,hf,hN,hn,_,hc⟩:=h.row hr hx
 obtain⟨h1,h2⟩:=T.nQ hl
 have hlen:((C.toList.drop (x.sh+o)).take k).length=k:=by simp;omega
 refine⟨(C.toList.drop (x.sh+o)).take k,?_,?_,hlen⟩
 ·have:=run_loadCells_list (P:=P) (w:=w) ⟨x.b,x.sh+o,none⟩ ((C.toList.drop (x.sh+o)).take k) (fun j v hj=>by
   rw[addr_add,kE eu]
   rw[List.getElem?_take,List.getElem?_drop]at hj
   split at hj
   ·simpa using hj
   ·cases hj)
  rw[hlen]at this
  exact this
 ·refine cZ.kg (by rw[h1,hlen]) (fun j v v' hv hv' => ?_)
  have hj:j<k:=by
   have:=(List.getElem?_eq_some_iff.1 hv).1;omega
  obtain⟨u,u',hu,hu',hr⟩:=hc (o+j) (by omega)
  rw[h2 j hj,hv]at hu
  rw[List.getElem?_take,if_pos hj,List.getElem?_drop]at hv'
  have:C[x.sh+(o+j)]? = some v':=by rw[←hv',←Array.getElem?_toList];congr 1;omega
  rw[hu']at this
  cases hu;cases this
  exact hr
theorem qX {t:TypeId} {d:TypeDesc} (h:P.underlying t=some d) (w:World):(isAgg t).run P w =.ok (yB d) w:=by
 cases d<;>simp[isAgg,run_underlying h,yB]
theorem fV {t:TypeId} {i:TypeInfo} (h:P.info? t=some i) (w:World):(sizeOf t).run P w =.ok i.size w:=by
 simp[sizeOf,typeInfo,h]
theorem rP {t:TypeId} {i:TypeInfo} {z:Value} (h:P.info? t=some i) (hz:i.zero=some z) (w:World):(zeroValue t).run P w =.ok z w:=by
 simp[zeroValue,typeInfo,h,hz]
theorem vg (hE:jO E P) {w0:World} {σ:Sg} {m:Mem} {w:World} (h:MR E w0 σ m w) {t:TypeId} {a:Addr} {v p':Value} (hl:loadAt E t a m=some v)
 (hp:VR σ (.pointer (some a)) p'):∃v',(Instr.loadAt t p').run P w =.ok v' w∧VR σ v v':=by
 unfold loadAt at hl
 split at hl
 ·rename_i ti cells n e hti hrow
  obtain⟨hu,i,z,hi,hsz,_,_,_,_,_,_⟩:=hE.types t ti hti
  cases hp with
  | refl hs=>simp[simple]at hs
  | ptr hx =>
    rename_i i' o x
    split at hl
    ·rename_i hle
     have hle':=Nat.le_of_ble_eq_true hle
     split at hl
     ·rename_i hag
      split at hl
      ·rename_i l hgl
       cases hl
       obtain⟨l',hrun,hv,_⟩:=wm (P:=P) h hrow hx hle' hgl
       refine⟨.agg l'.toArray,?_,.wT (by simpa using hv)⟩
       simp[Instr.loadAt,Instr.sureAddr,loadVar,qX hu,hag,fV hi,hsz,hrun]
      ·cases hl
     ·rename_i hag
      split at hl
      ·rename_i hs1
       obtain⟨C,fz,hB,eu,hf,hN,hn,_,hc⟩:=h.row hrow hx
       obtain⟨u,u',hu1,hu2,hr⟩:=hc o (by simp only[hs1]at hle';omega)
       simp only at hl
       rw[hl]at hu1
       cases hu1
       refine⟨u',?_,hr⟩
       simp[Instr.loadAt,Instr.sureAddr,loadVar,qX hu,hag,kE eu,hu2]
      ·cases hl
    ·cases hl
 ·cases hl
theorem World.set_eq {w:World} {b:Nat} {C:Array Value} {e:TypeId} {fz:Nat×Nat} (h:w.heap[b]? = some (.cells C e fz)) (o:Nat) (v:Value) :
 (w.setCell ⟨b,o,none⟩ v).heap[b]? = some (.cells (C.setIfInBounds o v) e fz):=by
 simp[World.setCell,Array.getElem?_modify,h]
theorem pY {b:Nat} {e:TypeId} {fz:Nat×Nat}:∀(l:List Value) (k:Nat) (w:World) (C:Array Value) (o:Nat),w.heap[b]? = some (.cells C e fz)→NF fz C.size→o+k+l.length≤C.size→(∀v∈l,v.oneCell'=true) →
 ∃w' C',(storeCells ⟨b,o,none⟩ l k).run P w =.ok () w'∧w'.heap[b]? = some (.cells C' e fz)∧C'.size=C.size∧w'.heap.size=w.heap.size∧(∀i,i≠b→w'.heap[i]? = w.heap[i]?) ∧
  w'.os=w.os∧w'.tape=w.tape∧w'.output=w.output∧∀j,C'[j]? = if o+k≤j∧j<o+k+l.length then l[j-(o+k)]? else C[j]? := by
 intro l
 induction l with
 | nil=>intro k w C o h _ _ _;exact⟨w,C,rfl,h,rfl,rfl,fun _ _=>rfl,rfl,rfl,rfl,fun j=>by rw[if_neg (by simp)]⟩
 | cons v l ih =>
   intro k w C o h hf hb ho
   simp only[List.length_cons]at hb
   obtain⟨w',C',h1,h2,h3,h4,h5,h6,h7,h8,h9⟩:=ih (k+1) (w.setCell ⟨b,o+k,none⟩ v) (C.setIfInBounds (o+k) v) o (World.set_eq h _ _) (by simpa using hf) (by simp;omega) (fun u hu=>ho u (by simp[hu]))
   refine⟨w',C',?_,h2,by simpa using h3,by rw[h4];exact World.size_setCell ..,fun i hi => ?_,by rw[h6];rfl,by rw[h7];rfl,by rw[h8];rfl,fun j => ?_⟩
   ·have hc:w.cell? ⟨b,o+k,none⟩=some C[o+k]:=by rw[kE h];exact Array.getElem?_eq_getElem (by omega)
    simp only[storeCells]
    rw[Sem.run_bind,addr_add,run_store P w _ v .plain (ho v (by simp)),hc]
    simp only[Aa h hf (show o+k<C.size by omega)]
    simpa using h1
   ·rw[h5 i hi];exact Below.heap_setCell _ _ _ _ hi
   ·rw[h9 j]
    by_cases h10:o+(k+1)≤j∧j<o+(k+1)+l.length
    ·rw[if_pos h10,if_pos (by simp;omega)]
     rw[show j-(o+k)=(j-(o+(k+1)))+1 from by omega,List.getElem?_cons_succ]
    ·rw[if_neg h10,Array.getElem?_setIfInBounds]
     by_cases h11:o+k=j
     ·rw[if_pos h11,if_pos (by omega),if_pos (by simp;omega)]
      simp[h11]
     ·rw[if_neg h11,if_neg (by simp;omega)]
theorem Gt {l:List Value} (h:uk l=true):∀v∈l,one v=true:=by
 induction l with
 | nil=>intro v hv;cases hv
 | cons x l ih =>
   intro v hv
   simp only[uk]at h
   cases hx:one x with
   | false=>rw[hx]at h;cases h
   | true =>
     rw[hx]at h
     cases hv with
     | head=>exact hx
     | tail _ hm=>exact ih h v hm
theorem cZ.ones {σ:Sg} {l l':List Value} (h:cZ σ l l') (ho:uk l=true):∀v∈l',v.oneCell'=true:=by
 intro v hv
 obtain⟨i,hi,rfl⟩:=List.mem_iff_getElem.1 hv
 have hi':i<l.length:=by rw[h.1];exact hi
 have:=h.2 i hi'
 rw[oN hi',oN hi]at this
 exact this.one (Gt ho _ (List.getElem_mem hi'))
theorem dY.of {σ:Sg} {m:Mem} {i:Nat} {o:fA} {x:Inf} (h:m.t.get i=some o) (hl:o.live=true) (hx:σ i=some x):dY σ m x.b:=⟨i,o,x,h,hl,hx,rfl⟩
theorem MR.turn {w0:World} {σ:Sg} {m:Mem} {w w':World} (h:MR E w0 σ m w) {i:Nat} {o o':fA} {x:Inf} (hr:m.t.get i=some o) (hlo:o.live=true) (hx:σ i=some x) (_hlo':o'.live=true)
 (hsz:w'.heap.size=w.heap.size) (hoth:∀k,k≠x.b→w'.heap[k]? = w.heap[k]?) (hos:w'.os=w.os) (ht:w'.tape=w.tape) (hout:w'.output=w.output) {ob:Obj} (eu:w'.heap[x.b]? = some ob)
 (hor:OR E σ x o' ob):MR E w0 σ ⟨m.n,m.t.set i o'⟩ w'∧FG σ m w σ ⟨m.n,m.t.set i o'⟩ w':=by
 obtain⟨y,ob0,hy,hB,Xk,_⟩:=h.obj i o hr hlo
 obtain rfl:y=x:=by rw[hx]at hy;exact(Option.some.inj hy).symm
 have hlive:∀b,dY σ ⟨m.n,m.t.set i o'⟩ b→dY σ m b:=by
  rintro b ⟨j,p,z,hj,hp,hz,rfl⟩
  by_cases e:i=j
  ·subst e;exact⟨i,o,z,hr,hlo,hz,rfl⟩
  ·rw[T.bC _ _ e]at hj;exact⟨j,p,z,hj,hp,hz,rfl⟩
 refine⟨⟨?_,h.t0,?_,?_,h.fresh⟩,⟨Ext.refl σ,by omega,?_,fun b hb => .inl (hlive b hb),Nat.le_refl _,fun _ _=>rfl⟩⟩
 ·exact h.below.one hB hos ht hout hsz hoth
 ·intro j p hj hp
  by_cases e:i=j
  ·subst e
   rw[T.get_set_same]at hj
   cases hj
   exact⟨y,ob,hx,hB,eu,hor⟩
  ·rw[T.bC _ _ e]at hj
   obtain⟨z,oz,hz,XM,Mv,NY⟩:=h.obj j p hj hp
   refine⟨z,oz,hz,XM,?_,NY⟩
   rw[hoth z.b (fun e2=>e (h.inj i j o p y z hr hlo hj hp hx hz e2.symm))]
   exact Mv
 ·intro j k p q z z' hj hp hk hq hz hz' e
  have fix:∀{j p},(m.t.set i o').get j=some p→p.live=true→∃p',m.t.get j=some p'∧p'.live=true:=by
   intro j p hj hp
   by_cases e:i=j
   ·subst e;exact⟨o,hr,hlo⟩
   ·rw[T.bC _ _ e]at hj;exact⟨p,hj,hp⟩
  obtain⟨p',h1,h2⟩:=fix hj hp
  obtain⟨q',h3,h4⟩:=fix hk hq
  exact h.inj j k p' q' z z' h1 h2 h3 h4 hz hz' e
 ·intro b hb hl
  refine hoth b (fun e=>hl ?_)
  subst e
  exact dY.of hr hlo hx
theorem kW {w0:World} {σ:Sg} {m m':Mem} {w:World} (h:MR E w0 σ m w) {a:Addr} {l l':List Value} (hs:mW a l m=some m') {p':Value} (hp:VR σ (.pointer (some a)) p') (hl:cZ σ l l') :
 ∃a' w',p' =.pointer (some a')∧a'.spot=none∧(storeCells a' l').run P w =.ok () w'∧MR E w0 σ m' w'∧FG σ m w σ m' w':=by
 unfold mW at hs
 split at hs
 ·rename_i cells n e hrow
  split at hs
  ·rename_i hle hone
   cases hs
   have hle':=Nat.le_of_ble_eq_true hle
   cases hp with
   | refl hs=>simp[simple]at hs
   | ptr hx =>
     rename_i i o x
     simp only at hrow hle'
     obtain⟨C,fz,hB,eu,hf,hN,hn,hti,hc⟩:=h.row hrow hx
     obtain⟨w',C',h1,h2,h3,h4,h5,h6,h7,h8,h9⟩:=pY (P:=P) l' 0 w C (x.sh+o) eu hf (by rw[←hl.1];omega) (hl.ones hone)
     refine⟨_,w',rfl,rfl,h1,?_⟩
     refine h.turn hrow rfl hx rfl h4 h5 h6 h7 h8 h2 ⟨rfl,by rw[h3];exact hf,by rw[hN,h3],hn,hti,fun j hj => ?_⟩
     rw[T.FT,h9 (x.sh+j)]
     by_cases h10:o≤j∧j<o+l.length
     ·rw[if_pos h10,if_pos (by rw[←hl.1];omega)]
      have hj1:j-o<l.length:=by omega
      obtain⟨v',hv',hr⟩:=hl.getElem? (List.getElem?_eq_getElem hj1)
      refine⟨_,v',List.getElem?_eq_getElem hj1,?_,hr⟩
      rw[show x.sh+j-(x.sh+o+0)=j-o from by omega];exact hv'
     ·rw[if_neg h10,if_neg (by rw[←hl.1];omega)]
      exact hc j hj
  ·cases hs
 ·cases hs
theorem heap_alloc_last (w:World) (o:Obj):(w.alloc o).heap[w.heap.size]? = some o:=by
 show(w.heap.push o)[w.heap.size]? = some o
 exact Array.getElem?_push_size
theorem MR.new {w0:World} {σ:Sg} {m:Mem} {w:World} (h:MR E w0 σ m w) {id:Nat} (hid:σ id=none) {n':Nat} (hn:m.n≤n') (Z8:id<n') {o:fA} {ob:Obj} {x:Inf} (hx:x.b=w.heap.size)
 (hor:OR E σ x o ob):MR E w0 (fun j=>if j=id then some x else σ j) ⟨n',m.t.set id o⟩ (w.alloc ob)∧(m.n≤id→FG σ m w (fun j=>if j=id then some x else σ j) ⟨n',m.t.set id o⟩ (w.alloc ob)):=by
 have zV:Ext σ (fun j=>if j=id then some x else σ j):=fun i y hy=>by
  have:i≠id:=fun e=>by rw[e,hid]at hy;cases hy
  simp[this,hy]
 have hlive:∀b,dY (fun j=>if j=id then some x else σ j) ⟨n',m.t.set id o⟩ b→dY σ m b∨w.heap.size≤b:=by
  rintro b ⟨j,p,z,hj,hp,hz,rfl⟩
  by_cases e:id=j
  ·subst e;simp at hz;subst hz;exact .inr (by omega)
  ·rw[T.bC _ _ e]at hj
   have e':j≠id:=fun h=>e h.symm
   simp only[e',if_false]at hz
   exact .inl ⟨j,p,z,hj,hp,hz,rfl⟩
 have hB:w0.heap.size≤w.heap.size:=h.below.size
 refine⟨⟨h.below.alloc ob,h.t0,?_,?_,?_⟩,fun acU=>⟨zV,by simp,?_,hlive,hn,fun i hi=>if_neg (by omega)⟩⟩
 ·intro j p hj hp
  by_cases e:id=j
  ·subst e
   rw[T.get_set_same]at hj
   cases hj
   exact⟨x,ob,by simp,.inl (by omega),by rw[hx];exact heap_alloc_last w ob,hor.mono zV⟩
  ·rw[T.bC _ _ e]at hj
   obtain⟨z,oz,hz,XM,Mv,NY⟩:=h.obj j p hj hp
   refine⟨z,oz,zV _ _ hz,XM,?_,NY.mono zV⟩
   have hlt:z.b<w.heap.size:=by
    rcases Nat.lt_or_ge z.b w.heap.size with h1|h1
    ·exact h1
    ·rw[Array.getElem?_eq_none h1]at Mv;cases Mv
   rw[Below.heap_alloc w ob z.b hlt];exact Mv
 ·have hb:∀{j p z},m.t.get j=some p→p.live=true→σ j=some z→z.b<w.heap.size:=by
   intro j p z hj hp hz
   obtain⟨z',oz,hz',_,Mv,_⟩:=h.obj j p hj hp
   obtain rfl:z'=z:=by rw[hz]at hz';exact(Option.some.inj hz').symm
   rcases Nat.lt_or_ge z'.b w.heap.size with h1|h1
   ·exact h1
   ·rw[Array.getElem?_eq_none h1]at Mv;cases Mv
  intro j k p q z z' hj hp hk hq hz hz' e
  by_cases e1:id=j<;>by_cases e2:id=k
  ·omega
  ·subst e1
   rw[T.bC _ _ e2]at hk
   have e2':k≠id:=fun h=>e2 h.symm
   simp only[e2',if_false,if_true]at hz hz'
   have:=hb hk hq hz'
   simp at hz;subst hz;omega
  ·subst e2
   rw[T.bC _ _ e1]at hj
   have Un:j≠id:=fun h=>e1 h.symm
   simp only[Un,if_false,if_true]at hz hz'
   have:=hb hj hp hz
   simp at hz';subst hz';omega
  ·rw[T.bC _ _ e1]at hj
   rw[T.bC _ _ e2]at hk
   have Un:j≠id:=fun h=>e1 h.symm
   have e2':k≠id:=fun h=>e2 h.symm
   simp only[Un,e2',if_false]at hz hz'
   exact h.inj j k p q z z' hj hp hk hq hz hz' e
 ·intro i hi
  have h1:i≠id:=by have:n'≤i:=hi;omega
  simp only[h1,if_false]
  exact h.fresh i (Nat.le_trans hn hi)
 ·intro b hb _
  exact Below.heap_alloc w ob b hb
theorem MR.drop {w0:World} {σ:Sg} {m:Mem} {w:World} (h:MR E w0 σ m w) (i:Nat):MR E w0 σ ⟨m.n,m.t.set i .dead⟩ w:=by
 have key:∀{j p},(m.t.set i .dead).get j=some p→p.live=true→m.t.get j=some p:=by
  intro j p hj hp
  by_cases e:i=j
  ·subst e;rw[T.get_set_same]at hj;cases hj;cases hp
  ·rwa [T.bC _ _ e]at hj
 exact⟨h.below,h.t0,fun j p hj hp=>h.obj j p (key hj hp) hp,fun j k p q z z' hj hp hk hq=>h.inj j k p q z z' (key hj hp) hp (key hk hq) hq,h.fresh⟩
theorem MR.drew {w0:World} {σ:Sg} {m:Mem} {w:World} (h:MR E w0 σ m w):MR E w0 σ m w.drew:=⟨h.below.drew,h.t0,h.obj,h.inj,h.fresh⟩
theorem OR.newRow {σ:Sg} {w:World} {e:TypeId} {ti:TI} (hti:E.types.get e=some ti) {l l':List Value} (hl:cZ σ l l') :
 OR E σ ⟨w.heap.size,0,l.length,ti.size,.nilFunc⟩ (newRow e l) (.cells l'.toArray e) :=
 ⟨rfl,NF.zero _,by simp[hl.1],Nat.le_refl _,⟨ti,hti,rfl⟩,fun j hj=>by
   obtain⟨v',h1,h2⟩:=hl.getElem? (List.getElem?_eq_getElem hj)
   exact⟨_,v',by rw[T.gG];exact List.getElem?_eq_getElem hj,by simpa using h1,h2⟩⟩
theorem cZ.simple {σ:Sg} {l:List Value} (h:∀v∈l,AS.simple v=true):cZ σ l l :=
 ⟨rfl,fun i hi=>by rw[oN hi];exact .refl (h _ (List.getElem_mem hi))⟩
end Go.AS
namespace Go.AS
open Go.RowKit
variable [bH]
variable {E:Env} {P:Program} {w0:World} {σ:Sg} {m:Mem} {w:World}
def jX:Next→Option Value
 | .value v=>some v
 | .skip=>some und
 | _=>none
def gB (E:Env) (P:Program) (w0:World) (σ:Sg) (m:Mem) (w:World) (s:Sem Next):Out→Prop
 | .val v=>∃nx v',s.run P w =.ok nx w∧jX nx=some v'∧VR σ v v'
 | .new o mk=>∃v' ob x,s.run P w =.ok (.value v') (w.alloc ob)∧x.b=w.heap.size∧o.live=true∧OR E σ x o ob∧∀(σ':Sg) id,σ' id=some x→VR σ' (mk.val id) v'
 | .kM v m'=>∃nx v' w' σ',s.run P w =.ok nx w'∧jX nx=some v'∧VR σ' v v'∧MR E w0 σ' m' w'∧FG σ m w σ' m' w'
 | .enter (.fn f) args=>∃args',s.run P w =.ok (.enter f args') w∧cZ σ args args'.toList
 | .enter (.uq i) args=>∃args' x,σ i=some x∧s.run P w=(Instr.yield x.b args').run P w∧cZ σ args args'.toList
theorem bT {s:Sem Next} {s0:Sem Value} {v v':Value} (hs:s=(do pure (.value (←s0)))) (hr:s0.run P w =.ok v' w) (h:VR σ v v'):gB E P w0 σ m w s (.val v) :=
 ⟨.value v',v',by rw[hs];simp[hr],rfl,h⟩
theorem iF {s:Sem Next} {s0:Sem Value} {v v':Value} {w':World} {σ':Sg} {m':Mem} (hs:s=(do pure (.value (←s0)))) (hr:s0.run P w =.ok v' w') (h:VR σ' v v') (hm:MR E w0 σ' m' w') (hf:FG σ m w σ' m' w') :
 gB E P w0 σ m w s (.kM v m'):=⟨.value v',v',w',σ',by rw[hs];simp[hr],rfl,h,hm,hf⟩
theorem JK {s:Sem Next} {s0:Sem Value} {v':Value} {o:fA} {mk:Mk} {ob:Obj} {x:Inf} (hs:s=(do pure (.value (←s0)))) (hr:s0.run P w =.ok v' (w.alloc ob)) (hx:x.b=w.heap.size) (hl:o.live=true) (ho:OR E σ x o ob)
 (h:∀(σ':Sg) id,σ' id=some x→VR σ' (mk.val id) v'):gB E P w0 σ m w s (.new o mk):=⟨v',ob,x,by rw[hs];simp[hr],hx,hl,ho,h⟩
theorem jm {j k:IntKind} (h:sameKind j k=true):j=k:=by cases j<;>cases k<;>first|rfl|cases h
theorem zN (k:IntKind):kind? (Kg k)=k:=by cases k<;>rfl
theorem DF {op:BinOp} {k:IntKind} {a b:Int} {v:Value} (hs:Ki op=false) (h:zQ op k a b=some v) (t:TypeId) (w:World):(binOp op t (.int k a) (.int k b)).run P w =.ok v w∧simple v=true:=by
 cases op<;>simp only[zQ,Option.some.injEq]at h<;>first
  | (cases hs;done)
  | (cases h;done)
  | (subst h;exact⟨by simp[binOp,Op.intArith,Op.intBits,Op.intCmp],rfl⟩)
  | (split at h
     ·cases h
     ·rename_i hb;cases h;exact⟨by simp[binOp,Op.intDiv,hb],rfl⟩)
theorem EL {op:BinOp} {k j:IntKind} {a b:Int} {v:Value} (h:shift op k a b=some v) (t:TypeId) (w:World):(binOp op t (.int k a) (.int j b)).run P w =.ok v w∧simple v=true:=by
 cases op<;>simp only[shift]at h<;>first
  | (cases h;done)
  | (split at h
     ·cases h
     ·rename_i hb;cases h;exact⟨by simp[binOp,Op.shift,hb],rfl⟩)
theorem oD (s:ByteArray):s.toList=s.data.toList:=ByteArray.toList_eq s
theorem EF {op:BinOp} {a b:ByteArray} {v:Value} (h:MO op a.data.toList b.data.toList=some v) (t:TypeId) (w:World):(binOp op t (.string a) (.string b)).run P w =.ok v w∧simple v=true:=by
 have e:∀{op},binOp op t (.string a) (.string b)=Op.stringOp op a b:=by intro op;cases op<;>rfl
 rw[e]
 cases op<;>simp only[MO,Option.some.injEq]at h<;>first
  | (cases h;done)
  | (subst h;exact⟨by simp[Op.stringOp,oD],rfl⟩)
  | skip
 split at h
 ·rename_i hle
  have:=Nat.le_of_ble_eq_true hle
  cases h
  refine⟨?_,rfl⟩
  have hsz:¬((a.size+b.size:Nat):Int)>IntKind.i64.max:=by
   have h1:a.size=a.data.toList.length:=by cases a;rfl
   have h2:b.size=b.data.toList.length:=by cases b;rfl
   rw[h1,h2,IntKind.max_i64];omega
  have happ:a++b=⟨(a.data.toList++b.data.toList).toArray⟩:=by
   apply ByteArray.ext
   rw[ByteArray.data_append]
   simp
  simp only[Op.stringOp,hsz,if_false,Sem.run_pure,happ]
 ·cases h
theorem j6 (hE:jO E P) {t:TypeId} {c c':Array Value} {off:Nat} {v:Value} (h:zu E t c off=some v) (hc:cZ σ c.toList c'.toList) (w:World):∃v',(part t c' off).run P w =.ok v' w∧VR σ v v':=by
 unfold zu at h
 split at h
 ·rename_i ti hti
  obtain⟨hu,i,z,hi,hsz,_⟩:=hE.types t ti hti
  split at h
  ·rename_i hag
   cases h
   refine⟨.agg (c'.extract off (off+ti.size)),by simp[part,qX hu,hag,fV hi,hsz],.wT ?_⟩
   have hlen:=hc.1
   refine cZ.kg (by simp at hlen ⊢;omega) (fun i v v' hv hv' => ?_)
   simp only[Array.toList_extract,List.extract_eq_take_drop,List.getElem?_take,List.getElem?_drop]at hv hv'
   split at hv
   ·rename_i hlt
    rw[if_pos hlt]at hv'
    obtain⟨u,hu1,hu2⟩:=hc.getElem? hv
    rw[hv']at hu1;cases hu1
    exact hu2
   ·cases hv
  ·rename_i hag
   have hv:c.toList[off]? = some v:=by simpa using h
   obtain⟨u,hu1,hu2⟩:=hc.getElem? hv
   have hu3:c'[off]? = some u:=by simpa using hu1
   exact⟨u,by simp[part,qX hu,hag,hu3],hu2⟩
 ·cases h
theorem VR.kZ {c:Array Value} {v:Value} (h:VR σ (.agg c) v):∃c',v =.agg c'∧cZ σ c.toList c'.toList:=by
 cases h with
 | refl h=>simp[AS.simple]at h
 | agg hc hc'=>exact⟨_,rfl,VR.arr hc hc'⟩
theorem VR.vW {c:Array Value} {v:Value} (h:VR σ (.tuple c) v):∃c',v =.tuple c'∧cZ σ c.toList c'.toList:=by
 cases h with
 | refl h=>simp[AS.simple]at h
 | tuple hc hc'=>exact⟨_,rfl,VR.arr hc hc'⟩
theorem VR.jo {t:TypeId} {u v:Value} (h:VR σ (.iface t u) v):∃u',v =.iface t u'∧VR σ u u':=by
 cases h with
 | refl h=>simp[AS.simple]at h
 | iface h=>exact⟨_,rfl,h⟩
theorem VR.aB {u v:Value} (hs:AS.simple u=true) (h:VR σ u v):v=u:=by
 cases h<;>first|rfl|(simp[AS.simple,bad,AS.lG,AS.nC,AS.sI,AS.iY,AS.pR,AS.uq]at hs;done)
theorem VR.Js {i:Nat} {v:Value} (h:VR σ (.complex .f32 7 i) v):∃x,σ i=some x∧v =.func (.yield x.b) #[] #[]:=by
 cases h with
 | refl h=>simp[AS.simple]at h
 | uq h=>exact⟨_,h,rfl⟩
theorem VR.kr {fn:Fn} {f c:Array Value} {v:Value} (h:VR σ (.func fn f c) v):∃f' c',v =.func fn f' c'∧cZ σ f.toList f'.toList∧cZ σ c.toList c'.toList:=by
 cases h with
 | refl h=>simp[AS.simple]at h
 | func hf hf' hc hc'=>exact⟨_,_,rfl,VR.arr hf hf',VR.arr hc hc'⟩
theorem jr (hE:jO E P):∀(d:Nat) (t:TypeId) (x y x' y':Value) (b:Bool),Um E d t x y=some b→VR σ x x'→VR σ y y'→∀(k:Nat),d≤k→∀w:World,(Op.equalIn k t x' y').run P w =.ok b w:=by
 intro d
 induction d with
 | zero=>intro t x y x' y' b h;cases h
 | succ d ih =>
   intro t x y x' y' b h hx hy k hk w
   obtain⟨k,rfl⟩:∃j,k=j+1:=⟨k-1,by omega⟩
   simp only[Um]at h
   split at h
   ·cases h
   ·rename_i ti hti
    obtain⟨hu,_⟩:=hE.types t ti hti
    split at h
    ·rename_i hd;cases h
     obtain rfl:=hx.aB rfl;obtain rfl:=hy.aB rfl
     simp[Op.equalIn,run_underlying hu,hd]
    ·rename_i hd
     split at h
     ·rename_i hk2;cases h
      obtain rfl:=hx.aB rfl;obtain rfl:=hy.aB rfl
      obtain rfl:=jm hk2
      simp[Op.equalIn,run_underlying hu,hd]
     ·cases h
    ·rename_i hd;cases h
     obtain rfl:=hx.aB rfl;obtain rfl:=hy.aB rfl
     simp[Op.equalIn,run_underlying hu,hd,beq_toListBytes,oD]
    ·rename_i hd;cases h
     obtain rfl:=hx.aB rfl
     cases hy<;>first|(simp[Op.equalIn,run_underlying hu,hd];done)|skip
     all_goals simp[Op.equalIn,run_underlying hu,hd]
    ·rename_i hd;cases h
     obtain rfl:=hy.aB rfl
     cases hx with
     | refl hs=>simp[AS.simple]at hs
     | slice _ _ _=>simp[Op.equalIn,run_underlying hu,hd]
    ·rename_i hd;cases h
     obtain rfl:=hx.aB rfl
     cases hy<;>simp[Op.equalIn,run_underlying hu,hd]
    ·rename_i hd;cases h
     obtain rfl:=hy.aB rfl
     cases hx with
     | refl hs=>simp[AS.simple]at hs
     | map _=>simp[Op.equalIn,run_underlying hu,hd]
    ·rename_i hd;cases h
     obtain rfl:=hx.aB rfl;obtain rfl:=hy.aB rfl
     simp[Op.equalIn,run_underlying hu,hd]
    ·rename_i hd;cases h
     obtain rfl:=hx.aB rfl
     obtain⟨_,_,rfl,_,_⟩:=hy.kr
     simp[Op.equalIn,run_underlying hu,hd]
    ·rename_i hd;cases h
     obtain rfl:=hy.aB rfl
     obtain⟨_,_,rfl,_,_⟩:=hx.kr
     simp[Op.equalIn,run_underlying hu,hd]
    ·rename_i hd;cases h
     obtain rfl:=hx.aB rfl
     cases hy<;>simp[Op.equalIn,run_underlying hu,hd]
    ·rename_i hd;cases h
     obtain rfl:=hy.aB rfl
     cases hx with
     | refl hs=>simp[AS.simple]at hs
     | ptr _=>simp[Op.equalIn,run_underlying hu,hd]
    ·rename_i hd;cases h
     obtain rfl:=hx.aB rfl
     obtain⟨_,rfl,_⟩:=hy.jo
     simp[Op.equalIn,run_underlying hu,hd]
    ·rename_i hd;cases h
     obtain rfl:=hy.aB rfl
     obtain⟨_,rfl,_⟩:=hx.jo
     simp[Op.equalIn,run_underlying hu,hd]
    ·rename_i hd;cases h
     obtain rfl:=hx.aB rfl;obtain rfl:=hy.aB rfl
     simp[Op.equalIn,run_underlying hu,hd]
    ·rename_i fs xs ys hd
     split at h
     ·cases h
     ·rename_i hst
      obtain⟨xs',rfl,hxs⟩:=hx.kZ
      obtain⟨ys',rfl,hys⟩:=hy.kZ
      rw[hE.prog]at hst
      have hfs:P.fieldsOf t=fs:=by simp[Program.fieldsOf,hu,hd]
      rw[run_equalIn_struct w k t xs' ys' (by rw[hfs,hu,hd]) hst,hfs]
      generalize fs.toList=l at h
      clear hfs hd
      induction l with
      | nil=>cases h;rfl
      | cons f l ihl =>
        simp only[List.foldr_cons]at h
        simp only[Op.eqFields]
        split at h
        ·rename_i hn
         rw[if_neg (by simpa using hn)]
         exact ihl h
        ·rename_i hn
         rw[if_pos (by simpa using hn)]
         split at h
         ·rename_i a b' ha hb
          obtain⟨a',ha1,ha2⟩:=j6 hE ha hxs w
          obtain⟨b'',hb1,hb2⟩:=j6 hE hb hys w
          simp only[Sem.run_bind,ha1,hb1,Result.andThen_ok]
          split at h
          ·rename_i he
           rw[ih _ _ _ _ _ _ he ha2 hb2 k (by omega) w]
           simpa using ihl h
          ·rename_i he
           rw[ih _ _ _ _ _ _ he ha2 hb2 k (by omega) w]
           cases h
           simp
          ·cases h
         ·cases h
    ·cases h
end Go.AS
