import Derived.Test.YtlaogoehmndcjaaGreatDoorZ16
set_option linter.unusedSectionVars false
set_option linter.unusedVariables false
set_option linter.unusedSimpArgs false
namespace Go.AS
open Go.RowKit
noncomputable section
def dx (D V:Nat→Value) (i:Nat):Value:=match Nat.blt i 1000 with
 | true=>D i
 | false=>V (i-1000)
def lI:Nat→Value→Bool
 | 0,_=>false
 | n+1,v=>match v with
   | .complex .f32 30 i=>Nat.blt i 1000
   | .complex .f32 31 _=>true
   | .pointer (some ⟨_,_,none⟩)=>true
   | .func _ f c=>f.toList.all (lI n)&&c.toList.all (lI n)
   | .agg c=>c.toList.all (lI n)
   | .tuple c=>c.toList.all (lI n)
   | .iface _ v=>lI n v
   | v=>simple v
def qO (σ:Sg) (i:Nat):Value:=match σ i with|some x=>x.v|none => .nilFunc
section
variable [bH]
theorem RL {D V:Nat→Value} {i:Nat} (h:Nat.blt i 1000=true):dx D V i=D i:=by unfold dx;rw[h]
theorem Yk {D V:Nat→Value} (i:Nat):dx D V (i+1000)=V i:=by
 unfold dx
 have h:Nat.blt (i+1000) 1000=false:=by
  rcases hb:Nat.blt (i+1000) 1000 with _|_
  ·rfl
  ·rw[Nat.blt_eq]at hb;omega
 rw[h]
 show V (i+1000-1000)=V i
 rw[Nat.add_sub_cancel]
theorem vQ {σ:Sg} {n:Nat} {D':Nat→Value} (ih:∀v v',VR σ v v'→lI n v=true→v'=img D' (fB σ) n v) {c c':Array Value} (hc:c.size=c'.size) (hc':∀i,i<c.size→VR σ (c.getD i und) (c'.getD i und)) (ho:c.toList.all (lI n)=true):c'=mapA (img D' (fB σ) n) c:=by
 rw[Dv]
 apply Array.ext
 ·simp[hc]
 ·intro i h1 h2
  have hi:i<c.size:=by rw[hc];exact h1
  have:=hc' i hi
  simp only[Array.getD,hi,h1,dif_pos]at this
  have hm:=List.all_eq_true.1 ho c[i] (by simp)
  rw[Array.getElem_map]
  exact ih _ _ this hm
theorem Kl:∀(n:Nat) {σ:Sg} (v v':Value),VR σ v v'→lI n v=true→v'=img (dx bH.D (qO σ)) (fB σ) n v:=by
 intro n
 induction n with
 | zero=>intro σ v v' _ h;cases h
 | succ n ih =>
   intro σ v v' h ho
   cases h with
   | sym h=>simp only[lI]at ho;simp only[img];rw[RL ho]
   | dyn h hh=>simp only[img];rw[Yk];simp only[qO,h]
   | EI h hn=>simp[lI,simple]at ho
   | any v'=>simp[lI,simple,bad]at ho
   | lG b=>simp[lI,simple,AS.lG]at ho
   | nC k m=>simp[lI,simple,AS.nC]at ho
   | sI a m c=>simp[lI,simple,AS.sI]at ho
   | iY s=>simp[lI,simple,AS.iY]at ho
   | pR a c=>simp[lI,simple,AS.pR]at ho
   | uq h=>simp[lI,simple,AS.uq]at ho
   | refl hs=>cases v<;>first
      | rfl
      | (simp[simple]at hs;done)
      | (rename_i a;cases a with
         | none=>rfl
         | some a=>simp[simple]at hs)
      | (rename_i a _ _;cases a with
         | none=>rfl
         | some a=>simp[simple]at hs)
   | ptr h=>simp only[img,fB,h]
   | slice h _ _=>simp[lI,simple]at ho
   | map h=>simp[lI,simple]at ho
   | func hf hf' hc hc' =>
     simp only[lI,Bool.and_eq_true]at ho
     simp only[img]
     rw[vQ (fun v v'=>ih v v') hf hf' ho.1,vQ (fun v v'=>ih v v') hc hc' ho.2]
   | agg hc hc' =>
     simp only[lI]at ho
     simp only[img]
     rw[vQ (fun v v'=>ih v v') hc hc' ho]
   | tuple hc hc' =>
     simp only[lI]at ho
     simp only[img]
     rw[vQ (fun v v'=>ih v v') hc hc' ho]
   | iface h =>
     simp only[lI]at ho
     simp only[img]
     rw[ih _ _ h ho]
structure Fr where
 f:FuncId
 args:List Value
 obj:fA
 res:Nat→Value
def jf:List Fr→qM→qM
 | [],S,f,args,m=>S f args m
 | r::l,S,f,args,m=>match Nat.beq r.f f with
   | true=>match uy 30 args r.args with
     | true=>some [(r.res m.n,⟨m.n+1,m.t.set m.n r.obj⟩)]
     | false=>jf l S f args m
   | false=>jf l S f args m
def Jr (E:Env) (P:Program) (Tw:World→Prop) (r:Fr):Prop:=r.obj.live=true∧∀(σ:Sg) (args':Array Value),cZ σ r.args args'.toList→∀w,Tw w→Calls P r.f args' w fun e w' =>
 ∃v' x ob,e =.returned v'∧Below w.heap.size w w'∧w.heap.size≤x.b∧w'.heap[x.b]? = some ob∧(∀σ',OR E σ' x r.obj ob)∧∀σ' i,σ' i=some x→VR σ' (r.res i) v'
theorem rq {E:Env} {P:Program} {Tw:World→Prop} {w0:World} {l:List Fr} {S:qM} (hT:∀σ m w,MR E w0 σ m w→Tw w) (h:∀r∈l,Jr E P Tw r) (hS:KO E P w0 S):KO E P w0 (jf l S):=by
 induction l with
 | nil=>exact hS
 | cons p l ih =>
   intro f args m r hs hne σ w args' hv hM
   have ih':=ih (fun q hq=>h q (List.mem_cons_of_mem _ hq)) f args m r
   unfold jf at hs
   split at hs
   ·rename_i hg
    split at hs
    ·rename_i ha
     cases hs
     have hg':=Nat.eq_of_beq_eq_true hg
     have ha':=(lu 30).2 _ _ ha
     subst hg' ha'
     refine((h _ (List.mem_cons_self ..)).2 σ args' hv w (hT σ m w hM)).mono ?_
     rintro e w' ⟨v',x,ob,rfl,hb,hxb,eu,hor,yH⟩
     obtain⟨hM',hF⟩:=hM.grown hb
     have hnl:¬dY σ m x.b:=by
      rintro⟨i,o,y,hi,hl,hy,hyb⟩
      obtain⟨y',oH,hy',_,TP,_⟩:=hM.obj i o hi hl
      rw[hy]at hy';cases hy'
      have:=(Array.getElem?_eq_some_iff.1 TP).1
      omega
     have hA:=hM'.RU (id:=m.n) (hM.fresh m.n (Nat.le_refl _)) (n':=m.n+1) (by omega) (by omega) (x:=x) (.inl (Nat.le_trans hM.below.size hxb)) hnl eu (hor σ)
     refine⟨_,List.mem_cons_self ..,_,v',rfl,⟨?_,hF.size,hF.frame,?_,by show m.n≤m.n+1;omega,?_⟩,yH _ m.n (if_pos rfl),hA⟩
     ·intro i y hy
      have:i≠m.n:=fun e=>by rw[e,hM.fresh m.n (Nat.le_refl _)]at hy;cases hy
      simp[this,hy]
     ·rintro b ⟨j,o,y,hj,hl,hy,rfl⟩
      by_cases e:m.n=j
      ·subst e
       simp at hy;subst hy
       exact .inr hxb
      ·have hj':(m.t.set m.n p.obj).get j=some o:=hj
       rw[T.bC _ _ e]at hj'
       have e':j≠m.n:=fun h=>e h.symm
       simp only[e',if_false]at hy
       exact .inl ⟨j,o,y,hj',hl,hy,rfl⟩
     ·intro i hi
      have:i≠m.n:=by omega
      simp[this]
    ·exact ih' hs hne σ w args' hv hM
   ·exact ih' hs hne σ w args' hv hM
theorem O8 {E:Env} {P:Program} {Tw:World→Prop}:∀r∈([]:List Fr),Jr E P Tw r:=fun _ h=>by cases h
theorem wS {E:Env} {P:Program} {Tw:World→Prop} {r:Fr} {l:List Fr} (h:Jr E P Tw r) (hl:∀s∈l,Jr E P Tw s):∀s∈r::l,Jr E P Tw s:=fun s hs=>by
 rcases List.mem_cons.1 hs with rfl|hs
 ·exact h
 ·exact hl s hs
end
def Nb (m:Mem) (i:Nat):Option (Value→Nat→Obj→Prop):=match m.t.get i with
 | some (.dyn q)=>some q
 | _=>none
def xR (n:Nat) (l:List (Value×Mem)) (ids oQ:List Nat):List (Value×Bool×List (Option (TypeId×List Value))×List (Option (Value→Nat→Obj→Prop))):=l.map fun r=>(r.1,stay r.2 n,ids.map (zo r.2),oQ.map (Nb r.2))
structure Bb (A:dU) (τ:Nat→Nat×Nat) (D:Nat→Value) (ids:List Nat) (picks:List (Option (TypeId×List Value))) (w:World) (bf:Nat→Nat×Nat) (w':World):Prop where
 old:∀i,i<A.length→bf i=τ i
 left:w'.os=w.os∧w'.tape=w.tape∧w'.output=w.output∧w.heap.size≤w'.heap.size
 block:∀b,b<w.heap.size→(∀i,i<A.length→(τ i).1≠b)→w'.heap[b]? = w.heap[b]?
 at_:∀(k i:Nat) e l,ids[k]? = some i→picks[k]? = some (some (e,l))→(l.all (lI DP))=true→At w' (bf i).1 (bf i).2 e (l.map (im D bf))
 fresh:∀(k i:Nat) e l,ids[k]? = some i→picks[k]? = some (some (e,l))→A.length≤i→w.heap.size≤(bf i).1
 inj:∀(k i k' i':Nat) e l e' l',ids[k]? = some i→picks[k]? = some (some (e,l))→ids[k']? = some i'→picks[k']? = some (some (e',l'))→(bf i).1=(bf i').1→i=i'
def Held (ids:List Nat) (bf:Nat→Nat×Nat) (w w':World) (q:Value→Nat→Obj→Prop) (v:Value):Prop :=
 ∃b ob,w'.heap[b]? = some ob∧q v b ob∧w.heap.size≤b∧∀i∈ids,(bf i).1≠b
theorem CY {P:Program} (hP:P.follows .mixedOrders=true) {fs ts:List Nat} {Tw:World→Prop} {own:Nat→Prop} {cs:List (Nat×Bool)} (D:Nat→Value) {n:Nat} (hD:((List.range n).all fun i=>(D i).oneCell')=true) {rules:List fE} (hr:letI:bH:=⟨D⟩; ∀r∈rules,dL P Tw r) (hc:∀i b,rY cs i=some b→D i =.bool b) {S:qM} (XJ:letI:bH:=⟨D⟩; ∀w0,(∀w',Kept own w0 w'→Tw w')→KO (dz P fs ts rules Tw own cs) P w0 S) {fuel d:Nat} {f:FuncId} {args:List Value} {A:dU} {ids oQ:List Nat} {v:Value} {picks:List (Option (TypeId×List Value))} {qs:List (Value→Nat→Obj→Prop)}
 (hA:pE n A=true) (vF:(args.all (within n A.length DP))=true) (TH:(A.all fun p=>((dz P fs ts rules Tw own cs).types.get p.1).isSome)=true) (hv:lI DP v=true)
 (hrun:xR A.length (eB (dz P fs ts rules Tw own cs) S fuel d (.fn f) args (kI A)) ids oQ=[(v,true,picks,qs.map some)]) (hpk:(picks.all Option.isSome)=true) (hlp:ids.length=picks.length) (hdl:(oQ.all fun i=>Nat.ble A.length i)=true) {w:World} {τ:Nat→Nat×Nat} (hT:∀w',Kept own w w'→Tw w') (hown:∀i,i<A.length→own (τ i).1) (hS:ah w D A τ) :
 Calls P f (args.map (im D τ)).toArray w fun e w'=>∃bf V,e =.returned (im (dx D V) bf v)∧Bb A τ (dx D V) ids picks w bf w'∧∀(k i:Nat) (q:Value→Nat→Obj→Prop),oQ[k]? = some i→qs[k]? = some q→Held ids bf w w' q (V i):=by
 letI:bH:=⟨D⟩
 have hDi:∀i,i<n→(bH.D i).oneCell'=true:=fun i hi=>List.all_eq_true.1 hD i (List.mem_range.2 hi)
 let B:Ri:=(List.range A.length).map fun i=>((τ i).1,(τ i).2,((A[i]?.map (·.2)).getD []).map (im D τ))
 have hB:∀(i:Nat) q,B[i]? = some q→∃p,A[i]? = some p∧q=((τ i).1,(τ i).2,p.2.map (im D τ)):=fun i q hq=>by
  have hi:i<A.length:=by
   have:=(List.getElem?_eq_some_iff.1 hq).1
   simpa [B]using this
  refine⟨A[i],List.getElem?_eq_getElem hi,?_⟩
  simp only[B,List.getElem?_map,List.getElem?_range hi,Option.map_some,Option.some.injEq,List.getElem?_eq_getElem hi,Option.getD_some]at hq
  exact hq.symm
 have kV:B.length=A.length:=by simp[B]
 have hsg:∀{σ:Sg},Pp σ B→∀i,i<A.length→∃x,σ i=some x∧x.b=(τ i).1∧x.sh=(τ i).2:=fun{σ} h i hi=>by
  obtain⟨q,hq⟩:∃q,B[i]? = some q:=⟨B[i]'(by rw[kV];exact hi),List.getElem?_eq_getElem _⟩
  obtain⟨x,hx,h1,h2⟩:=h i q hq
  obtain⟨p,_,rfl⟩:=hB i q hq
  exact⟨x,hx,h1,h2⟩
 have hrel:∀{σ:Sg},Pp σ B→∀l:List Value,l.all (within n A.length DP)=true→cZ σ l (l.map (im D τ)):=fun{σ} h l=>by
  induction l with
  | nil=>intro _;exact cZ.nil σ
  | cons a l ih =>
    intro hl
    simp only[List.all_cons,Bool.and_eq_true]at hl
    exact cZ.cons (DI hDi (hsg h) DP a hl.1) (ih hl.2)
 have hI:A7 (dz P fs ts rules Tw own cs) w A B :=
  { len:=kV.symm
    types:=TH
    at_:=fun i p q hp hq=>by
     obtain⟨p',hp',rfl⟩:=hB i q hq
     rw[hp]at hp';cases hp'
     exact⟨hS.at_ i p hp,by simp⟩
    dist:=fun i j q r hq hr h=>by
     have hi:i<A.length:=by rw[←kV];exact(List.getElem?_eq_some_iff.1 hq).1
     have hj:j<A.length:=by rw[←kV];exact(List.getElem?_eq_some_iff.1 hr).1
     obtain⟨_,_,rfl⟩:=hB i q hq
     obtain⟨_,_,rfl⟩:=hB j r hr
     exact hS.dist i j hi hj h
    rel:=fun σ hσ i p q hp hq=>by
     obtain⟨p',hp',rfl⟩:=hB i q hq
     rw[hp]at hp';cases hp'
     exact hrel hσ p.2 (List.all_eq_true.1 hA p (List.mem_of_getElem? hp)) }
 have eb:bare w.heap.size w=w:=by simp[bare]
 have Xc:zx A.length (eB (dz P fs ts rules Tw own cs) S fuel d (.fn f) args (kI A)) ids=[(v,true,picks)]:=by
  generalize eB (dz P fs ts rules Tw own cs) S fuel d (.fn f) args (kI A)=L at hrun
  match L,hrun with
  | [r],h=>simp only[xR,List.map_cons,List.map_nil,List.cons.injEq,and_true,Prod.mk.injEq]at h;simp only[zx,List.map_cons,List.map_nil,h.1,h.2.1,h.2.2.1]
  | [],h=>simp[xR]at h
  | a::b::c,h=>simp[xR]at h
 refine(EN hP (nI hr hc) (fun _=>Iff.rfl) XJ Xc (n0:=w.heap.size) (fun w' hk=>hT w' (by rw[eb]at hk;exact hk)) (fun q hq => .inr (by
  obtain⟨i,hi⟩:=List.getElem?_of_mem hq
  have hlt:i<A.length:=by rw[←kV];exact(List.getElem?_eq_some_iff.1 hi).1
  obtain⟨_,_,rfl⟩:=hB i q hi
  exact hown i hlt)) hI (args':=(args.map (im D τ)).toArray) (fun σ hσ=>by simpa using hrel hσ args vF)).mono ?_
 rintro e w' ⟨v',σ',m',rfl,hR,hev,hM,hlv⟩
 have hpos:∀i x,σ' i=some x→fB σ' i=(x.b,x.sh):=fun i x hx=>by unfold fB;rw[hx]
 have TU:∀{l l':List Value},cZ σ' l l'→l.all (lI DP)=true→l'=l.map (im (dx D (qO σ')) (fB σ')):=fun{l}=>by
  induction l with
  | nil=>intro l' h _;exact List.eq_nil_of_length_eq_zero h.1.symm
  | cons a l ih =>
    intro l' h ho
    simp only[List.all_cons,Bool.and_eq_true]at ho
    cases l' with
    | nil=>exact absurd h.1 (by simp)
    | cons b l' =>
      rw[Kl DP a b h.head ho.1,ih h.tail ho.2]
      rfl
 refine⟨fB σ',qO σ',by rw[Kl DP v v' hR.val hv];rfl,?_,?_⟩
 ·refine⟨fun i hi => ?_,⟨hR.left.os,hR.left.tape,hR.left.output,hR.left.size⟩,fun b hb hn=>hR.left.block b hb (fun q hq e => ?_),fun k i e l hk hpk ho => ?_,fun k i e l hk hpk hi => ?_,fun k i k' i' e l e' l' hk hpk hk' hpk' hxy => ?_⟩
  ·obtain⟨x,hx,h1,h2⟩:=hsg hR.sg i hi
   rw[hpos i x hx,h1,h2]
  ·obtain⟨i,hi⟩:=List.getElem?_of_mem hq
   have hlt:i<A.length:=by rw[←kV];exact(List.getElem?_eq_some_iff.1 hi).1
   obtain⟨_,_,rfl⟩:=hB i q hi
   exact hn i hlt e
  ·obtain⟨x,l',hx,hat,yH⟩:=hR.lies k i e l hk hpk
   rw[hpos i x hx,←TU yH ho]
   exact hat
  ·obtain⟨x,l',hx,hat,yH⟩:=hR.lies k i e l hk hpk
   rw[hpos i x hx]
   exact hR.fresh k i e l x hk hpk (by rw[kV];exact hi) hx
  ·obtain⟨x,_,hx,_,_⟩:=hR.lies k i e l hk hpk
   obtain⟨y,_,hy,_,_⟩:=hR.lies k' i' e' l' hk' hpk'
   rw[hpos i x hx,hpos i' y hy]at hxy
   exact hR.inj k i k' i' e l e' l' x y hk hpk hk' hpk' hx hy hxy
 ·intro k i q hk hq
  rw[hev]at hrun
  simp only[xR,List.map_cons,List.map_nil,List.cons.injEq,and_true,Prod.mk.injEq,true_and]at hrun
  obtain⟨hst,ZV,hqs⟩:=hrun
  have hget:m'.t.get i=some (.dyn q):=by
   have h1:(oQ.map (Nb m'))[k]? =(qs.map some)[k]? := by rw[hqs]
   rw[List.getElem?_map,List.getElem?_map,hk,hq]at h1
   simp only[Option.map_some,Option.some.injEq]at h1
   unfold Nb at h1
   split at h1
   ·rename_i q' hg;cases h1;exact hg
   ·cases h1
  have hi:A.length≤i:=Nat.le_of_ble_eq_true (List.all_eq_true.1 hdl i (List.mem_of_getElem? hk))
  rw[eb]at hM
  obtain⟨x,ob,hx,_,eu,hor⟩:=hM.obj i _ hget rfl
  refine⟨x.b,ob,eu,?_,?_,fun i' hi' => ?_⟩
  ·have:qO σ' i=x.v:=by unfold qO;rw[hx]
   rw[this]
   exact hor
  ·rcases hlv x.b ⟨i,_,x,hget,rfl,hx,rfl⟩with⟨p,hp,hpx⟩|h
   ·obtain⟨j,hj⟩:=List.getElem?_of_mem hp
    have hlt:j<A.length:=by rw[←kV];exact(List.getElem?_eq_some_iff.1 hj).1
    obtain⟨y,hy,hyb,_⟩:=hR.sg j p hj
    obtain⟨o',hg',hl'⟩:=vZ hst j hlt
    have:=hM.inj i j _ _ x y hget rfl hg' hl' hx hy (by rw[hyb,hpx])
    omega
   ·exact h
  ·obtain⟨k',hk'⟩:=List.getElem?_of_mem hi'
   have hkl:k'<picks.length:=by rw[←hlp];exact(List.getElem?_eq_some_iff.1 hk').1
   obtain⟨⟨e2,l2⟩,hel⟩:=Option.isSome_iff_exists.1 (List.all_eq_true.1 hpk picks[k'] (List.getElem_mem hkl))
   have hpk':picks[k']? = some (some (e2,l2)):=by rw[List.getElem?_eq_getElem hkl,hel]
   obtain⟨y,_,hy,_,_⟩:=hR.lies k' i' e2 l2 hk' hpk'
   have hp1:zo m' i'=some (e2,l2):=by
    rw[←ZV,List.getElem?_map,hk']at hpk'
    exact Option.some.inj hpk'
   obtain⟨cells,nn,hg,_⟩:=lH hp1
   rw[hpos i' y hy]
   intro e
   have:=hM.inj i' i _ _ y x hg rfl hget rfl hy hx e
   subst this
   rw[hg]at hget
   cases hget
theorem Kk {D:Nat→Value} {n k:Nat} {τ R4:Nat→Nat×Nat} (h:∀i,i<k→τ i=R4 i):∀(d:Nat) (v:Value),within n k d v=true→img D τ d v=img D R4 d v:=by
 intro d
 induction d with
 | zero=>intro v h;cases h
 | succ d ih =>
   have arr:∀c:Array Value,c.toList.all (within n k d)=true→mapA (img D τ d) c=mapA (img D R4 d) c:=fun c h=>by
    unfold mapA
    rw[List.map_congr_left fun x hx=>ih x (List.all_eq_true.1 h x hx)]
   intro v hv
   unfold within at hv
   split at hv
   ·rfl
   ·rename_i i o
    simp only[img,h i (by simpa [Nat.blt_eq]using hv)]
   ·simp only[Bool.and_eq_true]at hv
    simp only[img,arr _ hv.1,arr _ hv.2]
   ·simp only[img,arr _ hv]
   ·simp only[img,arr _ hv]
   ·simp only[img,ih _ hv]
   ·rename_i h1 h2 h3 h4 h5 h6
    unfold img
    split<;>first|rfl|(simp[simple]at hv;done)|exact absurd rfl (h1 _)|exact absurd rfl (h2 _ _)|exact absurd rfl (h3 _ _ _)|exact absurd rfl (h4 _)|exact absurd rfl (h5 _)|exact absurd rfl (h6 _ _)
theorem Bb.stands {A:dU} {τ:Nat→Nat×Nat} {D D':Nat→Value} {ids:List Nat} {pk A':dU} {w w':World} {bf:Nat→Nat×Nat} (h:Bb A τ D ids (pk.map some) w bf w')
 (hlow:∀i,i<A.length→1≤(τ i).1) (hsz:1≤w.heap.size) (hok:(pk.all fun p=>p.2.all (lI DP))=true) (hnd:ids.Nodup) (hlen:ids.length=pk.length) (hmap:pk.map (fun p=>(p.1,p.2.map (im D bf)))=A'.map (fun p=>(p.1,p.2.map (im D' fun k=>bf (ids.getD k 0))))) :
 ah w' D' A' (fun k=>bf (ids.getD k 0)):=by
 have hl:pk.length=A'.length:=by have:=congrArg List.length hmap;simpa using this
 have hid:∀k,k<A'.length→∃i e l,ids[k]? = some i∧ids.getD k 0=i∧pk[k]? = some (e,l)∧(pk.map some)[k]? = some (some (e,l)):=fun k hk=>by
  have h1:k<ids.length:=by omega
  have h2:k<pk.length:=by omega
  refine⟨ids[k],pk[k].1,pk[k].2,List.getElem?_eq_getElem h1,by simp[List.getD,h1],List.getElem?_eq_getElem h2,?_⟩
  rw[List.getElem?_map,List.getElem?_eq_getElem h2]
  rfl
 refine⟨fun k p hp => ?_,fun k j hk hj hkj => ?_,fun k hk => ?_⟩
 ·have hk:=(List.getElem?_eq_some_iff.1 hp).1
  obtain⟨i,e,l,h1,h2,h3,h4⟩:=hid k hk
  have hat:=h.at_ k i e l h1 h4 (List.all_eq_true.1 hok _ (List.mem_of_getElem? h3))
  have hm:(pk.map (fun p=>(p.1,p.2.map (im D bf))))[k]? =(A'.map (fun p=>(p.1,p.2.map (im D' fun k=>bf (ids.getD k 0)))))[k]? := by rw[hmap]
  rw[List.getElem?_map,List.getElem?_map,h3,hp]at hm
  simp only[Option.map_some,Option.some.injEq,Prod.mk.injEq]at hm
  show At w' (bf (ids.getD k 0)).1 (bf (ids.getD k 0)).2 p.1 _
  rw[h2,←hm.1,←hm.2]
  exact hat
 ·obtain⟨i,e,l,h1,h2,h3,h4⟩:=hid k hk
  obtain⟨i',e',l',h1',h2',h3',h4'⟩:=hid j hj
  have Oa:(bf (ids.getD k 0)).1=(bf (ids.getD j 0)).1:=hkj
  rw[h2,h2']at Oa
  have:=h.inj k i j i' e l e' l' h1 h4 h1' h4' Oa
  subst this
  exact(List.getElem?_inj (by omega) hnd).1 (h1.trans h1'.symm)
 ·obtain⟨i,e,l,h1,h2,h3,h4⟩:=hid k hk
  show 1≤(bf (ids.getD k 0)).1
  rw[h2]
  rcases Nat.lt_or_ge i A.length with h5|h5
  ·rw[h.old i h5];exact hlow i h5
  ·exact Nat.le_trans hsz (h.fresh k i e l h1 h4 h5)
theorem Bb.moved {A:dU} {τ:Nat→Nat×Nat} {D:Nat→Value} {ids:List Nat} {pk A':dU} {w w':World} {bf:Nat→Nat×Nat} (h:Bb A τ D ids (pk.map some) w bf w') (hl1:ids.length=pk.length) (hl2:A'.length=pk.length) :
 bK A τ w A' (fun k=>bf (ids.getD k 0)) w':=by
 refine⟨h.left.1,h.left.2.1,h.left.2.2.1,h.left.2.2.2,h.block,fun k hk => ?_⟩
 have h1:k<ids.length:=by omega
 have h2:k<pk.length:=by omega
 have e:ids.getD k 0=ids[k]:=by simp[List.getD,h1]
 rw[e]
 rcases Nat.lt_or_ge ids[k] A.length with h3|h3
 ·exact .inl ⟨ids[k],h3,by rw[h.old _ h3]⟩
 ·refine .inr (h.fresh k ids[k] pk[k].1 pk[k].2 (List.getElem?_eq_getElem h1) ?_ h3)
  rw[List.getElem?_map,List.getElem?_eq_getElem h2];rfl
theorem Qc [bH] {P:Program} {Tw:World→Prop} {t e:TypeId} {ie:TypeInfo} (hu:P.underlying t=some (.slice e)) (hi:P.info? e=some ie) (i:Nat):dL P Tw ⟨(41,t,0),[.complex .f32 32 i,.int .i64 0],.pointer (some ⟨i,0,none⟩)⟩:=by
 intro o hk σ ρ' hvl w hT
 obtain⟨x,y,ho⟩:=Ca hk
 rw[ho]at hvl
 simp only[Op.operands,List.map_cons,List.map_nil]at hvl
 have h1:=hvl.head
 have h2:=hvl.tail.head
 generalize hx:ρ' x=vx at h1
 generalize hy:ρ' y=vy at h2
 cases h1 with
 | refl h=>cases h
 | EI h hn =>
   rename_i n c z
   obtain rfl:vy =.int .i64 0:=by
    cases h2 with
    | refl h=>rfl
   refine⟨.pointer (some ⟨z.b,z.sh,none⟩),?_,?_⟩
   ·have:execOp ρ' o=(do pure (.value (←Instr.indexAt t (ρ' x) (ρ' y)))):=by simp[execOp,ho]
    rw[this,hx,hy]
    have hn':n≠0:=by omega
    simp[Instr.indexAt,asIntOf,run_underlying hu,sizeOf,typeInfo,hi,hn',Addr.add_mid]
   ·exact .ptr (o:=0) h
