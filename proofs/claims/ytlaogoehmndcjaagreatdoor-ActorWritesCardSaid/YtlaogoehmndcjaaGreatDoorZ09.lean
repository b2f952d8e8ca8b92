import Derived.Test.YtlaogoehmndcjaaGreatDoorZ08
import Derived.OrdersIn
import Derived.RangeFuncLeaves
import Derived.Orders
set_option linter.unusedSectionVars false
set_option linter.unusedVariables false
set_option linter.unusedSimpArgs false
namespace Go.AS
open Go.RowKit
variable [bH]
variable {E:Env} {P:Program} {w0:World}
structure TR (σ:Sg) (N:Nat) (t:T Value) (a:Act):Prop where
 size:a.tmps.size=N
 val:∀i,VR σ (tv t i) (a.tmps.getD i undef)
theorem TR.mono {σ σ':Sg} (he:Ext σ σ') {N:Nat} {t:T Value} {a:Act} (h:TR σ N t a):TR σ' N t a:=⟨h.size,fun i=>(h.val i).mono he⟩
theorem qL {l:List Value} (h:nZ l=true):∀v∈l,simple v=true:=by
 induction l with
 | nil=>intro v hv;cases hv
 | cons x l ih =>
   intro v hv
   simp only[nZ]at h
   cases hx:simple x with
   | false=>rw[hx]at h;cases h
   | true =>
     rw[hx]at h
     cases hv with
     | head=>exact hx
     | tail _ hm=>exact ih h v hm
theorem Ci (σ:Sg) (v:Value):VR σ (cst v) v:=by
 unfold cst
 split<;>first|exact .refl rfl|exact .any _|skip
 ·rename_i vs
  split
  ·rename_i h
   have:vs =#[]:=Array.ext' h
   subst this;exact VR.undef σ
  ·exact .any _
 ·rename_i vs
  split
  ·rename_i h
   exact .wT (cZ.simple (qL h))
  ·exact .any _
theorem qz {σ:Sg} {N:Nat} {t:T Value} {a:Act} (h:TR σ N t a) (x:Operand):VR σ (ku t x) (a.eval x):=by
 cases x with
 | tmp i=>exact h.val i
 | const v=>exact Ci σ v
 | global g=>exact .any _
 | func f=>exact .func rfl (fun i hi=>by simp at hi) rfl (fun i hi=>by simp at hi)
theorem TR.put {σ:Sg} {N:Nat} {t:T Value} {a:Act} (h:TR σ N t a) (d:Option Tmp) {v v':Value} (hv:VR σ v v'):TR σ N (put N t d v) (a.put d v'):=by
 cases d with
 | none=>exact h
 | some d =>
   simp only[AS.put,Act.put]
   refine⟨by simpa using h.size,fun i => ?_⟩
   cases hlt:Nat.blt d N with
   | true =>
     have hlt':d<N:=Nat.le_of_ble_eq_true hlt
     simp only[tv,T.mO]
     by_cases e:d=i
     ·subst e
      have:d<a.tmps.size:=by rw[h.size];exact hlt'
      simp[this,hv]
     ·rw[if_neg e]
      have:(a.tmps.setIfInBounds d v').getD i undef=a.tmps.getD i undef:=by
       simp[e]
      rw[this];exact h.val i
   | false =>
     have hge:N≤d:=by
      rcases Nat.lt_or_ge d N with h1|h1
      ·have h2:Nat.blt d N=true:=Nat.ble_eq_true_of_le h1
       rw[h2]at hlt;cases hlt
      ·exact h1
     have:a.tmps.setIfInBounds d v'=a.tmps:=by
      apply Array.ext_getElem?
      intro q
      rw[Array.getElem?_setIfInBounds]
      by_cases e:d=q
      ·subst e;rw[if_pos rfl,if_neg (by rw[h.size];omega),Array.getElem?_eq_none (by rw[h.size];exact hge)]
      ·rw[if_neg e]
     rw[this];exact h.val i
theorem uw {σ:Sg} {N:Nat} {t:T Value} {a:Act} (h:TR σ N t a) {ops:Array Oper} {o:Oper} {b:Bool} (hw:wanted ops o t=some b):Region.wanted o (yielded ops a.tmps)=b:=by
 unfold wanted at hw
 unfold Region.wanted
 split at hw
 ·rename_i hg
  rw[hg];cases hw;rfl
 ·rename_i j want hg
  rw[hg]
  split at hw
  ·rename_i p hp
   have hp':ops[j]? = some p:=by simpa using hp
   split at hw
   ·rename_i d hd
    have hv:=h.val d
    have hy:yielded ops a.tmps j=match a.tmps[d]? with|some (.bool b)=>some b|_=>none:=by
     simp[yielded,hp',hd]
     rfl
    simp only[tv]at hv
    split at hw
    ·rename_i b' ht
     cases hw
     rw[ht]at hv
     have hb:=hv.aB rfl
     have:a.tmps[d]? = some (.bool b'):=by
      rcases Nat.lt_or_ge d a.tmps.size with h1|h1
      ·simp[h1]at hb
       rw[Array.getElem?_eq_getElem h1,hb]
      ·simp[Nat.not_lt.2 h1,undef]at hb
     simp only[hy,this]
     cases b'<;>cases want<;>rfl
    ·rename_i vs ht
     cases hw
     rw[ht]at hv
     obtain⟨vs',hb,_⟩:=hv.vW
     have:(match a.tmps[d]? with|some (.bool b)=>some b|_=>none)=(none:Option Bool):=by
      rcases Nat.lt_or_ge d a.tmps.size with h1|h1
      ·simp[h1]at hb
       rw[Array.getElem?_eq_getElem h1,hb]
      ·rw[Array.getElem?_eq_none h1]
     simp only[hy,this]
     rfl
    ·cases hw
   ·cases hw
  ·cases hw
theorem iV {α β:Type} {f:α→List β}:∀{l:List α},jy l f≠[]→∀x∈l,f x≠[]∧∀y∈f x,y∈jy l f:=by
 intro l
 induction l with
 | nil=>intro _ x hx;cases hx
 | cons a l ih =>
   intro hne x hx
   cases l with
   | nil =>
     simp only[List.mem_singleton]at hx
     subst hx
     exact⟨hne,fun y hy=>hy⟩
   | cons b l =>
     simp only[jy]at hne ⊢
     split at hne
     ·exact absurd rfl hne
     ·rename_i c cs hc
      split at hne
      ·exact absurd rfl hne
      ·rename_i d ds hd
       try rw[hc]
       try simp only
       try rw[hd]
       try simp only
       cases hx with
       | head =>
         rw[hc]
         exact⟨by simp,fun y hy=>List.mem_append.2 (.inl (by simpa using hy))⟩
       | tail _ hm =>
         have hne2:jy (b::l) f≠[]:=by rw[hd];simp
         obtain⟨h1,h2⟩:=ih hne2 x hm
         refine⟨h1,fun y hy => ?_⟩
         have:=h2 y hy
         rw[hd]at this
         exact List.mem_append.2 (.inr this)
def WF (r:Option Nat):Fence:={ Fence.wide with round:=r }
theorem Pn (r:Option Nat) (l:Nat):(WF r).inRound l=WF (some l):=rfl
theorem AV {n:Nat} (r:Option Nat):(WF r).depth.isSome=true→1≤n:=fun h=>by simp[WF,Fence.wide]at h
theorem Cv {r:Option Nat} {n:Nat} {f:FuncId} {args:Array Value} {w:World} {R:Ending→World→Prop} (h:Calls P f args w R):CallsIn (WF r) n P f args w R :=
 (callsIn_wide (n:=n)).2 h
theorem Jd {r:Option Nat} {n:Nat} {f:FuncId} {args:Array Value} {w:World} {R:Ending→World→Prop} (h:CallsIn (WF r) n P f args w R):Calls P f args w R :=
 (callsIn_wide (n:=n)).1 h
def After (E:Env) (w0:World) (σ:Sg) (m:Mem) (w:World) (l:List (Value×Mem)) (e:Ending) (w':World):Prop :=
 ∃r∈l,∃σ' v',e =.returned v'∧FG σ m w σ' r.2 w'∧VR σ' r.1 v'∧MR E w0 σ' r.2 w'
structure nk (E:Env) (P:Program) (w0:World) (call:gM):Prop where
 fn:∀f args m,call (.fn f) args m≠[]→∀(σ:Sg) (w:World) (args':Array Value),cZ σ args args'.toList→MR E w0 σ m w→Calls P f args' w (After E w0 σ m w (call (.fn f) args m))
 uq:∀i args m,call (.uq i) args m≠[]→∀(σ:Sg) (w:World) (args':Array Value) (x:Inf),σ i=some x→cZ σ args args'.toList→MR E w0 σ m w →
  ∃f tmps as body,(Instr.yield x.b args').run P w =.ok (.round x.b f tmps as body) w∧∀r n,RoundIn (WF r) n P x.b f tmps as body w (After E w0 σ m w (call (.uq i) args m))
theorem nG {ρ:Operand→Value} {o:Oper} {m:Mem} (h:jG E ρ o m≠[]):∀c,o.op ≠ .defer c:=by
 intro c hc
 refine h ?_
 unfold jG jl
 rw[hc]
 simp only
 unfold kC
 rw[hc]
theorem uR {call:gM} (hcall:nk E P w0 call) {σ:Sg} {m:Mem} {w:World} {o:Oper} {a:Act} {out:Out} (hnd:∀c,o.op ≠ .defer c) (hM:MR E w0 σ m w) (hout:gB E P w0 σ m w (execOp a.eval o) out)
 {r:Option Nat} {n:Nat} {K:Act→World→Prop} {Q:Exit→Act→World→Prop}
 (hv:∀v,out =.val v→∀v',VR σ v v'→K (a.put o.dst v') w)
 (hn:∀ob mk,out =.new ob mk→∀v' obj x,x.b=w.heap.size→ob.live=true→OR E σ x ob obj→(∀(σ':Sg) id,σ' id=some x→VR σ' (mk.val id) v')→K (a.put o.dst v') (w.alloc obj))
 (he:∀v m',out =.kM v m'→∀v' w' σ',VR σ' v v'→MR E w0 σ' m' w'→FG σ m w σ' m' w'→K (a.put o.dst v') w')
 (hc:∀f args,out =.enter f args→call f args m≠[]∧∀q∈call f args m,∀v' w' σ',FG σ m w σ' q.2 w'→VR σ' q.1 v'→MR E w0 σ' q.2 w'→K (a.put o.dst v') w'):o.wpIn (WF r) n P a w K Q:=by
 unfold Oper.wpIn
 refine⟨fun _ _=>trivial,?_⟩
 rw[Oper.semAt_eq _ _ _ hnd]
 cases out with
 | val v =>
   obtain⟨nx,v',h1,h2,h3⟩:=hout
   rw[h1]
   have hgo:=hv v rfl v' h3
   cases nx<;>simp only[jX,Option.some.injEq]at h2<;>first|(cases h2;done)|(subst h2;exact hgo)
 | new ob mk =>
   obtain⟨v',obj,x,h1,h2,h3,h4,h5⟩:=hout
   rw[h1]
   exact hn ob mk rfl v' obj x h2 h3 h4 h5
 | kM v m' =>
   obtain⟨nx,v',w',σ',h1,h2,h3,hm',hf'⟩:=hout
   rw[h1]
   have hgo:=he v m' rfl v' w' σ' h3 hm' hf'
   cases nx<;>simp only[jX,Option.some.injEq]at h2<;>first|(cases h2;done)|(subst h2;exact hgo)
 | enter f args =>
   obtain⟨hne,hgo⟩:=hc f args rfl
   cases f with
   | fn f =>
     obtain⟨args',h1,h2⟩:=hout
     rw[h1,Oper.uponIn_enter]
     refine⟨AV r,Cv ((hcall.fn f args m hne σ w args' h2 hM).mono ?_)⟩
     rintro e w' ⟨q,hq,σ',v',rfl,hf',hv',hm'⟩
     exact hgo q hq v' w' σ' hf' hv' hm'
   | uq i =>
     obtain⟨args',x,h0,h1,h2⟩:=hout
     obtain⟨f,tmps,as,body,g1,g2⟩:=hcall.uq i args m hne σ w args' x h0 h2 hM
     rw[h1,g1,Oper.uponIn_round]
     refine⟨AV r,(g2 r _).mono ?_⟩
     rintro e w' ⟨q,hq,σ',v',rfl,hf',hv',hm'⟩
     exact hgo q hq v' w' σ' hf' hv' hm'
theorem Oz (hE:jO E P) {call:gM} (hcall:nk E P w0 call) {r:Option Nat} {n:Nat} {N:Nat} {ops:Array Oper} {Q:Exit→Act→World→Prop}:∀(l:List Oper) (k:Nat),ops.toList.drop k=l→∀(t:T Value) (m:Mem) (σ:Sg) (a:Act) (w:World),
 sj E call N ops l t m≠[]→TR σ N t a→MR E w0 σ m w →
 (∀r∈sj E call N ops l t m,∀σ' a' w',FG σ m w σ' r.2 w'→TR σ' N r.1 a'→MR E w0 σ' r.2 w'→a'.defers=a.defers→Q .normal a' w')→wpOpsIn (WF r) n P ops Q (List.range' k l.length) a w:=by
 intro l
 induction l with
 | nil =>
   intro k _ t m σ a w _ hT hM hQ
   exact hQ (t,m) (by simp[sj]) σ a w (FG.refl σ m w) hT hM rfl
 | cons o l ih =>
   intro k hk t m σ a w hne hT hM hQ
   have hok:ops[k]? = some o:=by
    have:(ops.toList.drop k)[0]? = some o:=by rw[hk];rfl
    simpa using this
   have hk':ops.toList.drop (k+1)=l:=by
    rw[←List.drop_drop,hk];rfl
   simp only[List.length_cons,List.range'_succ,wpOpsIn,hok]
   have hput:∀(d:Option Tmp) (v:Value),(a.put d v).defers=a.defers:=by intro d v;cases d<;>rfl
   simp only[sj]at hne hQ
   split at hne
   ·exact absurd rfl hne
   ·rename_i hw
    rw[hw]at hQ
    simp only at hQ
    rw[uw hT hw]
    simp only[Bool.false_eq_true,if_false]
    exact⟨fun _ _=>trivial,ih (k+1) hk' _ m σ _ w hne (hT.put o.dst (VR.undef σ)) hM (fun r hr σ' a' w' h1 h2 h3 h4=>hQ r hr σ' a' w' h1 h2 h3 (h4.trans (hput _ _)))⟩
   ·rename_i hw
    rw[hw]at hQ
    simp only at hQ
    rw[uw hT hw]
    simp only[if_true]
    have hsrc:jG E (ku t) o m≠[]:=by intro e;rw[e]at hne;exact hne rfl
    obtain⟨out,hmem,hout⟩:=Ae (P:=P) (m:=m) (w:=w) hE hM (qz hT) o hsrc
    obtain⟨hne',hsub⟩:=iV hne out hmem
    have hQ':=fun r hr=>hQ r (hsub r hr)
    refine uR hcall (nG hsrc) hM hout ?_ ?_ ?_ ?_
    ·rintro v rfl v' h3
     exact ih (k+1) hk' _ m σ _ w hne' (hT.put o.dst h3) hM (fun r hr σ' a' w' g1 g2 g3 g4=>hQ' r hr σ' a' w' g1 g2 g3 (g4.trans (hput _ _)))
    ·rintro ob mk rfl v' obj x h2 h3 h4 h5
     obtain⟨hm',hf'⟩:=hM.new (id:=m.n) (hM.fresh m.n (Nat.le_refl _)) (n':=m.n+1) (by omega) (by omega) h2 h4
     have hf':=hf' (Nat.le_refl _)
     exact ih (k+1) hk' _ _ _ _ _ hne' ((hT.mono hf'.ext).put o.dst (h5 _ _ (if_pos rfl))) hm' (fun r hr σ' a' w' g1 g2 g3 g4=>hQ' r hr σ' a' w' (hf'.trans g1) g2 g3 (g4.trans (hput _ _)))
    ·rintro v m' rfl v' w' σ' h3 hm' hf'
     exact ih (k+1) hk' _ _ _ _ _ hne' ((hT.mono hf'.ext).put o.dst h3) hm' (fun r hr σ' a' w' g1 g2 g3 g4=>hQ' r hr σ' a' w' (hf'.trans g1) g2 g3 (g4.trans (hput _ _)))
    ·rintro f args rfl
     simp only at hne' hsub
     refine⟨by intro e;rw[e]at hne';exact hne' rfl,?_⟩
     intro q hq v' w' σ' hf' hv' hm'
     obtain⟨hne2,hsub2⟩:=iV hne' q hq
     exact ih (k+1) hk' _ _ _ _ _ hne2 ((hT.mono hf'.ext).put o.dst hv') hm' (fun r2 hr2 σ2 a2 w2 g1 g2 g3 g4=>hQ' r2 (hsub2 r2 hr2) σ2 a2 w2 (hf'.trans g1) g2 g3 (g4.trans (hput _ _)))
end Go.AS
namespace Go.AS
open Go.RowKit
variable [bH]
variable {E:Env} {P:Program} {w0:World}
theorem Gi {ρ wW:Operand→Value} (c:Call) (m:Mem) (h:∀x∈c.operands,ρ x=wW x):qH E ρ c m=qH E wW c m:=by
 have ha:∀x∈c.args,ρ x=wW x:=fun x hx=>h x (by simp[Call.operands,hx])
 have h1:∀{x:Operand},c.args.toList=[x]→ρ x=wW x:=fun hx=>ha _ (by rw[←Array.mem_toList_iff,hx];simp)
 have h2:∀{x y:Operand},c.args.toList=[x,y]→ρ x=wW x∧ρ y=wW y:=fun hx=>⟨ha _ (by rw[←Array.mem_toList_iff,hx];simp),ha _ (by rw[←Array.mem_toList_iff,hx];simp)⟩
 have h3:c.args.toList.map ρ=c.args.toList.map wW:=List.map_congr_left fun x hx=>ha x (Array.mem_toList_iff.1 hx)
 unfold qH
 split
 ·split
  ·rename_i hx;rw[h1 hx]
  ·rfl
 ·split
  ·rename_i hx;rw[(h2 hx).1,(h2 hx).2]
  ·rfl
 ·split
  ·rename_i hx;rw[(h2 hx).1,(h2 hx).2]
  ·rfl
 ·split
  ·rename_i hx;rw[(h2 hx).1,(h2 hx).2]
  ·rfl
 ·split
  ·rename_i hx;rw[(h2 hx).1,(h2 hx).2]
  ·rfl
 ·split
  ·rename_i hx;rw[(h2 hx).1,(h2 hx).2]
  ·rfl
 ·rename_i f hc
  have hf:ρ f=wW f:=h f (by simp[Call.operands,hc])
  rw[hf,h3]
 ·rename_i r name hc
  have hf:ρ r=wW r:=h r (by simp[Call.operands,hc])
  rw[hf,h3]
 ·rfl
theorem FV {ρ wW:Operand→Value} (o:Oper) (m:Mem) (h:∀x∈o.op.operands,ρ x=wW x):kC E ρ o m=kC E wW o m:=by
 unfold kC
 have omap:∀{x:Option Operand},(∀y,x=some y→ρ y=wW y)→x.map ρ=x.map wW:=by
  intro x hx;cases x with
  | none=>rfl
  | some y=>simp[hx y rfl]
 have YR:∀{x:Array Operand},(∀y∈x,ρ y=wW y)→x.map ρ=x.map wW:=fun hx=>Array.ext' (by
  rw[Array.toList_map,Array.toList_map];exact List.map_congr_left fun y hy=>hx y (Array.mem_toList_iff.1 hy))
 have pmap:∀{x:Array (Nat×Operand)},(∀p∈x,ρ p.2=wW p.2)→x.toList.map (fun p=>(p.1,ρ p.2))=x.toList.map (fun p=>(p.1,wW p.2)):=fun hx=>List.map_congr_left fun y hy=>by rw[hx y (Array.mem_toList_iff.1 hy)]
 cases hop:o.op<;>rw[hop]at h<;>simp only[Op.operands]at h<;>first
  | rfl
  | (simp only[List.mem_toArray,List.mem_cons,List.not_mem_nil,or_false,forall_eq_or_imp,forall_eq]at h
     simp only[h]
     done)
  | skip
 case build t parts=>simp only[pmap fun p hp=>h p.2 (by rw[List.mem_toArray];exact List.mem_map.2 ⟨p,Array.mem_toList_iff.2 hp,rfl⟩)]
 case buildSlice t len parts=>simp only[pmap fun p hp=>h p.2 (by rw[List.mem_toArray];exact List.mem_map.2 ⟨p,Array.mem_toList_iff.2 hp,rfl⟩)]
 case makeFunc fn first captured=>simp only[YR fun y hy=>h y (Array.mem_append.2 (.inl hy)),YR fun y hy=>h y (Array.mem_append.2 (.inr hy))]
 case makeMap t r=>cases r<;>rfl
 case slice t x lo hi mx =>
  have e0:ρ x=wW x:=h x (by simp)
  have e1:lo.map ρ=lo.map wW:=omap fun y hy=>h y (by simp[hy])
  have e2:hi.map ρ=hi.map wW:=omap fun y hy=>h y (by simp[hy])
  have e3:mx.map ρ=mx.map wW:=omap fun y hy=>h y (by simp[hy])
  simp only[e0,e1,e2,e3]
 case call c=>simp only[Gi c m h]
theorem IU {ρ wW:Operand→Value} (o:Oper) (m:Mem) (h:∀x∈o.op.operands,ρ x=wW x):jG E ρ o m=jG E wW o m:=by
 unfold jG
 rw[FV o m h,show o.op.operands.toList.map ρ=o.op.operands.toList.map wW from List.map_congr_left fun y hy=>h y (Array.mem_toList_iff.1 hy)]
theorem Bu {ρ:Operand→Value} (o:Oper) (m m2:Mem) (h:mJ o.op=true):kC E ρ o m=kC E ρ o m2:=by
 unfold kC
 cases hop:o.op<;>rw[hop]at h<;>first
  | (cases h;done)
  | rfl
  | skip
 case makeMap t r=>cases r<;>rfl
 case call c =>
  simp only[mJ]at h
  unfold qH
  split at h<;>first|(cases h;done)|(rename_i hc;simp only[hc])
theorem vI {ρ:Operand→Value} (o:Oper) (m m2:Mem) (h:mJ o.op=true):jG E ρ o m=jG E ρ o m2:=by
 unfold jG
 rw[Bu o m m2 h]
theorem yM (hE:jO E P) {σ:Sg} {m:Mem} {w:World} (h:MR E w0 σ m w) {ρ ρ':Operand→Value} (o:Oper) (hρ:∀x∈o.op.operands,VR σ (ρ x) (ρ' x)) (hne:jG E ρ o m≠[]):∃out∈jG E ρ o m,gB E P w0 σ m w (execOp ρ' o) out:=by
 classical
 have hc:jG E (fun x=>if x∈o.op.operands then ρ x else bad) o m=jG E ρ o m:=IU o m fun x hx=>by simp[hx]
 rw[←hc]at hne ⊢
 refine Ae hE h (fun x => ?_) o hne
 by_cases hx:x∈o.op.operands
 ·simp only[hx,if_true];exact hρ x hx
 ·simp only[hx,if_false];exact .any _
theorem uQ {acc:List Nat}:∀{l:List Edge} {s j:Nat},(oF acc l s).testBit j=true→s.testBit j=true∨∃e∈l,Region.binds .any e=true∧(e.on=j∨(acc.getD e.on 0).testBit j=true):=by
 intro l
 induction l with
 | nil=>intro s j h;exact .inl h
 | cons e l ih =>
   intro s j h
   simp only[oF]at h
   rcases ih h with h1|⟨x,hx,h2⟩
   ·split at h1
    ·rename_i hb
     rw[Nat.testBit_or,Nat.testBit_or]at h1
     simp only[Bool.or_eq_true]at h1
     rcases h1 with(h1|h1)|h1
     ·exact .inl h1
     ·refine .inr ⟨e,by simp,hb,.inl ?_⟩
      rw[Nat.testBit_two_pow]at h1
      simpa using h1
     ·exact .inr ⟨e,by simp,hb,.inr h1⟩
    ·exact .inl h1
   ·exact .inr ⟨x,by simp[hx],h2⟩
theorem tC:∀(l:List Oper) (acc:List Nat),(∃rest,masks l acc=acc++rest∧rest.length=l.length)∧∀(i:Nat) (o:Oper),l[i]? = some o→(masks l acc)[acc.length+i]? = some (oF ((masks l acc).take (acc.length+i)) o.after.toList 0):=by
 intro l
 induction l with
 | nil=>intro acc;exact⟨⟨[],by simp[masks],rfl⟩,fun i o h=>by simp at h⟩
 | cons o l ih =>
   intro acc
   obtain⟨⟨rest,h1,h2⟩,h3⟩:=ih (acc++[oF acc o.after.toList 0])
   simp only[masks]
   refine⟨⟨oF acc o.after.toList 0::rest,by rw[h1];simp,by simp[h2]⟩,fun i p hp => ?_⟩
   cases i with
   | zero =>
     cases hp
     rw[h1]
     simp
   | succ i =>
     have h4:=h3 i p (by simpa using hp)
     simp only[List.length_append,List.length_cons,List.length_nil]at h4
     rw[show acc.length+(i+1)=acc.length+(0+1)+i from by omega]
     exact h4
theorem ve {ops:Array Oper} {D:Nat→Bool} (hD:∀(i:Nat) (o:Oper),ops.toList[i]? = some o→D i=true→∀e∈o.after.toList,Region.binds .any e=true→D e.on=true) :
 ∀(i j:Nat),D i=true→((masks ops.toList []).getD i 0).testBit j=true→D j=true:=by
 intro i
 induction i using Nat.strongRecOn with
 | _ i ih =>
   intro j hi hb
   have h3:=(tC ops.toList []).2 i
   simp only[List.length_nil,Nat.zero_add]at h3
   cases ho:ops.toList[i]? with
   | none =>
     obtain⟨rest,h1,h2⟩:=(tC ops.toList []).1
     have hlen:(masks ops.toList []).length=ops.toList.length:=by rw[h1];simpa using h2
     have hge:ops.toList.length≤i:=by
      rcases Nat.lt_or_ge i ops.toList.length with h|h
      ·rw[List.getElem?_eq_getElem h]at ho;cases ho
      ·exact h
     rw[List.getD_eq_getElem?_getD,List.getElem?_eq_none (by omega)]at hb
     simp at hb
   | some o =>
     rw[List.getD_eq_getElem?_getD,h3 o ho]at hb
     simp only[Option.getD_some]at hb
     rcases uQ hb with h1|⟨e,he,hbi,h1⟩
     ·simp at h1
     ·have hon:=hD i o ho hi e he hbi
      rcases h1 with rfl|h1
      ·exact hon
      ·by_cases hlt:e.on<i
       ·refine ih e.on hlt j hon ?_
        have:((masks ops.toList []).take i).getD e.on 0=(masks ops.toList []).getD e.on 0:=by
         rw[List.getD_eq_getElem?_getD,List.getD_eq_getElem?_getD,List.getElem?_take,if_pos hlt]
        rwa [this]at h1
       ·rw[List.getD_eq_getElem?_getD,List.getElem?_eq_none (by simp;omega)]at h1
        simp at h1
theorem DX:∀{l:List Oper} {j:Nat},yN l j=true→∀(i:Nat) (o:Oper),l[i]? = some o→∀e∈o.after.toList,Region.binds .any e=true→e.on<j+i:=by
 intro l
 induction l with
 | nil=>intro j _ i o h;simp at h
 | cons p l ih =>
   intro j h i o ho e he hb
   simp only[yN]at h
   cases h1:(p.after.toList.all fun e => !Region.binds .any e||Nat.blt e.on j)with
   | false=>rw[h1]at h;cases h
   | true =>
     rw[h1]at h
     cases i with
     | zero =>
       cases ho
       have:=List.all_eq_true.1 h1 e he
       rw[hb]at this
       simp only[Bool.not_true,Bool.false_or]at this
       exact Nat.le_of_ble_eq_true this
     | succ i =>
       have:=ih h i o (by simpa using ho) e he hb
       omega
theorem D9 {ops:Array Oper} {B:List Nat} {o:Oper} {b:Nat}:∀{l:List Oper} {i:Nat},oU ops B o b l i=true→∀(k:Nat) (p:Oper),l[k]? = some p→sw ops p o=true→b.testBit (i+k)=true:=by
 intro l
 induction l with
 | nil=>intro i _ k p h;simp at h
 | cons q l ih =>
   intro i h k p hp hc
   simp only[oU]at h
   cases k with
   | zero =>
     cases hp
     rw[hc]at h
     simp only at h
     cases hb:Nat.testBit b i with
     | true=>first|exact hb|rfl
     | false=>rw[hb]at h;cases h
   | succ k =>
     have h2:oU ops B o b l (i+1)=true:=by
      split at h
      ·cases hb:Nat.testBit b i with
       | true=>rw[hb]at h;exact h
       | false=>rw[hb]at h;cases h
      ·exact h
     have:=ih h2 k p (by simpa using hp) hc
     rw[show i+(k+1)=i+1+k from by omega];exact this
theorem EE {ops:Array Oper} {B:List Nat}:∀{l:List Oper} {j:Nat},CL ops B l j=true→∀(k:Nat) (o:Oper),l[k]? = some o→∀(i:Nat) (p:Oper),i<j+k→ops.toList[i]? = some p→sw ops p o=true→(B.getD (j+k) 0).testBit i=true:=by
 intro l
 induction l with
 | nil=>intro j _ k o h;simp at h
 | cons q l ih =>
   intro j h k o ho i p hi hp hc
   simp only[CL]at h
   cases h1:oU ops B q (B.getD j 0) (ops.toList.take j) 0 with
   | false=>rw[h1]at h;cases h
   | true =>
     rw[h1]at h
     cases k with
     | zero =>
       cases ho
       have:=D9 h1 i p (by rw[List.getElem?_take,if_pos (by omega)];exact hp) hc
       simpa using this
     | succ k =>
       have:=ih h k o (by simpa using ho) i p (by omega) hp hc
       rw[show j+(k+1)=j+1+k from by omega];exact this
theorem Fu {x:Nat}:∀{l:List Nat},Lr x l=true↔x∈l:=by
 intro l
 induction l with
 | nil=>simp[Lr]
 | cons y l ih =>
   simp only[Lr]
   cases h:Nat.beq x y with
   | true=>simp[Nat.eq_of_beq_eq_true h]
   | false =>
     have:x≠y:=fun e=>by rw[e,Nat.beq_refl]at h;cases h
     simp[this,ih]
end Go.AS
namespace Go.AS
open Go.RowKit
variable [bH]
variable {E:Env} {P:Program} {w0:World}
def Cl.eP:Cl→Bool
 | .kM _ _=>true
 | _=>false
def Cl.jY:Cl→Bool
 | .alloc _ _=>true
 | _=>false
structure KP (E:Env) (call:gM) (ops:Array Oper) (B:List Nat) (n N N0:Nat) (M0:Mem) (t0:T Value) (S:Nat→DS) (c:Nat→Cl):Prop where
 start:S 0=⟨t0,M0,[],[],[],0⟩
 cls:∀k o,ops.toList[k]? = some o→rJ E call ops n N0 M0 (S k) o (B.getD k 0)=some (c k)
 step:∀k o,ops.toList[k]? = some o→S (k+1)=oW N N0 (S k) k o (B.getD k 0) (c k)
theorem P6 {call:gM} {ops:Array Oper} {B:List Nat} {n N N0:Nat} {M0:Mem}:∀(l:List Oper) (i:Nat) (S0 Sf:DS),M3 E call ops B n N N0 M0 l i S0=some Sf →
 ∃(S:Nat→DS) (c:Nat→Cl),S 0=S0∧S l.length=Sf∧∀(k:Nat) (o:Oper),l[k]? = some o→rJ E call ops n N0 M0 (S k) o (B.getD (i+k) 0)=some (c k)∧S (k+1)=oW N N0 (S k) (i+k) o (B.getD (i+k) 0) (c k):=by
 intro l
 induction l with
 | nil=>intro i S0 Sf h;simp[M3]at h;exact⟨fun _=>S0,fun _ => .skip,rfl,h,fun k o ho=>by simp at ho⟩
 | cons o l ih =>
   intro i S0 Sf h
   simp only[M3]at h
   split at h
   ·cases h
   ·rename_i c0 hc
    obtain⟨S,c,h1,h2,h3⟩:=ih (i+1) _ Sf h
    refine⟨fun k=>match k with|0=>S0|k+1=>S k,fun k=>match k with|0=>c0|k+1=>c k,rfl,h2,fun k p hp => ?_⟩
    cases k with
    | zero=>cases hp;exact⟨hc,h1⟩
    | succ k =>
      have:=h3 k p (by simpa using hp)
      rw[show i+(k+1)=i+1+k from by omega]
      exact this
section
variable {call:gM} {ops:Array Oper} {B:List Nat} {n N N0:Nat} {M0:Mem} {t0:T Value} {S:Nat→DS} {c:Nat→Cl}
def chainOf (c:Nat→Cl) (M0:Mem) (D:Nat→Bool):Nat→Mem
 | 0=>M0
 | k+1=>match D k,c k with
   | true,.kM _ m=>m
   | _,_=>chainOf c M0 D k
def Mg (c:Nat→Cl) (B:List Nat) (n:Nat) (D:Nat→Bool) (j:Nat):Prop:=∃e,e<n∧D e=true∧(c e).eP=true∧(B.getD e 0).testBit j=true
theorem Ag {b:Nat}:∀{l:List (Nat×fA)} {x:Nat×fA},x∈jS b l↔x∈l∧b.testBit x.1=false:=by
 intro l
 induction l with
 | nil=>intro x;simp[jS]
 | cons y l ih =>
   intro x
   obtain⟨j,ob⟩:=y
   simp only[jS]
   cases h:Nat.testBit b j with
   | true =>
     simp only[cond,ih,List.mem_cons]
     constructor
     ·exact fun⟨h1,h2⟩=>⟨.inr h1,h2⟩
     ·rintro⟨rfl|h1,h2⟩
      ·rw[h]at h2;cases h2
      ·exact⟨h1,h2⟩
   | false =>
     simp only[cond,List.mem_cons,ih]
     constructor
     ·rintro(rfl|⟨h1,h2⟩)
      ·exact⟨.inl rfl,h⟩
      ·exact⟨.inr h1,h2⟩
     ·rintro⟨rfl|h1,h2⟩
      ·exact .inl rfl
      ·exact .inr ⟨h1,h2⟩
structure aaB (c:Nat→Cl) (ops:Array Oper) (B:List Nat) (M0:Mem) (S:Nat→DS) (k:Nat):Prop where
 kD:∀e m,(e,m)∈(S k).kD↔e<k∧∃v,c e =.kM v m
 sorted:(S k).kD.Pairwise (fun x y=>y.1<x.1)
 chain:(S k).chain=chainOf c M0 (fun _=>true) k
 eU:∀i ob,(i,ob)∈(S k).eU↔i<k∧(∃mk,c i =.alloc ob mk)∧∀e,e<k→i<e→(c e).eP=true→(B.getD e 0).testBit i=false
 reads:∀i o t v,(i,o,t,v)∈(S k).reads↔i<k∧ops.toList[i]? = some o∧c i =.read v∧t=(S i).t
 mask:∀j,(S k).mask.testBit j=true↔∃e,e<k∧(c e).eP=true∧(B.getD e 0).testBit j=true
theorem recs (R:KP E call ops B n N N0 M0 t0 S c):∀k,k≤ops.toList.length→aaB c ops B M0 S k:=by
 intro k
 induction k with
 | zero =>
   intro _
   refine⟨fun e m => ?_,?_,?_,fun i ob => ?_,fun i o t v => ?_,fun j => ?_⟩<;>rw[R.start]<;>simp[chainOf]
 | succ k ih =>
   intro hk
   have I:=ih (by omega)
   have ho:ops.toList[k]? = some (ops.toList[k]'(by omega)):=List.getElem?_eq_getElem (by omega)
   generalize ops.toList[k]'(by omega)=o at ho
   have hs:=R.step k o ho
   have lt:∀{e:Nat},e<k+1↔e<k∨e=k:=fun{e}=>by omega
   have J5:(c k).eP=false→∀{e m},((e<k+1∧∃v,c e =.kM v m)↔(e<k∧∃v,c e =.kM v m)):=by
    intro hne e m
    constructor
    ·rintro⟨h1,v,h2⟩
     rcases lt.1 h1 with h3|rfl
     ·exact⟨h3,v,h2⟩
     ·rw[h2]at hne;cases hne
    ·rintro⟨h1,h2⟩;exact⟨by omega,h2⟩
   have Dm:(c k).eP=false→(∀ob mk,c k ≠ .alloc ob mk)→∀{i ob},((i<k+1∧(∃mk,c i =.alloc ob mk)∧∀e,e<k+1→i<e→(c e).eP=true→(B.getD e 0).testBit i=false)↔(i<k∧(∃mk,c i =.alloc ob mk)∧∀e,e<k→i<e→(c e).eP=true→(B.getD e 0).testBit i=false)):=by
    intro hne hna i ob
    constructor
    ·rintro⟨h1,⟨mk,h2⟩,h3⟩
     rcases lt.1 h1 with h4|rfl
     ·exact⟨h4,⟨mk,h2⟩,fun e he=>h3 e (by omega)⟩
     ·exact absurd h2 (hna ob mk)
    ·rintro⟨h1,h2,h3⟩
     refine⟨by omega,h2,fun e he hie hef => ?_⟩
     rcases lt.1 he with h4|rfl
     ·exact h3 e h4 hie hef
     ·rw[hne]at hef;cases hef
   have Dl:(c k).eP=false→∀{j},((∃e,e<k+1∧(c e).eP=true∧(B.getD e 0).testBit j=true)↔(∃e,e<k∧(c e).eP=true∧(B.getD e 0).testBit j=true)):=by
    intro hne j
    constructor
    ·rintro⟨e,h1,h2,h3⟩
     rcases lt.1 h1 with h4|rfl
     ·exact⟨e,h4,h2,h3⟩
     ·rw[hne]at h2;cases h2
    ·rintro⟨e,h1,h2⟩;exact⟨e,by omega,h2⟩
   have Dk:(∀v,c k ≠ .read v)→∀{i o t v},((i<k+1∧ops.toList[i]? = some o∧c i =.read v∧t=(S i).t)↔(i<k∧ops.toList[i]? = some o∧c i =.read v∧t=(S i).t)):=by
    intro hnr i o t v
    constructor
    ·rintro⟨h1,h2,h3,h4⟩
     rcases lt.1 h1 with h5|rfl
     ·exact⟨h5,h2,h3,h4⟩
     ·exact absurd h3 (hnr v)
    ·rintro⟨h1,h2⟩;exact⟨by omega,h2⟩
   have Zg:(c k).eP=false→chainOf c M0 (fun _=>true) (k+1)=chainOf c M0 (fun _=>true) k:=by
    intro hne
    simp only[chainOf]
    split
    ·rename_i h2;rw[h2]at hne;cases hne
    ·rfl
   cases hc:c k with
   | skip =>
     have e1:(c k).eP=false:=by rw[hc];rfl
     rw[hc]at hs
     refine⟨fun e m => ?_,?_,?_,fun i ob => ?_,fun i o t v => ?_,fun j => ?_⟩<;>rw[hs]<;>simp only[oW]
     ·rw[J5 e1];exact I.kD e m
     ·exact I.sorted
     ·rw[Zg e1];exact I.chain
     ·rw[Dm e1 (fun ob mk=>by rw[hc];simp)];exact I.eU i ob
     ·rw[Dk (fun v=>by rw[hc];simp)];exact I.reads i o t v
     ·rw[Dl e1];exact I.mask j
   | pure v0 =>
     have e1:(c k).eP=false:=by rw[hc];rfl
     rw[hc]at hs
     refine⟨fun e m => ?_,?_,?_,fun i ob => ?_,fun i o t v => ?_,fun j => ?_⟩<;>rw[hs]<;>simp only[oW]
     ·rw[J5 e1];exact I.kD e m
     ·exact I.sorted
     ·rw[Zg e1];exact I.chain
     ·rw[Dm e1 (fun ob mk=>by rw[hc];simp)];exact I.eU i ob
     ·rw[Dk (fun v=>by rw[hc];simp)];exact I.reads i o t v
     ·rw[Dl e1];exact I.mask j
   | read v0 =>
     have e1:(c k).eP=false:=by rw[hc];rfl
     have hs':=hs
     rw[hc]at hs
     refine⟨fun e m => ?_,?_,?_,fun i ob => ?_,fun i p t v => ?_,fun j => ?_⟩<;>rw[hs]<;>simp only[oW]
     ·rw[J5 e1];exact I.kD e m
     ·exact I.sorted
     ·rw[Zg e1];exact I.chain
     ·rw[Dm e1 (fun ob mk=>by rw[hc];simp)];exact I.eU i ob
     ·rw[List.mem_cons,I.reads i p t v]
      constructor
      ·rintro(h|⟨h1,h2⟩)
       ·cases h;exact⟨by omega,ho,hc,rfl⟩
       ·exact⟨by omega,h2⟩
      ·rintro⟨h1,h2,h3,h4⟩
       rcases lt.1 h1 with h5|rfl
       ·exact .inr ⟨h5,h2,h3,h4⟩
       ·rw[ho]at h2;cases h2
        rw[hc]at h3;cases h3
        exact .inl (by rw[h4])
     ·rw[Dl e1];exact I.mask j
   | alloc ob0 oJ =>
     have e1:(c k).eP=false:=by rw[hc];rfl
     rw[hc]at hs
     refine⟨fun e m => ?_,?_,?_,fun i ob => ?_,fun i o t v => ?_,fun j => ?_⟩<;>rw[hs]<;>simp only[oW]
     ·rw[J5 e1];exact I.kD e m
     ·exact I.sorted
     ·rw[Zg e1];exact I.chain
     ·rw[List.mem_cons,I.eU i ob]
      constructor
      ·rintro(h|⟨h1,h2,h3⟩)
       ·cases h;exact⟨by omega,⟨oJ,hc⟩,fun e he hie=>by omega⟩
       ·refine⟨by omega,h2,fun e he hie hef => ?_⟩
        rcases lt.1 he with h4|rfl
        ·exact h3 e h4 hie hef
        ·rw[e1]at hef;cases hef
      ·rintro⟨h1,⟨mk,h2⟩,h3⟩
       rcases lt.1 h1 with h4|rfl
       ·exact .inr ⟨h4,⟨mk,h2⟩,fun e he=>h3 e (by omega)⟩
       ·rw[hc]at h2;cases h2;exact .inl rfl
     ·rw[Dk (fun v=>by rw[hc];simp)];exact I.reads i o t v
     ·rw[Dl e1];exact I.mask j
   | kM v0 m0 =>
     rw[hc]at hs
     refine⟨fun e m => ?_,?_,?_,fun i ob => ?_,fun i o t v => ?_,fun j => ?_⟩<;>rw[hs]<;>simp only[oW]
     ·rw[List.mem_cons,I.kD e m]
      constructor
      ·rintro(h|⟨h1,h2⟩)
       ·cases h;exact⟨by omega,v0,hc⟩
       ·exact⟨by omega,h2⟩
      ·rintro⟨h1,v,h2⟩
       rcases lt.1 h1 with h3|rfl
       ·exact .inr ⟨h3,v,h2⟩
       ·rw[hc]at h2;cases h2;exact .inl rfl
     ·rw[List.pairwise_cons]
      exact⟨fun x hx=>((I.kD x.1 x.2).1 hx).1,I.sorted⟩
     ·simp only[chainOf,hc]
     ·rw[Ag,I.eU i ob]
      constructor
      ·rintro⟨⟨h1,h2,h3⟩,h4⟩
       refine⟨by omega,h2,fun e he hie hef => ?_⟩
       rcases lt.1 he with h5|rfl
       ·exact h3 e h5 hie hef
       ·exact h4
      ·rintro⟨h1,⟨mk,h2⟩,h3⟩
       rcases lt.1 h1 with h4|rfl
       ·exact⟨⟨h4,⟨mk,h2⟩,fun e he=>h3 e (by omega)⟩,h3 k (by omega) h4 (by rw[hc];rfl)⟩
       ·rw[hc]at h2;cases h2
     ·rw[Dk (fun v=>by rw[hc];simp)];exact I.reads i o t v
     ·rw[Nat.testBit_or,Bool.or_eq_true,I.mask j]
      constructor
      ·rintro(⟨e,h1,h2⟩|h)
       ·exact⟨e,by omega,h2⟩
       ·exact⟨k,by omega,by rw[hc];rfl,h⟩
      ·rintro⟨e,h1,h2,h3⟩
       rcases lt.1 h1 with h4|rfl
       ·exact .inl ⟨e,h4,h2,h3⟩
       ·exact .inr h3
theorem En {b:Nat}:∀{l:List (Nat×Mem)},vS b l=true→∀x∈l,b.testBit x.1=true:=by
 intro l
 induction l with
 | nil=>intro _ x hx;cases hx
 | cons y l ih =>
   intro h x hx
   obtain⟨e,m⟩:=y
   simp only[vS]at h
   cases hb:Nat.testBit b e with
   | false=>rw[hb]at h;cases h
   | true =>
     rw[hb]at h
     cases hx with
     | head=>exact hb
     | tail _ hm=>exact ih h x hm
theorem oI {t:T fA} {i:Nat} (h:jF t i=true):∀o,t.get i=some o→o.live=false:=by
 intro o ho
 unfold jF at h
 rw[ho]at h
 cases o with
 | dead=>rfl
 | _=>cases h
theorem Bn {N0 mask:Nat} {t:T fA}:∀{n:Nat},qw N0 mask t n=true→∀j,j<n→mask.testBit j=true∨jF t (N0+j)=true:=by
 intro n
 induction n with
 | zero=>intro _ j hj;omega
 | succ n ih =>
   intro h j hj
   simp only[qw]at h
   have h1:cond (Nat.testBit mask n) true (jF t (N0+n))=true:=by
    cases hx:cond (Nat.testBit mask n) true (jF t (N0+n))with
    | true=>rfl
    | false=>rw[hx]at h;cases h
   rw[h1]at h
   rcases Nat.lt_or_ge j n with h2|h2
   ·exact ih h j h2
   ·obtain rfl:j=n:=by omega
    cases hb:Nat.testBit mask j with
    | true=>exact .inl rfl
    | false=>rw[hb]at h1;exact .inr h1
theorem xZ {b:Nat} {m:Mem}:∀{l:List (Nat×Oper×T Value×Value)},oV E b m l=true→∀x∈l,b.testBit x.1=true∨iX E x.2.1 x.2.2.1 x.2.2.2 m=true:=by
 intro l
 induction l with
 | nil=>intro _ x hx;cases hx
 | cons y l ih =>
   intro h x hx
   obtain⟨j,o,t,v⟩:=y
   simp only[oV]at h
   have h1:cond (Nat.testBit b j) true (iX E o t v m)=true:=by
    cases hx:cond (Nat.testBit b j) true (iX E o t v m)with
    | true=>rfl
    | false=>rw[hx]at h;cases h
   rw[h1]at h
   cases hx with
   | head =>
     cases hb:Nat.testBit b j with
     | true=>exact .inl (by first|exact hb|rfl)
     | false=>rw[hb]at h1;exact .inr h1
   | tail _ hm=>exact ih h x hm
theorem C9 {o:Oper} {t:T Value} {v:Value} {m:Mem} (h:iX E o t v m=true):jG E (ku t) o m=[.val v]:=by
 unfold iX at h
 split at h
 ·rename_i x hx
  rw[hx,(lu 30).1 x v h]
 ·cases h
theorem AB {M0:Mem} {o:Oper} {t:T Value} {v:Value} {b:Nat}:∀{l:List (Nat×Mem)},l.Pairwise (fun x y=>y.1<x.1)→lF E M0 o t v b l=true →
 (∀x∈l,(∀y∈l,x.1<y.1→b.testBit y.1=false)→iX E o t v x.2=true)∧((∀y∈l,b.testBit y.1=false)→iX E o t v M0=true):=by
 intro l
 induction l with
 | nil=>intro _ h;exact⟨fun x hx=>absurd hx (by simp),fun _=>h⟩
 | cons p l ih =>
   intro hs h
   obtain⟨e,m⟩:=p
   rw[List.pairwise_cons]at hs
   simp only[lF]at h
   cases h1:iX E o t v m with
   | false=>rw[h1]at h;cases h
   | true =>
     rw[h1]at h
     refine⟨fun x hx hy => ?_,fun hy => ?_⟩
     ·cases hx with
      | head=>exact h1
      | tail _ hm =>
        have hlt:=hs.1 x hm
        have hbe:=hy (e,m) (by simp) hlt
        simp only at hbe
        rw[hbe]at h
        exact(ih hs.2 h).1 x hm (fun y hy2=>hy y (by simp[hy2]))
     ·have hbe:=hy (e,m) (by simp)
      simp only at hbe
      rw[hbe]at h
      exact(ih hs.2 h).2 (fun y hy2=>hy y (by simp[hy2]))
end
end Go.AS
