import Derived.Test.YtlaogoehmndcjaaGreatDoorZ11
import Derived.Test.YtlaogoehmndcjaaGreatDoorZ02
set_option linter.unusedSectionVars false
set_option maxHeartbeats 1000000
set_option linter.unusedVariables false
set_option linter.unusedSimpArgs false
namespace Go.AS
open Go.RowKit
variable [bH]
variable {E:Env} {P:Program} {w0:World}
def Ex.out:Ex→Exit
 | .normal => .normal
 | .exit i => .exit i
 | .ret => .ret
def Marks (B:Nat) (σ:Sg) (m:Mem) (w:World) (ds:List Deferred):Prop :=
 B≤w.heap.size∧ds.Pairwise (fun a b=>a.target≠b.target)∧∀d∈ds,∃r,d={ target :=.collected r,args :=#[] }∧B≤r∧w.heap[r]? = some (.deferred (some []))∧¬dY σ m r
theorem Marks.nil {B:Nat} {σ:Sg} {m:Mem} {w:World} (h:B≤w.heap.size):Marks B σ m w []:=⟨h,.nil,fun d hd=>by cases hd⟩
theorem Marks.mono {B:Nat} {σ σ':Sg} {m m':Mem} {w w':World} {ds:List Deferred} (h:Marks B σ m w ds) (hf:FG σ m w σ' m' w'):Marks B σ' m' w' ds:=by
 refine⟨Nat.le_trans h.1 hf.size,h.2.1,fun d hd => ?_⟩
 obtain⟨r,h1,h2,h3,h4⟩:=h.2.2 d hd
 have hlt:r<w.heap.size:=(Array.getElem?_eq_some_iff.1 h3).1
 refine⟨r,h1,h2,(hf.frame r hlt h4).trans h3,fun hl => ?_⟩
 rcases hf.grow r hl with h5|h5
 ·exact h4 h5
 ·omega
def Pt (E:Env) (w0:World) (N B:Nat) (l:List (Ex×T Value×Mem)) (m:Mem) (σ:Sg) (w:World) (Q:Exit→Act→World→Prop):Prop :=
 ∀r∈l,∀σ' a' w',FG σ m w σ' r.2.2 w'→TR σ' N r.2.1 a'→MR E w0 σ' r.2.2 w'→Marks B σ' r.2.2 w' a'.defers→Q r.1.out a' w'
theorem L9 {α β:Type} (f:α→List β):jy [] f=[]:=by simp[jy]
theorem jw {α β:Type} {f:α→List β} {l:List α} (h:jy l f≠[]):l≠[]:=fun e=>by rw[e,L9]at h;exact h rfl
def Pv (E:Env) (P:Program) (w0:World) (N B:Nat) (rr:Option Nat) (ev:T Value→Mem→List (Ex×T Value×Mem)) (c:Code):Prop :=
 ∀n t m σ a w Q,ev t m≠[]→TR σ N t a→MR E w0 σ m w→Marks B σ m w a.defers→Pt E w0 N B (ev t m) m σ w Q→c.wpIn (WF rr) n P Q a w
def l7 (rr:Option Nat) (_:Nat) (P:Program) (c:Code) (Q:Exit→Act→World→Prop) (a:Act) (w:World):Prop :=
 ∀(b:Frame) (k:List Item) (cs:List Frame),b.roundOf=rr→∃e a' w',Q e a' w'∧ArrivesIn (Machine.fenced P (WF rr)) P (lone (b.atR a (.code c :: .inLoop c::k)) cs w) b k cs e a' w'
theorem JF {rr:Option Nat} (n:Nat):(WF rr).room n:=fun _ h=>by simp[WF,Fence.wide]at h
theorem l7.wp {rr:Option Nat} {n:Nat} {c:Code} {Q:Exit→Act→World→Prop} {a:Act} {w:World} (h:l7 rr n P c Q a w):(Code.loop c).wpIn (WF rr) n P Q a w:=fun b k cs hro hb hr=>by
 obtain⟨e,a',w',hq,harr⟩:=h b k cs hro
 exact⟨e,a',w',hq,.of_steps (.one (fenced_calm hb hr rfl) stepR_loop) harr⟩
theorem l7.round {rr:Option Nat} {n:Nat} {c:Code} {Q:Exit→Act→World→Prop} {a:Act} {w:World} (h:c.wpIn (WF rr) n P (Exit.then (l7 rr n P c Q) Q) a w):l7 rr n P c Q a w:=fun b k cs hro=>by
 obtain⟨e,a₁,w₁,hq,harr⟩:=h b (.inLoop c::k) cs hro trivial (JF _)
 cases e with
 | normal =>
   obtain⟨e₂,a₂,w₂,hq₂,harr₂⟩:=hq b k cs hro
   exact⟨e₂,a₂,w₂,hq₂,.of_steps (StepsIn.trans harr (.one (fenced_calm (n:=0) trivial (JF _) rfl) stepR_inLoop)) harr₂⟩
 | exit id=>exact⟨_,a₁,w₁,hq,.pass (x :=.inLoop c) rfl (fun _ _ => .inl (by simp)) harr⟩
 | goto l=>exact⟨_,a₁,w₁,hq,.pass (x :=.inLoop c) rfl (fun _ _ => .inl (by simp)) harr⟩
 | ret=>exact⟨_,a₁,w₁,hq,.pass (x :=.inLoop c) rfl (fun _ _ => .inl (by simp)) harr⟩
 | panic ch=>exact⟨_,a₁,w₁,hq,.pass (x :=.inLoop c) rfl (fun _ _ => .inl (by simp)) harr⟩
 | outgrown=>exact⟨_,a₁,w₁,hq,.pass (x :=.inLoop c) rfl (fun _ _ => .inl (by simp)) harr⟩
theorem FW {N B:Nat} {rr:Option Nat} {ev:T Value→Mem→List (Ex×T Value×Mem)} {c:Code} (hc:Pv E P w0 N B rr ev c) (fl:Nat):∀n t m σ a w Q,Af ev n t m≠[]→TR σ N t a→MR E w0 σ m w→Marks B σ m w a.defers→Pt E w0 N B (Af ev n t m) m σ w Q→l7 rr fl P c Q a w:=by
 intro n
 induction n with
 | zero=>intro t m σ a w Q hne;exact absurd rfl hne
 | succ n ih =>
   intro t m σ a w Q hne hT hM hK hQ
   refine l7.round ?_
   simp only[Af]at hne hQ
   have h0:=iV hne
   refine hc fl t m σ a w _ (jw hne) hT hM hK ?_
   rintro⟨e,t1,m1⟩ hr σ' a' w' hf hT' hM' hd
   obtain⟨h1,h2⟩:=h0 _ hr
   cases e with
   | normal =>
     exact ih t1 m1 σ' a' w' Q h1 hT' hM' hd (fun r hr' σ2 a2 w2 g1 g2 g3 g4=>hQ r (h2 r hr') σ2 a2 w2 (hf.trans g1) g2 g3 g4)
   | exit i=>exact hQ (.exit i,t1,m1) (h2 _ (List.mem_singleton.2 rfl)) σ' a' w' hf hT' hM' hd
   | ret=>exact hQ (.ret,t1,m1) (h2 _ (List.mem_singleton.2 rfl)) σ' a' w' hf hT' hM' hd
theorem Q5 {α:Type} {l r:List α} (h:both l r≠[]):l≠[]∧r≠[]∧(∀x∈l,x∈both l r)∧∀x∈r,x∈both l r:=by
 unfold both at h ⊢
 split at h
 ·exact⟨by simp,by simp,fun x hx=>List.mem_append_left _ hx,fun x hx=>List.mem_append_right _ hx⟩
 ·exact absurd rfl h
theorem MM {σ:Sg} {i:Nat} {v:Value} (h:VR σ (.complex .f32 30 i) v):v=bH.D i:=by
 cases h with
 | sym _=>rfl
 | refl h=>cases h
theorem MK {σ:Sg} {v:Value} (h:VR σ (.complex .f32 1 0) v):∃b,v =.bool b:=by
 cases h with
 | lG b=>exact⟨b,rfl⟩
 | refl h=>cases h
theorem run_getLoop {w:World} {l:Nat} {L:Loop} (h:w.heap[l]? = some (.loop L)):(Instr.getLoop l).run P w =.ok L w:=by
 simp only[Instr.getLoop,Sem.run_bind,fG (P:=P) h,Result.andThen_ok]
 rfl
theorem MR.aside {σ:Sg} {m:Mem} {w:World} (h:MR E w0 σ m w) (o:Obj):MR E w0 σ m (w.alloc o):=by
 refine⟨h.below.alloc o,h.t0,fun i p hi hp => ?_,h.inj,h.fresh⟩
 obtain⟨x,ob,hx,hB,eu,hor⟩:=h.obj i p hi hp
 exact⟨x,ob,hx,hB,(Below.heap_alloc w o x.b (Array.getElem?_eq_some_iff.1 eu).1).trans eu,hor⟩
theorem FG.aside (σ:Sg) (m:Mem) (w:World) (o:Obj):FG σ m w σ m (w.alloc o) :=
 ⟨Ext.refl σ,by simp,fun b hb _=>Below.heap_alloc w o b hb,fun _ h => .inl h,Nat.le_refl _,fun _ _=>rfl⟩
theorem MR.kill {σ:Sg} {m:Mem} {w:World} (h:MR E w0 σ m w) {i:Nat} {o:fA} (hr:m.t.get i=some o) (ho:o.live=true) {x:Inf} (hx:σ i=some x) (ob:Obj) :
 MR E w0 σ ⟨m.n,m.t.set i .dead⟩ { w with heap:=w.heap.setIfInBounds x.b ob }∧FG σ m w σ ⟨m.n,m.t.set i .dead⟩ { w with heap:=w.heap.setIfInBounds x.b ob }∧¬dY σ ⟨m.n,m.t.set i .dead⟩ x.b∧Mine E w0 x.b∧x.b<w.heap.size:=by
 obtain⟨y,ob0,hy,hB,Xk,_⟩:=h.obj i o hr ho
 obtain rfl:y=x:=by rw[hx]at hy;exact(Option.some.inj hy).symm
 have hlt:y.b<w.heap.size:=(Array.getElem?_eq_some_iff.1 Xk).1
 have hnl:¬dY σ ⟨m.n,m.t.set i .dead⟩ y.b:=by
  rintro⟨j,p,z,hj,hp,hz,hb⟩
  by_cases e:i=j
  ·subst e;rw[T.get_set_same]at hj;cases hj;cases hp
  ·rw[T.bC _ _ e]at hj
   exact e (h.inj i j o p y z hr ho hj hp hx hz hb.symm)
 have hoth:∀k,k≠y.b→(w.heap.setIfInBounds y.b ob)[k]? = w.heap[k]? := fun k hk=>by simp[Ne.symm hk]
 refine⟨(h.drop i).uS hB hnl (by simp) hoth rfl rfl rfl,⟨Ext.refl σ,by simp,fun b _ hl=>hoth b (fun e=>hl ⟨i,o,y,hr,ho,hx,e.symm⟩),fun b hb => .inl hb.dead,Nat.le_refl _,fun _ _=>rfl⟩,hnl,hB,hlt⟩
theorem CU {g:Value} {i:Nat} {f:FuncId} {args:List Value} (h:CV E g i=some (f,args)):∃first cap fn,g =.func (.func f) first cap∧E.funcs.get f=some fn∧args=first.toList++[uq i]++cap.toList:=by
 unfold CV at h
 split at h
 ·split at h
  ·rename_i fn hfn;cases h;exact⟨_,_,fn,rfl,hfn,rfl⟩
  ·cases h
 ·cases h
theorem IQ (hE:jO E P) {call:gM} (hcall:nk E P w0 call) {N B n:Nat} {g:Operand} {ps:Array Tmp} {assign body:Code} {t:T Value} {m:Mem} {σ:Sg} {a:Act} {w:World} {Q:Exit→Act→World→Prop}
 (hne:yL E call N g ps assign body t m≠[]) (hT:TR σ N t a) (hM:MR E w0 σ m w) (hK:Marks B σ m w a.defers) (hQ:Pt E w0 N B (yL E call N g ps assign body t m) m σ w Q):(Code.rangeFunc g ps assign body).wpIn (WF none) n P Q a w:=by
 unfold yL at hne hQ
 split at hne
 ·rename_i f args hsc
  simp only[hsc]at hQ
  obtain⟨first,cap,fn,hg,hfn,rfl⟩:=CU hsc
  obtain⟨hP,hname,bd,hbd⟩:=hE.funcs f fn hfn
  have hv:=qz hT g
  rw[hg]at hv
  obtain⟨first',cap',hv',nL,hcap⟩:=hv.kr
  have hM1:=hM.aside (.deferred (some []))
  have hF1:=FG.aside σ m w (.deferred (some []))
  obtain⟨w1,hw1⟩:∃w1,w.alloc (.deferred (some []))=w1:=⟨_,rfl⟩
  rw[hw1]at hM1 hF1
  have hs1:w1.heap.size=w.heap.size+1:=by rw[←hw1];simp
  refine wpIn_rangeFunc (fun fn0 _ => ?_)
  let L:Loop:={ state :=.ready,pending:=none,fn:=fn0,tmps:=a.tmps,params:=ps,assign,body,defers:=w.heap.size }
  have hor:OR E σ ⟨w1.heap.size,0,0,0,.nilFunc⟩ (.loop t N ps assign body) (.loop L):=⟨rfl,rfl,rfl,rfl,rfl,hT.size,hT.val⟩
  obtain⟨hM2,hF2⟩:=hM1.new (id:=m.n) (hM.fresh m.n (Nat.le_refl _)) (n':=m.n+1) (by omega) (by omega) (x:=⟨w1.heap.size,0,0,0,.nilFunc⟩) rfl hor
  have hF2:=hF2 (Nat.le_refl _)
  obtain⟨σ2,WZ⟩:∃σ2:Sg,(fun j=>if j=m.n then some (⟨w1.heap.size,0,0,0,.nilFunc⟩:Inf)else σ j)=σ2:=⟨_,rfl⟩
  rw[WZ]at hM2 hF2
  have hx2:σ2 m.n=some ⟨w1.heap.size,0,0,0,.nilFunc⟩:=by rw[←WZ];simp
  obtain⟨w2,hw2⟩:∃w2,w1.alloc (.loop L)=w2:=⟨_,rfl⟩
  rw[hw2]at hM2 hF2
  have hb:¬fn.body=none:=by rw[hbd];simp
  have hnm:¬fn.name = "runtime.NumGoroutine" := by simpa using hname
  refine⟨w1.heap.size,[{ target :=.collected w.heap.size,args :=#[] }],w2,{ target :=.fn (.func f) cap',args:=first' ++ #[.func (.yield w1.heap.size) #[] #[]] },w2,f,(first' ++ #[.func (.yield w1.heap.size) #[] #[]])++cap',w2,?_,?_,fun _ _=>trivial,?_,AV _,Cv ?_⟩
  ·show(Instr.enterLoop fn0 a.tmps ps assign body none).run P w=_
   rw[←hw2,←hw1]
   simp[Instr.enterLoop,L]
  ·simp[resolve,hv',Deferred.ofValue]
   rfl
  ·simp[invoke,callFunc,hP,hnm,hb]
  ·have hargs:cZ σ2 (first.toList++[uq m.n]++cap.toList) ((first' ++ #[Value.func (.yield w1.heap.size) #[] #[]])++cap').toList:=by
    simp only[Array.toList_append]
    have he:=hF1.ext.trans hF2.ext
    exact((nL.mono he).append (cZ.cons (.uq hx2) (cZ.nil σ2))).append (hcap.mono he)
   refine(hcall.fn f _ _ (jw hne) σ2 w2 _ hargs hM2).mono ?_
   rintro e w3 ⟨q,hq,σ3,v3,rfl,Zd,_,Zb⟩
   obtain⟨h1,h2⟩:=iV hne q hq
   unfold Yj at h1 h2
   split at h1
   ·rename_i t3 N3 ps3 as3 bd3 hi3
    simp only[hi3]at h2
    have hx3:σ3 m.n=some ⟨w1.heap.size,0,0,0,.nilFunc⟩:=Zd.ext _ _ hx2
    obtain⟨ob,eu,Xh,hlt⟩:=Zb.iter hi3 rfl hx3
    cases ob with
    | loop L3 =>
      obtain⟨s1,s2,_⟩:=Xh
      have hg3:=fG (P:=P) eu
      obtain⟨hM4,hF4,_,_,_⟩:=Zb.kill hi3 rfl hx3 (.loop { L3 with state :=.exhausted })
      show ∃jump w4,(Instr.endLoop w1.heap.size).run P w3 =.ok jump w4∧_
      refine⟨none,{ w3 with heap:=w3.heap.setIfInBounds w1.heap.size (.loop { L3 with state :=.exhausted }) },?_,?_⟩
      ·have hst:(LoopState.ready==LoopState.busy)=false:=rfl
       simp only[Instr.endLoop,Sem.run_bind,run_getLoop (P:=P) eu,Result.andThen_ok,s1,hst,Bool.false_eq_true,if_false,jQ (P:=P) eu (by intro a b c e;cases e),s2]
       rfl
      ·refine hQ (.normal,t,_) (h2 _ (List.mem_singleton.2 rfl)) σ3 _ _ (((hF1.trans hF2).trans Zd).trans hF4) ?_ hM4 ?_
       ·exact⟨hT.size,fun i=>(hT.val i).mono (((hF1.trans hF2).trans Zd).ext)⟩
       ·refine Marks.mono ?_ (Zd.trans hF4)
        have hK2:=hK.mono (hF1.trans hF2)
        refine⟨hK2.1,?_,?_⟩
        ·show List.Pairwise _ (_::a.defers)
         refine List.pairwise_cons.2 ⟨fun d hd => ?_,hK2.2.1⟩
         obtain⟨r,rfl,_,hr,_⟩:=hK.2.2 d hd
         have:=(Array.getElem?_eq_some_iff.1 hr).1
         intro e
         have e2:w.heap.size=r:=by simpa using e
         omega
        ·intro d hd
         rcases List.mem_cons.1 hd with rfl|hd
         ·refine⟨w.heap.size,rfl,hK.1,?_,fun hl => ?_⟩
          ·rw[←hw2,Below.heap_alloc w1 _ _ (by omega),←hw1];exact heap_alloc_last w _
          ·rcases hF2.grow _ hl with h5|h5
           ·obtain⟨j,o,z,hj,ho,hz,hb⟩:=h5
            obtain⟨z',oz,hz',_,Mv,_⟩:=hM.obj j o hj ho
            obtain rfl:z'=z:=by rw[hz]at hz';exact(Option.some.inj hz').symm
            have:=(Array.getElem?_eq_some_iff.1 Mv).1
            omega
           ·omega
         ·exact hK2.2.2 d hd
    | _=>exact Xh.elim
   ·exact absurd rfl h1
 ·exact absurd rfl hne
theorem wI (hE:jO E P) (hP:P.follows .mixedOrders=true) {call:gM} (hcall:nk E P w0 call) (rd:Bool) {rr:Option Nat} (hrd:rd=false→rr=none) (N B fuel:Nat):∀c,Pv E P w0 N B rr (fP E call rd N fuel c) c:=by
 intro c
 induction c with
 | skip=>intro n t m σ a w Q _ hT hM hK hQ;exact wpIn_skip (hQ (.normal,t,m) (List.mem_singleton.2 rfl) σ a w (FG.refl σ m w) hT hM hK)
 | region id ops d =>
   intro n t m σ a w Q hne hT hM hK hQ
   simp only[fP]at hne hQ
   have h0:=iV hne
   have h1:=jw hne
   cases d with
   | true=>exact LG hE hP hcall h1 hT hM (fun r hr σ' a' w' g1 g2 g3 g4=>hQ (.normal,r.1,r.2) ((h0 r hr).2 _ (List.mem_singleton.2 rfl)) σ' a' w' g1 g2 g3 (g4▸hK.mono g1))
   | false =>
     refine wpIn_region ?_
     rw[List.range_eq_range',←Array.length_toList]
     exact Oz hE hcall ops.toList 0 rfl t m σ a w h1 hT hM (fun r hr σ' a' w' g1 g2 g3 g4=>hQ (.normal,r.1,r.2) ((h0 r hr).2 _ (List.mem_singleton.2 rfl)) σ' a' w' g1 g2 g3 (g4▸hK.mono g1))
 | seq x y ihx WY =>
   intro n t m σ a w Q hne hT hM hK hQ
   simp only[fP]at hne hQ
   have h0:=iV hne
   refine wpIn_seq (ihx n t m σ a w _ (jw hne) hT hM hK ?_)
   rintro⟨e,t1,m1⟩ hr σ' a' w' hf hT' hM' hd
   obtain⟨h1,h2⟩:=h0 _ hr
   cases e with
   | normal=>exact WY n t1 m1 σ' a' w' Q h1 hT' hM' hd (fun r hr' σ2 a2 w2 g1 g2 g3 g4=>hQ r (h2 r hr') σ2 a2 w2 (hf.trans g1) g2 g3 g4)
   | exit i=>exact hQ (.exit i,t1,m1) (h2 _ (List.mem_singleton.2 rfl)) σ' a' w' hf hT' hM' hd
   | ret=>exact hQ (.ret,t1,m1) (h2 _ (List.mem_singleton.2 rfl)) σ' a' w' hf hT' hM' hd
 | cond x y z WY ZJ =>
   intro n t m σ a w Q hne hT hM hK hQ
   have hv:=qz hT x
   simp only[fP]at hne hQ
   split at hne
   ·rename_i hx;rw[hx]at hv hQ
    exact wpIn_cond_true (hv.aB rfl) (WY n t m σ a w Q hne hT hM hK hQ)
   ·rename_i hx;rw[hx]at hv hQ
    exact wpIn_cond_false (hv.aB rfl) (ZJ n t m σ a w Q hne hT hM hK hQ)
   ·rename_i hx;rw[hx]at hv hQ
    obtain⟨b,hb⟩:=MK hv
    obtain⟨h1,h2,h3,h4⟩:=Q5 hne
    cases b with
    | true=>exact wpIn_cond_true hb (WY n t m σ a w Q h1 hT hM hK (fun r hr=>hQ r (h3 r hr)))
    | false=>exact wpIn_cond_false hb (ZJ n t m σ a w Q h2 hT hM hK (fun r hr=>hQ r (h4 r hr)))
   ·rename_i i hx;rw[hx]at hv hQ
    have hvv:=MM hv
    simp only at hQ
    split at hne
    ·rename_i hf
     rw[hf]at hQ
     exact wpIn_cond_true (hvv.trans (hE.conds i true hf)) (WY n t m σ a w Q hne hT hM hK hQ)
    ·rename_i hf
     rw[hf]at hQ
     exact wpIn_cond_false (hvv.trans (hE.conds i false hf)) (ZJ n t m σ a w Q hne hT hM hK hQ)
    ·exact absurd rfl hne
   ·exact absurd rfl hne
 | block id y ih =>
   intro n t m σ a w Q hne hT hM hK hQ
   simp only[fP]at hne hQ
   have h0:=iV hne
   refine wpIn_block (ih n t m σ a w _ (jw hne) hT hM hK ?_)
   rintro⟨e,t1,m1⟩ hr σ' a' w' hf hT' hM' hd
   obtain⟨h1,h2⟩:=h0 _ hr
   cases e with
   | normal=>exact hQ (.normal,t1,m1) (h2 _ (List.mem_singleton.2 rfl)) σ' a' w' hf hT' hM' hd
   | exit i =>
     have:=hQ _ (h2 _ (List.mem_singleton.2 rfl)) σ' a' w' hf hT' hM' hd
     simp only[Ex.out,Exit.inBlock]
     by_cases e:i=id
     ·rw[if_pos e]
      have hb:Nat.beq id i=true:=by subst e;exact Nat.beq_refl _
      simp only[hb,cond]at this
      exact this
     ·rw[if_neg e]
      have hb:Nat.beq id i=false:=by
       cases h:Nat.beq id i with
       | false=>rfl
       | true=>exact absurd (Nat.eq_of_beq_eq_true h).symm e
      simp only[hb,cond]at this
      exact this
   | ret=>exact hQ (.ret,t1,m1) (h2 _ (List.mem_singleton.2 rfl)) σ' a' w' hf hT' hM' hd
 | loop y ih =>
   intro n t m σ a w Q hne hT hM hK hQ
   simp only[fP]at hne hQ
   exact(FW ih n fuel t m σ a w Q hne hT hM hK hQ).wp
 | exit id=>intro n t m σ a w Q _ hT hM hK hQ;exact wpIn_exit (hQ (.exit id,t,m) (List.mem_singleton.2 rfl) σ a w (FG.refl σ m w) hT hM hK)
 | ret=>intro n t m σ a w Q _ hT hM hK hQ;exact wpIn_ret (hQ (.ret,t,m) (List.mem_singleton.2 rfl) σ a w (FG.refl σ m w) hT hM hK)
 | rangeFunc g ps as bd _ _ =>
   intro n t m σ a w Q hne hT hM hK hQ
   simp only[fP]at hne hQ
   split at hne
   ·obtain rfl:=hrd rfl
    exact IQ hE hcall hne hT hM hK hQ
   ·exact absurd rfl hne
 | _=>intro n t m σ a w Q hne;exact absurd rfl hne
theorem zi (hE:jO E P) {N:Nat} {t:T Value} {m:Mem} {σ:Sg} {a:Act} {w:World} (hT:TR σ N t a) (hM:MR E w0 σ m w):∀l vs,iA E t m l=some vs →
 ∃vs',(l.mapM (fun | .tmp t=>pure (a.tmps.getD t undef) | .cell x t=>do loadVar t (←asAddr (a.tmps.getD x undef)):ResultVar→Sem Value)).run P w =.ok vs' w∧cZ σ vs vs':=by
 intro l
 induction l with
 | nil=>intro vs h;simp only[iA]at h;cases h;exact⟨[],rfl,cZ.nil σ⟩
 | cons r l ih =>
   intro vs h
   cases r with
   | tmp i =>
     simp only[iA]at h
     split at h
     ·rename_i v rs hv hrs
      cases h
      obtain⟨vs',h1,h2⟩:=ih _ hrs
      have:=hT.val i
      simp only[tv,hv]at this
      refine⟨a.tmps.getD i undef::vs',?_,cZ.cons this h2⟩
      simp only[List.mapM_cons,Sem.run_bind,Sem.run_pure,Result.andThen_ok,h1]
     ·cases h
   | cell x ty =>
     simp only[iA]at h
     split at h
     ·rename_i p hp
      split at h
      ·rename_i v rs hv hrs
       cases h
       obtain⟨vs',h1,h2⟩:=ih _ hrs
       have hx:=hT.val x
       simp only[tv,hp]at hx
       obtain⟨v',g1,g2⟩:=vg hE hM hv hx
       refine⟨v'::vs',?_,cZ.cons g2 h2⟩
       simp only[List.mapM_cons]
       generalize a.tmps.getD x undef=p' at hx g1 ⊢
       cases hx with
       | ptr hσ =>
         simp only[Instr.loadAt,Instr.sureAddr,Sem.run_bind,Sem.run_pure,Result.andThen_ok]at g1
         have hA:∀q,asAddr (.pointer (some q))=pure q:=fun _=>rfl
         simp only[hA,Sem.run_bind,Sem.run_pure,Result.andThen_ok,g1,h1]
       | refl h=>simp[simple]at h
      ·cases h
     ·cases h
theorem CK {σ:Sg} {l l':List Value} (h:cZ σ l l'):VR σ (oC l) (oC l'):=by
 have key:∀{l l':List Value},cZ σ l l'→VR σ (.tuple l.toArray) (.tuple l'.toArray):=fun h => .ig (by simpa using h)
 match l,l',h with
 | [],[],h=>exact key h
 | [x],[y],h=>exact h.head
 | x::x2::l,y::y2::l',h=>exact key h
 | [],_::_,h=>exact absurd h.1 (by simp)
 | _::_,[],h=>exact absurd h.1 (by simp)
 | [_],_::_::_,h=>exact absurd h.1 (by simp)
 | _::_::_,[_],h=>exact absurd h.1 (by simp)
theorem Bf (hE:jO E P) {N:Nat} {t:T Value} {m:Mem} {σ:Sg} {a:Act} {w:World} (hT:TR σ N t a) (hM:MR E w0 σ m w) {fn:Func} {vs:List Value} (h:iA E t m fn.results.toList=some vs) :
 ∃v',(results fn a.tmps).run P w =.ok v' w∧VR σ (oC vs) v':=by
 obtain⟨vs',h1,h2⟩:=zi hE hT hM _ _ h
 refine⟨oC vs',?_,CK h2⟩
 unfold results
 rw[Array.mapM_eq_mapM_toList]
 simp only[Sem.run_bind,Sem.run_map]
 erw [h1]
 simp only[Result.andThen_ok,Sem.run_pure]
 match vs' with
 | []=>rfl
 | [_]=>rfl
 | _::_::_=>rfl
def KO (E:Env) (P:Program) (w0:World) (S:qM):Prop :=
 ∀f args m l,S f args m=some l→l≠[]→∀(σ:Sg) (w:World) (args':Array Value),cZ σ args args'.toList→MR E w0 σ m w→Calls P f args' w (After E w0 σ m w l)
theorem TR.enter {σ:Sg} {N:Nat} {args:List Value} {args':Array Value} (hargs:cZ σ args args'.toList) (hle:args.length≤N):TR σ N (T.ofList args) { tmps:=args'++Array.replicate (N-args'.size) undef,defers:=[] }:=by
 refine⟨?_,?_⟩
 ·have:=hargs.1
  simp at this ⊢
  omega
 ·intro i
  simp only[tv,T.gG]
  have hl:=hargs.1
  have hl':args.length=args'.size:=by simpa using hl
  rcases Nat.lt_or_ge i args.length with h|h
  ·have hv:=hargs.2 i h
   simp only[List.getElem?_eq_getElem h]
   have e1:args.getD i und=args[i]:=by simp[List.getD,List.getElem?_eq_getElem h]
   have h':i<args'.size:=by omega
   have e2:(args'++Array.replicate (N-args'.size) undef).getD i undef=args'.toList.getD i und:=by
    have h3:(args'++Array.replicate (N-args'.size) undef)[i]? = args'[i]? := Array.getElem?_append_left h'
    simp only[Array.getD_eq_getD_getElem?,h3]
    simp[h']
   rw[e2,←e1];exact hv
  ·rw[List.getElem?_eq_none h]
   have e2:(args'++Array.replicate (N-args'.size) undef).getD i undef=undef:=by
    simp only[Array.getD_eq_getD_getElem?]
    rw[Array.getElem?_append_right (by omega),Array.getElem?_replicate]
    split<;>rfl
   rw[e2];exact VR.undef σ
theorem DC {F:Fence} {n:Nat} {fn:Func} {tmps:Array Value} {R:Ending→World→Prop} {B:Nat} {σ:Sg} {m:Mem}:∀(ds:List Deferred) (w:World),MR E w0 σ m w→Marks B σ m w ds→w0.heap.size≤B →
 (∀w',MR E w0 σ m w'→w.heap.size=w'.heap.size→(∀b,b<w.heap.size→(B≤b→dY σ m b)→w'.heap[b]? = w.heap[b]?)→LeavesInM F n P fn tmps R [] .returning w')→LeavesInM F n P fn tmps R ds .returning w:=by
 intro ds
 induction ds with
 | nil=>intro w hM _ _ h;exact h w hM rfl (fun _ _ _=>rfl)
 | cons d ds ih =>
   intro w hM hK hB h
   obtain⟨r,rfl,h1,h2,h3⟩:=hK.2.2 d (List.mem_cons_self ..)
   obtain⟨hp1,hp2⟩:=List.pairwise_cons.1 hK.2.1
   have hlt:r<w.heap.size:=(Array.getElem?_eq_some_iff.1 h2).1
   have hoth:∀k,k≠r→(w.heap.setIfInBounds r (.deferred none))[k]? = w.heap[k]? := fun k hk=>by simp[Ne.symm hk]
   have hM':MR E w0 σ m { w with heap:=w.heap.setIfInBounds r (.deferred none) }:=hM.uS (.inl (Nat.le_trans hB h1)) h3 (by simp) hoth rfl rfl rfl
   refine⟨by simp,.inl ⟨r,{ w with heap:=w.heap.setIfInBounds r (.deferred none) },rfl,?_,?_⟩⟩
   ·simp only[Instr.takeDeferred,Sem.run_bind,fG (P:=P) h2,Result.andThen_ok,jQ (P:=P) h2 (by intro a b c e;cases e)]
    rfl
   ·refine ih _ hM' ⟨by simpa using hK.1,hp2,fun d hd => ?_⟩ hB ?_
    ·obtain⟨r',rfl,g1,g2,g3⟩:=hK.2.2 d (List.mem_cons_of_mem _ hd)
     have hne:r'≠r:=fun e=>hp1 _ hd (by rw[e])
     exact⟨r',rfl,g1,(hoth r' hne).trans g2,g3⟩
    ·intro w' g1 g2 g3
     refine h w' g1 (by simpa using g2) (fun b hb hl => ?_)
     have hbr:b≠r:=fun e=>h3 (by have:=hl (by omega);rwa [e]at this)
     rw[g3 b (by simpa using hb) hl]
     exact hoth b hbr
theorem QT (hE:jO E P) (hP:P.follows .mixedOrders=true) {call:gM} (hcall:nk E P w0 call) {fuel:Nat} {f:FuncId} {args:List Value} {m:Mem} (hne:LF E call fuel f args m≠[]) {σ:Sg} {w:World} {args':Array Value} (hargs:cZ σ args args'.toList) (hM:MR E w0 σ m w) :
 Calls P f args' w (After E w0 σ m w (LF E call fuel f args m)):=by
 generalize hL:LF E call fuel f args m=L at hne ⊢
 unfold LF at hL
 split at hL
 ·exact absurd hL.symm hne
 ·rename_i fn hfn
  obtain⟨hf,_,_⟩:=hE.funcs f fn hfn
  split at hL
  ·exact absurd hL.symm hne
  ·rename_i c hb
   split at hL
   ·exact absurd hL.symm hne
   ·rename_i hle
    have hle':args.length≤fn.ntmps:=Nat.le_of_ble_eq_true hle
    subst hL
    have h0:=iV hne
    refine Jd (r:=none) (n:=0) (callsIn_of_wp_marks hf hb trivial (wI hE hP hcall false (fun _=>rfl) fn.ntmps w.heap.size fuel c 0 _ m σ _ w _ (jw hne) (TR.enter hargs hle') hM (Marks.nil (Nat.le_refl _)) ?_))
    rintro⟨e,t1,m1⟩ hr σ' a' w' hf' hT' hM' hd
    obtain⟨h1,h2⟩:=h0 _ hr
    have out:∀vs,iA E t1 m1 fn.results.toList=some vs→(oC vs,m1)∈jy (fP E call false fn.ntmps fuel c (T.ofList args) m) (fun
     | (.exit _,_,_)=>[]
     | (_,t,m)=>match iA E t m fn.results.toList with
       | some l=>[(oC l,m)]
       | none=>[])→LeavesInM (WF none) 0 P fn a'.tmps (After E w0 σ m w (jy (fP E call false fn.ntmps fuel c (T.ofList args) m) (fun
     | (.exit _,_,_)=>[]
     | (_,t,m)=>match iA E t m fn.results.toList with
       | some l=>[(oC l,m)]
       | none=>[]))) a'.defers .returning w':=by
     intro vs hvs hmem
     refine DC a'.defers w' hM' hd hM.below.size (fun w'' g1 g2 g3 => ?_)
     obtain⟨v',k1,k2⟩:=Bf hE hT' g1 hvs
     refine⟨v',k1,(oC vs,m1),hmem,σ',v',rfl,⟨hf'.ext,by have:=hf'.size;omega,fun b hb hl => ?_,hf'.grow,hf'.n,hf'.old⟩,k2,g1⟩
     rw[g3 b (by have:=hf'.size;omega) (fun hB=>by omega)]
     exact hf'.frame b hb hl
    cases e with
    | exit i=>exact absurd rfl h1
    | normal =>
      simp only at h1 h2
      split at h1
      ·rename_i vs hvs
       simp only[hvs]at h2
       exact out vs hvs (h2 _ (List.mem_singleton.2 rfl))
      ·exact absurd rfl h1
    | ret =>
      simp only at h1 h2
      split at h1
      ·rename_i vs hvs
       simp only[hvs]at h2
       exact out vs hvs (h2 _ (List.mem_singleton.2 rfl))
      ·exact absurd rfl h1
theorem MZ {σ:Sg} {N:Nat}:∀{ps:List Tmp} {args args':List Value} {t:T Value} {tmps:Array Value},cZ σ args args'→TR σ N t { tmps:=tmps,defers:=[] } →
 TR σ N (EM N t ps args) { tmps:=(ps.zip args').foldl (fun tmps (t,a)=>tmps.setIfInBounds t a) tmps,defers:=[] }:=by
 intro ps
 induction ps with
 | nil=>intro args args' t tmps _ h;exact h
 | cons p ps ih =>
   intro args args' t tmps hv h
   cases args with
   | nil =>
     obtain rfl:args'=[]:=List.eq_nil_of_length_eq_zero hv.1.symm
     exact h
   | cons v args =>
     cases args' with
     | nil=>exact absurd hv.1 (by simp)
     | cons v' args' =>
       simp only[EM,List.zip_cons_cons,List.foldl_cons]
       exact ih hv.tail (h.put (some p) hv.head)
theorem IP (hE:jO E P) (hP:P.follows .mixedOrders=true) {call:gM} (hcall:nk E P w0 call) {fuel i:Nat} {args:List Value} {m:Mem} (hne:vH E call fuel i args m≠[]) {σ:Sg} {w:World} {args':Array Value} {x:Inf} (hx:σ i=some x) (hargs:cZ σ args args'.toList) (hM:MR E w0 σ m w) :
 ∃f tmps as body,(Instr.yield x.b args').run P w =.ok (.round x.b f tmps as body) w∧∀r n,RoundIn (WF r) n P x.b f tmps as body w (After E w0 σ m w (vH E call fuel i args m)):=by
 generalize hL:vH E call fuel i args m=R at hne ⊢
 unfold vH at hL
 split at hL
 ·rename_i t N ps assign body hi
  split at hL
  ·rename_i hlen
   have hlen':args.length=ps.size:=Nat.eq_of_beq_eq_true hlen
   subst hL
   obtain⟨ob,eu,hor,hlt⟩:=hM.iter hi rfl hx
   cases ob with
   | loop L =>
     obtain⟨s1,s2,rfl,rfl,rfl,s6,s7⟩:=hor
     have hg:=fG (P:=P) eu
     have hsz:args'.size=L.params.size:=by have:=hargs.1;simp at this;omega
     refine⟨L.fn,(L.params.zip args').foldl (fun tmps (t,a)=>tmps.setIfInBounds t a) L.tmps,L.assign,L.body,?_,fun r n=>roundIn_of_wpIn trivial ?_⟩
     ·simp only[Instr.yield,Sem.run_bind,run_getLoop (P:=P) eu,Result.andThen_ok,hsz,ne_eq,not_true_eq_false,if_false]
      rfl
     ·rw[Pn]
      have h0:=iV hne
      have hT0:TR σ N (EM N t L.params.toList args) { tmps:=(L.params.zip args').foldl (fun tmps (t,a)=>tmps.setIfInBounds t a) L.tmps,defers:=[] }:=by
       have:=MZ (ps:=L.params.toList) (N:=N) hargs (t:=t) (tmps:=L.tmps) ⟨s6,s7⟩
       rw[←Array.foldl_toList,Array.toList_zip]
       exact this
      refine wI hE hP hcall true (rr:=some x.b) (fun e=>by cases e) N 0 fuel L.assign n _ m σ _ w _ (jw hne) hT0 hM (Marks.nil (Nat.zero_le _)) ?_
      rintro⟨e1,t1,m1⟩ hr1 σ1 a1 w1 hf1 hT1 hM1 hK1
      obtain⟨h1,h2⟩:=h0 _ hr1
      unfold EP at h1 h2
      cases e1 with
      | exit _=>exact absurd rfl h1
      | ret=>exact absurd rfl h1
      | normal =>
        simp only at h1 h2
        split at h1
        ·rename_i t2 N2 ps2 as2 YL hi1
         simp only[hi1]at h2
         have hx1:σ1 i=some x:=hf1.ext _ _ hx
         obtain⟨ob1,NZ,TL,hlt1⟩:=hM1.iter hi1 rfl hx1
         cases ob1 with
         | loop L1 =>
           have aa4:=TL
           obtain⟨q1,q2,q3,q4,q5,q6,q7⟩:=TL
           have hg1:=fG (P:=P) NZ
           obtain⟨hM2,hF2,hnl,hB,_⟩:=hM1.kill hi1 rfl hx1 (.loop { L1 with state :=.busy })
           obtain⟨w2,hw2⟩:∃w2:World,{ w1 with heap:=w1.heap.setIfInBounds x.b (.loop { L1 with state :=.busy }) }=w2:=⟨_,rfl⟩
           have acA:w2.heap.size=w1.heap.size:=by rw[←hw2];simp
           have ZY:w2.heap[x.b]? = some (.loop { L1 with state :=.busy }):=by rw[←hw2];simp[hlt1]
           refine⟨w2,?_,?_⟩
           ·simp only[Instr.beginRound,Sem.run_bind,run_getLoop (P:=P) NZ,Result.andThen_ok,jQ (P:=P) NZ (by intro a b c e;cases e),q1,hw2]
            rfl
           ·rw[hw2]at hM2 hF2
            have h3:=iV h1
            refine wI hE hP hcall true (rr:=some x.b) (fun e=>by cases e) N 0 fuel L.body n _ _ σ1 _ w2 _ (jw h1) hT1 hM2 (hK1.mono hF2) ?_
            rintro⟨e2,t3,m2⟩ hr2 σ2 a2 w3 hf2 nO Zb _
            obtain⟨h4,h5⟩:=h3 _ hr2
            unfold roundEnd at h4 h5
            cases e2 with
            | exit _=>exact absurd rfl h4
            | ret=>exact absurd rfl h4
            | normal =>
              simp only at h5
              have hx2:σ2 i=some x:=hf2.ext _ _ hx1
              have TN:w3.heap[x.b]? = some (.loop { L1 with state :=.busy }):=(hf2.frame x.b (by omega) hnl).trans ZY
              have hlt3:x.b<w3.heap.size:=(Array.getElem?_eq_some_iff.1 TN).1
              have Xl:¬dY σ2 m2 x.b:=fun hl=>by
               rcases hf2.grow _ hl with h6|h6
               ·exact hnl h6
               ·omega
              obtain⟨w4,hw4⟩:∃w4:World,{ w3 with heap:=w3.heap.setIfInBounds x.b (.loop { L1 with state :=.ready,pending:=none }) }=w4:=⟨_,rfl⟩
              have hoth:∀k,k≠x.b→w4.heap[k]? = w3.heap[k]? := fun k hk=>by rw[←hw4];simp[Ne.symm hk]
              have ZN:w4.heap.size=w3.heap.size:=by rw[←hw4];simp
              refine⟨.bool true,w4,?_,?_⟩
              ·simp only[Instr.endRound,Sem.run_bind,run_getLoop (P:=P) TN,Result.andThen_ok,jQ (P:=P) TN (by intro a b c e;cases e)]
               rw[←hw4]
               rfl
              ·have hM4:MR E w0 σ2 m2 w4:=Zb.uS hB Xl ZN hoth (by rw[←hw4]) (by rw[←hw4]) (by rw[←hw4])
               have ZX:OR E σ2 x (.loop t2 N2 ps2 as2 YL) (.loop { L1 with state :=.ready,pending:=none }):=⟨rfl,rfl,q3,q4,q5,q6,fun j=>(q7 j).mono hf2.ext⟩
               have hM5:=hM4.JJ hx2 hB Xl (ob :=.loop { L1 with state :=.ready,pending:=none }) (by rw[←hw4];simp[hlt3]) ZX
               refine⟨(.bool true,_),h2 _ (h5 _ (List.mem_singleton.2 rfl)),σ2,.bool true,rfl,?_,.refl rfl,hM5⟩
               have hlive:dY σ1 m1 x.b:=⟨i,_,x,hi1,rfl,hx1,rfl⟩
               refine hf1.trans ⟨(hF2.trans hf2).ext,by have:=hf2.size;omega,fun b hb hl => ?_,fun b hl => ?_,(hF2.trans hf2).n,(hF2.trans hf2).old⟩
               ·have hbx:b≠x.b:=fun e=>hl (by rw[e];exact hlive)
                rw[hoth b hbx]
                exact(hF2.trans hf2).frame b hb hl
               ·obtain⟨j,o,z,hj,ho,hz,hb⟩:=hl
                by_cases e:i=j
                ·subst e
                 obtain rfl:z=x:=by rw[hx2]at hz;exact(Option.some.inj hz).symm
                 exact .inl (by rw[←hb];exact hlive)
                ·rw[T.bC _ _ e]at hj
                 exact(hF2.trans hf2).grow b ⟨j,o,z,hj,ho,hz,hb⟩
         | _=>exact TL.elim
        ·exact absurd rfl h1
   | _=>exact hor.elim
  ·exact absurd hL.symm hne
 ·exact absurd hL.symm hne
theorem LH (hE:jO E P) (hP:P.follows .mixedOrders=true) {S:qM} (hS:KO E P w0 S) (fuel:Nat):∀d,nk E P w0 (eB E S fuel d):=by
 intro d
 induction d with
 | zero=>exact⟨fun f args m hne=>absurd rfl hne,fun i args m hne=>absurd rfl hne⟩
 | succ d ih =>
   refine⟨fun f args m hne σ w args' hargs hM => ?_,fun i args m hne σ w args' x hx hargs hM=>IP hE hP ih hne hx hargs hM⟩
   cases hs:S f args m with
   | some l =>
     have he:eB E S fuel (d+1) (.fn f) args m=l:=by simp only[eB,hs]
     rw[he]at hne ⊢
     exact hS f args m l hs hne σ w args' hargs hM
   | none =>
     have he:eB E S fuel (d+1) (.fn f) args m=LF E (eB E S fuel d) fuel f args m:=by simp only[eB,hs]
     rw[he]at hne ⊢
     exact QT hE hP ih hne hargs hM
end Go.AS
namespace Go.AS
noncomputable section
def Dq (P:Program) (t:TypeId):Option TI :=
 match P.info? t,P.underlying t with
 | some i,some d=>match i.zero with
   | some z=>match Nat.beq z.cells.toList.length i.size,nZ z.cells.toList,(match z with | .agg _=>yB d|_ => !yB d)with
     | true,true,true=>some ⟨d,i.size,i.bytes,z.cells.toList⟩
     | _,_,_=>none
   | none=>none
 | _,_=>none
def Qm (P:Program) (f:FuncId):Option Func :=
 match P.funcs[f]? with
 | some fn=>match fn.body,fn.name == "runtime.NumGoroutine" with
   | some _,false=>some fn
   | _,_=>none
 | none=>none
def cK (n:String):String := "sync" ++ String.singleton (Char.ofNat 47) ++ "atomic." ++ n
def j5 (n:String):String := "internal" ++ String.singleton (Char.ofNat 47) ++ "race." ++ n
def KH:String := "internal" ++ String.singleton (Char.ofNat 47) ++ "bytealg.abigen_runtime_cmpstring"
def Ad (n:String):Option BH :=
 if n=cK "AddInt64" then some (.add .i64)
 else if n=cK "AddUint64" then some (.add .u64)
 else if n=cK "AddInt32" then some (.add .i32)
 else if n=cK "LoadUint64" then some (.load .u64)
 else if n=cK "LoadInt64" then some (.load .i64)
 else if n=cK "LoadUint32" then some (.load .u32)
 else if n=cK "StoreUint32" then some .store
 else if n=cK "CompareAndSwapUint64" then some (.U3 .u64)
 else if n=cK "CompareAndSwapInt64" then some (.U3 .i64)
 else if n=cK "CompareAndSwapInt32" then some (.U3 .i32)
 else if n=KH then some .QY
 else if n=j5 "Disable" then some (.WH .disable)
 else if n=j5 "Enable" then some (.WH .enable)
 else if n=j5 "Acquire" then some (.Fw .acquire)
 else if n=j5 "ReleaseMerge" then some (.Fw .releaseMerge)
 else none
def J7 (P:Program) (f:FuncId):Option BH :=
 match P.funcs[f]? with
 | some fn=>match fn.body,(Extern.findNext fn).isNone,fn.name == "runtime.NumGoroutine" with
   | none,true,false=>Ad fn.name
   | _,_,_=>none
 | none=>none
