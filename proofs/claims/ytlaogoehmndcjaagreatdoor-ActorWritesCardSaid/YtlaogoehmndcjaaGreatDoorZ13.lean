import Derived.Test.YtlaogoehmndcjaaGreatDoorZ12
set_option linter.unusedSectionVars false
set_option linter.unusedVariables false
set_option linter.unusedSimpArgs false
namespace Go.AS
open Go.RowKit
variable [bH]
theorem gH {fn:Func} {n:String} {e:Array Value→Sem Value} (hn:fn.name=n) (h1:Extern.allGenericRows.lookup n=none) (h2:Extern.allTypedRows.lookup n=none) (h3:Extern.allRows.lookup n=some e):Extern.find fn=some e:=by
 unfold Extern.find
 simp only[hn,h1,h2,h3]
 rfl
theorem Bt {fn:Func} {x:BH} (h:Ad fn.name=some x):Extern.find fn=some x.impl:=by
 unfold Ad at h
 by_cases e:fn.name=cK "AddInt64"
 ·rw[if_pos e]at h;cases h;exact gH e (by kernel_rfl) (by kernel_rfl) (by kernel_rfl)
 rw[if_neg e]at h;clear e
 by_cases e:fn.name=cK "AddUint64"
 ·rw[if_pos e]at h;cases h;exact gH e (by kernel_rfl) (by kernel_rfl) (by kernel_rfl)
 rw[if_neg e]at h;clear e
 by_cases e:fn.name=cK "AddInt32"
 ·rw[if_pos e]at h;cases h;exact gH e (by kernel_rfl) (by kernel_rfl) (by kernel_rfl)
 rw[if_neg e]at h;clear e
 by_cases e:fn.name=cK "LoadUint64"
 ·rw[if_pos e]at h;cases h;exact gH e (by kernel_rfl) (by kernel_rfl) (by kernel_rfl)
 rw[if_neg e]at h;clear e
 by_cases e:fn.name=cK "LoadInt64"
 ·rw[if_pos e]at h;cases h;exact gH e (by kernel_rfl) (by kernel_rfl) (by kernel_rfl)
 rw[if_neg e]at h;clear e
 by_cases e:fn.name=cK "LoadUint32"
 ·rw[if_pos e]at h;cases h;exact gH e (by kernel_rfl) (by kernel_rfl) (by kernel_rfl)
 rw[if_neg e]at h;clear e
 by_cases e:fn.name=cK "StoreUint32"
 ·rw[if_pos e]at h;cases h;exact gH e (by kernel_rfl) (by kernel_rfl) (by kernel_rfl)
 rw[if_neg e]at h;clear e
 by_cases e:fn.name=cK "CompareAndSwapUint64"
 ·rw[if_pos e]at h;cases h;exact gH e (by kernel_rfl) (by kernel_rfl) (by kernel_rfl)
 rw[if_neg e]at h;clear e
 by_cases e:fn.name=cK "CompareAndSwapInt64"
 ·rw[if_pos e]at h;cases h;exact gH e (by kernel_rfl) (by kernel_rfl) (by kernel_rfl)
 rw[if_neg e]at h;clear e
 by_cases e:fn.name=cK "CompareAndSwapInt32"
 ·rw[if_pos e]at h;cases h;exact gH e (by kernel_rfl) (by kernel_rfl) (by kernel_rfl)
 rw[if_neg e]at h;clear e
 by_cases e:fn.name=KH
 ·rw[if_pos e]at h;cases h;exact gH e (by kernel_rfl) (by kernel_rfl) (by kernel_rfl)
 rw[if_neg e]at h;clear e
 by_cases e:fn.name=j5 "Disable"
 ·rw[if_pos e]at h;cases h;exact gH e (by kernel_rfl) (by kernel_rfl) (by kernel_rfl)
 rw[if_neg e]at h;clear e
 by_cases e:fn.name=j5 "Enable"
 ·rw[if_pos e]at h;cases h;exact gH e (by kernel_rfl) (by kernel_rfl) (by kernel_rfl)
 rw[if_neg e]at h;clear e
 by_cases e:fn.name=j5 "Acquire"
 ·rw[if_pos e]at h;cases h;exact gH e (by kernel_rfl) (by kernel_rfl) (by kernel_rfl)
 rw[if_neg e]at h;clear e
 by_cases e:fn.name=j5 "ReleaseMerge"
 ·rw[if_pos e]at h;cases h;exact gH e (by kernel_rfl) (by kernel_rfl) (by kernel_rfl)
 rw[if_neg e]at h;clear e
 cases h
theorem MR.start (E:Env) (w:World) (hT:E.Tw w):MR E w (fun _=>none) ⟨0,.nil⟩ w :=
 { below:=Kept.refl _ w
   t0:=hT
   obj:=fun i o hg=>by simp only[T.get_nil]at hg;cases hg
   inj:=fun i j o p x y hi=>by simp only[T.get_nil]at hi;cases hi
   fresh:=fun i _=>rfl }
end Go.AS
namespace Go.AS
open Go.RowKit
variable [bH]
def bR:Value→Value
 | .complex .f32 30 i=>bH.D i
 | v=>v
def BO:Value→Prop
 | .complex .f32 30 i=>(bH.D i).oneCell'=true
 | v=>simple v=true
theorem VR.bR {σ:Sg} {a v:Value} (h:VR σ a v) (ha:BO a):v=AS.bR a:=by
 cases h with
 | sym h=>rfl
 | refl hs=>cases a<;>first|rfl|(simp[simple]at hs;done)
 | lG b=>simp[BO,simple,AS.lG]at ha
 | nC k n=>simp[BO,simple,AS.nC]at ha
 | sI a n c=>simp[BO,simple,AS.sI]at ha
 | iY s=>simp[BO,simple,AS.iY]at ha
 | pR a c=>simp[BO,simple,AS.pR]at ha
 | uq h=>simp[BO,simple,AS.uq]at ha
 | any v'=>simp[BO,simple,bad]at ha
 | _=>simp[BO,simple]at ha
theorem VR.gF {σ:Sg} {a:Value} (ha:BO a):VR σ a (AS.bR a):=by
 unfold BO at ha
 split at ha
 ·exact .sym ha
 ·rename_i h
  have:AS.bR a=a:=by unfold AS.bR;split<;>first|rfl|(rename_i i;exact absurd rfl (h i))
  rw[this]
  exact .refl ha
theorem cZ.bR {σ:Sg}:∀{l l':List Value},cZ σ l l'→(∀a∈l,BO a)→l'=l.map AS.bR
 | [],l',h,_=>List.eq_nil_of_length_eq_zero h.1.symm
 | a::l,[],h,_=>absurd h.1 (by simp)
 | a::l,b::l',h,ha=>by
   rw[h.head.bR (ha a (List.mem_cons_self ..)),cZ.bR h.tail (fun x hx=>ha x (List.mem_cons_of_mem _ hx))]
   rfl
theorem cZ.gF {σ:Sg}:∀{l:List Value},(∀a∈l,BO a)→cZ σ l (l.map AS.bR)
 | [],_=>cZ.nil σ
 | a::l,ha=>cZ.cons (VR.gF (ha a (List.mem_cons_self ..))) (cZ.gF fun x hx=>ha x (List.mem_cons_of_mem _ hx))
variable {E:Env} {P:Program}
def dL (P:Program) (Tw:World→Prop) (r:fE):Prop:=∀o:Oper,jl o=some r.key→∀(σ:Sg) (ρ':Operand→Value),cZ σ r.args (o.op.operands.toList.map ρ')→∀w,Tw w→∃v',(execOp ρ' o).run P w =.ok (.value v') w∧VR σ r.res v'
theorem Ma {a b:BinOp} (h:pQ a=pQ b):a=b:=by cases a<;>cases b<;>first|rfl|(simp[pQ]at h)
theorem KW {a b:UnOp} (h:wX a=wX b):a=b:=by cases a<;>cases b<;>first|rfl|(simp[wX]at h)
theorem kG (a:BinOp):10≤pQ a∧pQ a≤26:=by cases a<;>simp[pQ]
theorem j4 (a:UnOp):30≤wX a∧wX a≤33:=by cases a<;>simp[wX]
theorem Kc {o:Oper} {op:BinOp} {t u:Nat} (h:jl o=some (pQ op,t,u)):∃x y,o.op =.binOp op t x y u:=by
 have hb:=kG op
 unfold jl at h
 split at h
 ·rename_i op' t' x y u' ho
  simp only[Option.some.injEq,Prod.mk.injEq]at h
  obtain⟨h1,rfl,rfl⟩:=h
  obtain rfl:=Ma h1
  exact⟨x,y,ho⟩
 ·rename_i op' t' x ho
  simp only[Option.some.injEq,Prod.mk.injEq]at h
  have:=j4 op';omega
 ·simp only[Option.some.injEq,Prod.mk.injEq]at h;omega
 ·simp only[Option.some.injEq,Prod.mk.injEq]at h;omega
 ·simp only[Option.some.injEq,Prod.mk.injEq]at h;omega
 ·simp only[Option.some.injEq,Prod.mk.injEq]at h;omega
 ·simp only[Option.some.injEq,Prod.mk.injEq]at h;omega
 ·simp only[Option.some.injEq,Prod.mk.injEq]at h;omega
 ·simp only[Option.some.injEq,Prod.mk.injEq]at h;omega
 ·simp only[Option.some.injEq,Prod.mk.injEq]at h;omega
 ·simp only[Option.some.injEq,Prod.mk.injEq]at h;omega
 ·split at h<;>first|(simp only[Option.some.injEq,Prod.mk.injEq]at h;omega)|cases h
 ·cases h
theorem NM {o:Oper} {op:UnOp} {t u:Nat} (h:jl o=some (wX op,t,u)):∃x,o.op =.unOp op t x:=by
 have hb:=j4 op
 unfold jl at h
 split at h
 ·rename_i op' t' x y u' ho
  simp only[Option.some.injEq,Prod.mk.injEq]at h
  have:=kG op';omega
 ·rename_i op' t' x ho
  simp only[Option.some.injEq,Prod.mk.injEq]at h
  obtain⟨h1,rfl,_⟩:=h
  obtain rfl:=KW h1
  exact⟨x,ho⟩
 ·simp only[Option.some.injEq,Prod.mk.injEq]at h;omega
 ·simp only[Option.some.injEq,Prod.mk.injEq]at h;omega
 ·simp only[Option.some.injEq,Prod.mk.injEq]at h;omega
 ·simp only[Option.some.injEq,Prod.mk.injEq]at h;omega
 ·simp only[Option.some.injEq,Prod.mk.injEq]at h;omega
 ·simp only[Option.some.injEq,Prod.mk.injEq]at h;omega
 ·simp only[Option.some.injEq,Prod.mk.injEq]at h;omega
 ·simp only[Option.some.injEq,Prod.mk.injEq]at h;omega
 ·simp only[Option.some.injEq,Prod.mk.injEq]at h;omega
 ·split at h<;>first|(simp only[Option.some.injEq,Prod.mk.injEq]at h;omega)|cases h
 ·cases h
theorem NP {o:Oper} {a b:Nat} (h:jl o=some (1,a,b)):∃x,o.op =.convert a b x:=by
 unfold jl at h
 split at h
 ·rename_i op' t' x y u' ho
  simp only[Option.some.injEq,Prod.mk.injEq]at h
  have:=kG op';omega
 ·rename_i op' t' x ho
  simp only[Option.some.injEq,Prod.mk.injEq]at h
  have:=j4 op';omega
 ·rename_i a' b' x ho
  simp only[Option.some.injEq,Prod.mk.injEq]at h
  obtain⟨_,rfl,rfl⟩:=h
  exact⟨x,ho⟩
 ·simp only[Option.some.injEq,Prod.mk.injEq]at h;omega
 ·simp only[Option.some.injEq,Prod.mk.injEq]at h;omega
 ·simp only[Option.some.injEq,Prod.mk.injEq]at h;omega
 ·simp only[Option.some.injEq,Prod.mk.injEq]at h;omega
 ·simp only[Option.some.injEq,Prod.mk.injEq]at h;omega
 ·simp only[Option.some.injEq,Prod.mk.injEq]at h;omega
 ·simp only[Option.some.injEq,Prod.mk.injEq]at h;omega
 ·simp only[Option.some.injEq,Prod.mk.injEq]at h;omega
 ·split at h<;>first|(simp only[Option.some.injEq,Prod.mk.injEq]at h;omega)|cases h
 ·cases h
theorem Qq {o:Oper} {a b:Nat} (h:jl o=some (4,a,b)):∃c,o.op =.call c∧nM c.argTypes.toList=a∧o.type=b∧c.callee =.builtin .len:=by
 unfold jl at h
 split at h
 ·rename_i op' t' x y u' ho
  simp only[Option.some.injEq,Prod.mk.injEq]at h
  have:=kG op';omega
 ·rename_i op' t' x ho
  simp only[Option.some.injEq,Prod.mk.injEq]at h
  have:=j4 op';omega
 ·simp only[Option.some.injEq,Prod.mk.injEq]at h;omega
 ·simp only[Option.some.injEq,Prod.mk.injEq]at h;omega
 ·simp only[Option.some.injEq,Prod.mk.injEq]at h;omega
 ·simp only[Option.some.injEq,Prod.mk.injEq]at h;omega
 ·simp only[Option.some.injEq,Prod.mk.injEq]at h;omega
 ·simp only[Option.some.injEq,Prod.mk.injEq]at h;omega
 ·simp only[Option.some.injEq,Prod.mk.injEq]at h;omega
 ·simp only[Option.some.injEq,Prod.mk.injEq]at h;omega
 ·simp only[Option.some.injEq,Prod.mk.injEq]at h;omega
 ·rename_i c ho
  split at h
  ·rename_i hc
   simp only[Option.some.injEq,Prod.mk.injEq,true_and]at h
   exact⟨c,ho,h.1,h.2,hc⟩
  all_goals first|(simp only[Option.some.injEq,Prod.mk.injEq]at h;omega)|cases h
 ·cases h
theorem M4 {Tw:World→Prop} (hE:jO E P) {op:BinOp} {t u:TypeId} {a b r:Value} (ha:BO a) (hb:BO b) (hr:BO r) (hsa:simple (bR a)=true) (hsb:simple (bR b)=true) (hn:bR a ≠ .nilIface) (h:binop E op t (bR a) (bR b)=some (bR r)) (hs:simple (bR r)=true) :
 dL P Tw ⟨(pQ op,t,u),[a,b],r⟩:=by
 intro o hk σ ρ' hv w _
 obtain⟨x,y,ho⟩:=Kc hk
 have hc:=hv.bR (by intro z hz;simp at hz;rcases hz with rfl|rfl<;>assumption)
 rw[ho]at hc
 simp only[Op.operands,List.map_cons,List.map_nil,List.cons.injEq,and_true]at hc
 obtain⟨hx,hy⟩:=hc
 have hb:AL E op t (isConst x||isConst y) (bR a) (bR b)=some (bR r):=by
  unfold AL
  split
  ·rename_i e _ ;exact absurd e hn
  ·exact h
 obtain⟨v',hrun,yH⟩:=vO (P:=P) (σ:=fun _=>none) (ox:=x) (oy:=y) hE hb (.refl hsa) (.refl hsb) w
 obtain rfl:=yH.aB hs
 refine⟨bR r,?_,VR.gF hr⟩
 have:execOp ρ' o=(do pure (.value (←(do eqGuard op t x y (ρ' x) (ρ' y);Go.binOp op t (ρ' x) (ρ' y))))):=by simp[execOp,ho]
 rw[this,show ρ' x=bR a from hx,show ρ' y=bR b from hy]
 simp only[Sem.run_bind]at hrun ⊢
 rw[hrun]
 rfl
theorem Lc {Tw:World→Prop} (hE:jO E P) (RG:∀w,E.Tw w) {s d:TypeId} {a r:Value} {j k:IntKind} {n n':Int} (ha:BO a) (hr:BO r) (hca:bR a =.int j n) (hcr:bR r =.int k n') (ht:∃ts td,E.types.get s=some ts∧E.types.get d=some td∧td.desc =.int k) (h:k.wrap n=n') :
 dL P Tw ⟨(1,s,d),[a],r⟩:=by
 intro o hk σ ρ' hv w _
 obtain⟨x,ho⟩:=NP hk
 have hc:=hv.bR (by intro z hz;simp at hz;subst hz;assumption)
 rw[ho]at hc
 simp only[Op.operands,List.map_cons,List.map_nil,List.cons.injEq,and_true]at hc
 obtain⟨ts,td,h1,h2,h3⟩:=ht
 have hcv:qD E s d (.int j n) ⟨0,.nil⟩=some (.val (.int k n')):=by
  unfold qD
  rw[h1,h2]
  simp only[h3,h]
 obtain⟨nx,v',hrun,hnx,yH⟩:=su (P:=P) (σ:=fun _=>none) hE (MR.start E w (RG w)) (w:=w) hcv (.refl rfl)
 obtain rfl:=yH.aB rfl
 refine⟨bR r,?_,VR.gF hr⟩
 rw[hcr,show execOp ρ' o=(do pure (.value (←convert s d (ρ' x)))) by simp[execOp,ho],show ρ' x =.int j n from hc.trans hca,hrun]
 cases nx<;>first|(simp only[jX,Option.some.injEq]at hnx;subst hnx;rfl)|(simp only[jX,Option.some.injEq]at hnx;cases hnx)|(simp[jX]at hnx)
theorem aJ {E:Env} {t:TypeId} {k:IntKind} {a b r:Int} (h:k.wrap (a+b)=r):binop E .add t (.int k a) (.int k b)=some (.int k r):=by subst h;cases k<;>rfl
theorem gq {E:Env} {t:TypeId} {k:IntKind} {a b r:Int} (h:k.wrap (a-b)=r):binop E .sub t (.int k a) (.int k b)=some (.int k r):=by subst h;cases k<;>rfl
theorem gJ {E:Env} {t:TypeId} {k:IntKind} {a b r:Int} (h:k.wrap (a*b)=r):binop E .mul t (.int k a) (.int k b)=some (.int k r):=by subst h;cases k<;>rfl
theorem iG {E:Env} {t:TypeId} {k:IntKind} {a b:Int} {r:Bool} (h:decide (a<b)=r):binop E .lss t (.int k a) (.int k b)=some (.bool r):=by subst h;cases k<;>rfl
theorem kY {E:Env} {t:TypeId} {k:IntKind} {a b:Int} {r:Bool} (h:decide (a≤b)=r):binop E .leq t (.int k a) (.int k b)=some (.bool r):=by subst h;cases k<;>rfl
theorem jZ {E:Env} {t:TypeId} {k:IntKind} {a b:Int} {r:Bool} (h:decide (a>b)=r):binop E .gtr t (.int k a) (.int k b)=some (.bool r):=by subst h;cases k<;>rfl
theorem dX {E:Env} {t:TypeId} {k:IntKind} {a b:Int} {r:Bool} (h:decide (a≥b)=r):binop E .geq t (.int k a) (.int k b)=some (.bool r):=by subst h;cases k<;>rfl
theorem dK {E:Env} {t:TypeId} {k:IntKind} {a b:Int} {r:Bool} (h:(a==b)=r):binop E .eql t (.int k a) (.int k b)=some (.bool r):=by subst h;cases k<;>rfl
theorem gI {E:Env} {t:TypeId} {k:IntKind} {a b:Int} {r:Bool} (h:(a != b)=r):binop E .neq t (.int k a) (.int k b)=some (.bool r):=by subst h;cases k<;>rfl
theorem dW {E:Env} {t:TypeId} {k:IntKind} {a b r:Int} (hb:b≠0) (h:k.wrap (a.tdiv b)=r):binop E .quo t (.int k a) (.int k b)=some (.int k r):=by
 subst h
 cases k<;>(show(if b=0 then none else _)=_;rw[if_neg hb])
theorem eF {E:Env} {t:TypeId} {k:IntKind} {a b r:Int} (hb:b≠0) (h:a.tmod b=r):binop E .rem t (.int k a) (.int k b)=some (.int k r):=by
 subst h
 cases k<;>(show(if b=0 then none else _)=_;rw[if_neg hb])
theorem KJ {E:Env} {t:TypeId} {k j:IntKind} {a b r:Int} (hb:0≤b) (h:k.wrap (a*2 ^ (min b.toNat k.bits))=r):binop E .shl t (.int k a) (.int j b)=some (.int k r):=by
 subst h
 show(if b<0 then none else _)=_
 rw[if_neg (by omega)]
abbrev om:=List (FuncId×List Value×Value)
def jD:om→qM
 | [],_,_,_=>none
 | (g,as,v)::l,f,args,m=>match Nat.beq g f with
   | true=>match uy 30 args as with
     | true=>some [(v,m)]
     | false=>jD l f args m
   | false=>jD l f args m
def ni (P:Program) (Tw:World→Prop) (p:FuncId×List Value×Value):Prop:=∀(σ:Sg) (args':Array Value),cZ σ p.2.1 args'.toList→∀w,Tw w→Calls P p.1 args' w fun e w'=>∃v',e =.returned v'∧VR σ p.2.2 v'∧Below w.heap.size w w'
theorem MR.grown {E:Env} {w0 w w':World} {σ:Sg} {m:Mem} (h:MR E w0 σ m w) (hb:Below w.heap.size w w'):MR E w0 σ m w'∧FG σ m w σ m w':=by
 have hk:∀{b:Nat} {o:Obj},w.heap[b]? = some o→w'.heap[b]? = some o:=fun{b o} ho=>(hb.block b (Array.getElem?_eq_some_iff.1 ho).1).trans ho
 refine⟨⟨h.below.grown hb,h.t0,fun i o hi hl => ?_,h.inj,h.fresh⟩,⟨Ext.refl σ,hb.size,fun b hb' _=>hb.block b hb',fun b hl => .inl hl,Nat.le_refl _,fun _ _=>rfl⟩⟩
 obtain⟨x,ob,hx,hB,eu,hor⟩:=h.obj i o hi hl
 exact⟨x,ob,hx,hB,hk eu,hor⟩
theorem nD {E:Env} {P:Program} {Tw:World→Prop} {w0:World} {l:om} (hT:∀σ m w,MR E w0 σ m w→Tw w) (h:∀p∈l,ni P Tw p):KO E P w0 (jD l):=by
 induction l with
 | nil=>intro f args m r hs;cases hs
 | cons p l ih =>
   intro f args m r hs hne σ w args' hv hM
   have ih':=ih (fun q hq=>h q (List.mem_cons_of_mem _ hq)) f args m r
   obtain⟨g,as,v⟩:=p
   unfold jD at hs
   split at hs
   ·rename_i hg
    split at hs
    ·rename_i ha
     cases hs
     have hg':=Nat.eq_of_beq_eq_true hg
     have ha':=(lu 30).2 _ _ ha
     subst hg' ha'
     refine(h _ (List.mem_cons_self ..) σ args' hv w (hT σ m w hM)).mono ?_
     rintro e w' ⟨v',rfl,yH,hb⟩
     obtain⟨hM',hF⟩:=hM.grown hb
     exact⟨_,List.mem_cons_self ..,σ,v',rfl,hF,yH,hM'⟩
    ·exact ih' hs hne σ w args' hv hM
   ·exact ih' hs hne σ w args' hv hM
end Go.AS
namespace Go.AS
open Go.RowKit
noncomputable section
variable [bH]
def At (w:World) (b sh:Nat) (e:TypeId) (l:List Value):Prop :=
 ∃C fz,w.heap[b]? = some (.cells C e fz)∧NF fz C.size∧sh+l.length≤C.size∧∀j,j<l.length→C[sh+j]? = l[j]?
omit [bH] in
theorem At.lt {w:World} {b sh:Nat} {e:TypeId} {l:List Value} (h:At w b sh e l):b<w.heap.size:=by
 obtain⟨C,fz,hC,_⟩:=h
 exact(Array.getElem?_eq_some_iff.1 hC).1
omit [bH] in
theorem At.keep {w w':World} {b sh:Nat} {e:TypeId} {l:List Value} (h:At w b sh e l) (hk:w'.heap[b]? = w.heap[b]?):At w' b sh e l:=by
 obtain⟨C,fz,hC,hr⟩:=h
 exact⟨C,fz,hk.trans hC,hr⟩
omit [bH] in
theorem At.below {w w':World} {b sh s:Nat} {e:TypeId} {l:List Value} (h:At w b sh e l) (hs:b<s) (hk:Below s w w'):At w' b sh e l:=h.keep (hk.block b hs)
omit [bH] in
theorem At.cell {w:World} {b sh:Nat} {e:TypeId} {l:List Value} (h:At w b sh e l) (j:Nat) (v:Value) (hv:l[j]? = some v):w.cell? ⟨b,sh+j,none⟩=some v:=by
 obtain⟨C,fz,hC,_,_,hj⟩:=h
 have hlt:j<l.length:=(List.getElem?_eq_some_iff.1 hv).1
 simp only[World.cell?,hC]
 simp[hj j hlt,hv]
omit [bH] in
theorem At.frozen {w:World} {b sh:Nat} {e:TypeId} {l:List Value} (h:At w b sh e l) (j:Nat) (hlt:j<l.length):w.frozen? ⟨b,sh+j,none⟩=false:=by
 obtain⟨C,fz,hC,hf,hs,hj⟩:=h
 simp only[World.frozen?,hC]
 rcases hf with h|h
 ·simp[h]
  try omega
 ·simp
  try omega
omit [bH] in
theorem At.of_block {w:World} {b:Nat} {C:Array Value} {e:TypeId} (h:w.heap[b]? = some (.cells C e (0,0))):At w b 0 e C.toList :=
 ⟨C,(0,0),h,.inl rfl,by simp,fun j _=>by simp⟩
abbrev Ri:=List (Nat×Nat×List Value)
def Pp (σ:Sg) (B:Ri):Prop:=∀(i:Nat) q,B[i]? = some q→∃x,σ i=some x∧x.b=q.1∧x.sh=q.2.1
def kI (A:List (TypeId×List Value)):Mem:=⟨A.length,T.ofList (A.map fun p=>newRow p.1 p.2)⟩
theorem zL (A:List (TypeId×List Value)) (i:Nat):(kI A).t.get i=(A[i]?).map fun p=>newRow p.1 p.2:=by
 show(T.ofList _).get i=_
 rw[T.gG,List.getElem?_map]
structure A7 (E:Env) (w:World) (A:List (TypeId×List Value)) (B:Ri):Prop where
 len:A.length=B.length
 types:(A.all fun p=>(E.types.get p.1).isSome)=true
 at_:∀(i:Nat) p q,A[i]? = some p→B[i]? = some q→At w q.1 q.2.1 p.1 q.2.2∧p.2.length=q.2.2.length
 dist:∀(i j:Nat) q r,B[i]? = some q→B[j]? = some r→q.1=r.1→i=j
 rel:∀σ,Pp σ B→∀(i:Nat) p q,A[i]? = some p→B[i]? = some q→cZ σ p.2 q.2.2
def bare (n:Nat) (w:World):World:={ w with heap:=w.heap.extract 0 n }
omit [bH] in
theorem Jh (n:Nat) (w:World):Below (bare n w).heap.size (bare n w) w:=by
 refine⟨rfl,rfl,rfl,?_,fun k hk => ?_⟩
 ·show(w.heap.extract 0 n).size≤_
  simp only[Array.size_extract];omega
 ·have hk':k<min n w.heap.size:=by have:k<(w.heap.extract 0 n).size:=hk;simpa [Array.size_extract]using this
  show w.heap[k]? =(w.heap.extract 0 n)[k]?
  rw[Array.getElem?_extract]
  simp;omega
theorem init {E:Env} {w:World} {n0:Nat} {A:List (TypeId×List Value)} {B:Ri} (hT:E.Tw (bare n0 w)) (hlow:∀q∈B,n0≤q.1∨E.own q.1) (h:A7 E w A B):∃σ,Pp σ B∧MR E (bare n0 w) σ (kI A) w:=by
 classical
 let U7:Nat→Nat:=fun b=>match w.heap[b]? with|some (.cells C _ _)=>C.size|_=>0
 let ts:TypeId→Nat:=fun e=>match E.types.get e with|some ti=>ti.size|none=>0
 let σ:Sg:=fun i=>match A[i]?,B[i]? with|some p,some q=>some ⟨q.1,q.2.1,U7 q.1-q.2.1,ts p.1,.nilFunc⟩|_,_=>none
 have hσ:∀(i:Nat) p q,A[i]? = some p→B[i]? = some q→σ i=some ⟨q.1,q.2.1,U7 q.1-q.2.1,ts p.1,.nilFunc⟩:=fun i p q hp hq=>by simp only[σ,hp,hq]
 have Xg:∀(i:Nat) q,B[i]? = some q→∃p,A[i]? = some p:=fun i q hq=>by
  have:=(List.getElem?_eq_some_iff.1 hq).1
  exact⟨A[i]'(by rw[h.len];exact this),List.getElem?_eq_getElem _⟩
 have TK:∀(i:Nat) p,A[i]? = some p→∃q,B[i]? = some q:=fun i p hp=>by
  have:=(List.getElem?_eq_some_iff.1 hp).1
  exact⟨B[i]'(by rw[←h.len];exact this),List.getElem?_eq_getElem _⟩
 have hB:Pp σ B:=fun i q hq=>by
  obtain⟨p,hp⟩:=Xg i q hq
  exact⟨_,hσ i p q hp hq,rfl,rfl⟩
 refine⟨σ,hB,?_⟩
 have hget:∀(i:Nat) o,(kI A).t.get i=some o→∃p q,A[i]? = some p∧B[i]? = some q∧o=newRow p.1 p.2:=fun i o ho=>by
  rw[zL]at ho
  cases hp:A[i]? with
  | none=>rw[hp]at ho;cases ho
  | some p =>
    rw[hp]at ho
    obtain⟨q,hq⟩:=TK i p hp
    exact⟨p,q,rfl,hq,(Option.some.inj ho).symm⟩
 refine⟨.of_below (Jh n0 w),hT,fun i o ho _ => ?_,fun i j o o' x y hi _ hj _ hx hy hxy => ?_,fun i hi => ?_⟩
 ·obtain⟨p,q,hp,hq,rfl⟩:=hget i o ho
  obtain⟨⟨C,fz,hC,hf,hs,hj⟩,hl⟩:=h.at_ i p q hp hq
  have hr:=h.rel σ hB i p q hp hq
  have hbs:U7 q.1=C.size:=by simp only[U7,hC]
  have hty:∃ti,E.types.get p.1=some ti∧ts p.1=ti.size:=by
   have:=List.all_eq_true.1 h.types p (List.mem_of_getElem? hp)
   obtain⟨ti,hti⟩:=Option.isSome_iff_exists.1 this
   exact⟨ti,hti,by simp only[ts,hti]⟩
  refine⟨_,_,hσ i p q hp hq,(hlow q (List.mem_of_getElem? hq)).imp (Nat.le_trans (by show(w.heap.extract 0 n0).size≤n0;simp only[Array.size_extract];omega)) id,hC,?_⟩
  refine⟨rfl,hf,?_,?_,hty,fun j hjl => ?_⟩
  ·show q.2.1+(U7 q.1-q.2.1)=C.size
   rw[hbs];omega
  ·show p.2.length≤U7 q.1-q.2.1
   rw[hbs];omega
  ·have h1:p.2[j]? = some (p.2[j]'hjl):=List.getElem?_eq_getElem hjl
   obtain⟨v',hv',yH⟩:=hr.getElem? h1
   refine⟨_,v',?_,?_,yH⟩
   ·rw[T.gG,h1]
   ·show C[q.2.1+j]? = _
    rw[hj j (by omega),hv']
 ·obtain⟨p,q,hp,hq,rfl⟩:=hget i o hi
  obtain⟨p',q',hp',hq',rfl⟩:=hget j o' hj
  rw[hσ i p q hp hq]at hx
  rw[hσ j p' q' hp' hq']at hy
  cases hx;cases hy
  exact h.dist i j q q' hq hq' hxy
 ·show(match A[i]?,B[i]? with|some p,some q=>some (⟨q.1,q.2.1,U7 q.1-q.2.1,ts p.1,.nilFunc⟩:Inf)|_,_=>none)=none
  rw[List.getElem?_eq_none (show A.length≤i from hi)]
def zo (m:Mem) (i:Nat):Option (TypeId×List Value) :=
 match m.t.get i with
 | some (.row cells n e)=>match cells.wG n 0 with
   | some l=>some (e,l)
   | none=>none
 | _=>none
def stay (m:Mem):Nat→Bool
 | 0=>true
 | n+1=>match m.t.get n with
   | some o=>cond o.live (stay m n) false
   | none=>false
theorem vZ {m:Mem}:∀{n},stay m n=true→∀j,j<n→∃o,m.t.get j=some o∧o.live=true
 | 0,_,j,hj=>absurd hj (Nat.not_lt_zero _)
 | n+1,h,j,hj=>by
   unfold stay at h
   split at h
   ·rename_i o ho
    cases hl:o.live with
    | false=>rw[hl]at h;cases h
    | true =>
      rw[hl]at h
      rcases Nat.lt_or_ge j n with h1|h1
      ·exact vZ h j h1
      ·obtain rfl:j=n:=by omega
       exact⟨o,ho,hl⟩
   ·cases h
def zx (n:Nat) (l:List (Value×Mem)) (ids:List Nat):List (Value×Bool×List (Option (TypeId×List Value))):=l.map fun r=>(r.1,stay r.2 n,ids.map (zo r.2))
structure Left (B:Ri) (w w':World):Prop where
 os:w'.os=w.os
 tape:w'.tape=w.tape
 output:w'.output=w.output
 size:w.heap.size≤w'.heap.size
 block:∀b,b<w.heap.size→(∀q∈B,q.1≠b)→w'.heap[b]? = w.heap[b]?
def aaE (σ:Sg) (w:World) (i:Nat) (e:TypeId) (l:List Value):Prop:=∃x l',σ i=some x∧At w x.b x.sh e l'∧cZ σ l l'
structure Ran (B:Ri) (ids:List Nat) (picks:List (Option (TypeId×List Value))) (v:Value) (w:World) (v':Value) (σ:Sg) (w':World):Prop where
 sg:Pp σ B
 val:VR σ v v'
 left:Left B w w'
 lies:∀(k i:Nat) e l,ids[k]? = some i→picks[k]? = some (some (e,l))→aaE σ w' i e l
 fresh:∀(k i:Nat) e l x,ids[k]? = some i→picks[k]? = some (some (e,l))→B.length≤i→σ i=some x→w.heap.size≤x.b
 inj:∀(k i k' i':Nat) e l e' l' x y,ids[k]? = some i→picks[k]? = some (some (e,l))→ids[k']? = some i'→picks[k']? = some (some (e',l'))→σ i=some x→σ i'=some y→x.b=y.b→i=i'
theorem lH {m:Mem} {i:Nat} {e:TypeId} {l:List Value} (h:zo m i=some (e,l)):∃cells n,m.t.get i=some (.row cells n e)∧cells.wG n 0=some l:=by
 unfold zo at h
 split at h
 ·rename_i cells n e' hg
  split at h
  ·rename_i l' hl
   cases h
   exact⟨cells,n,hg,hl⟩
  ·cases h
 ·cases h
theorem EN {P:Program} (hP:P.follows .mixedOrders=true) {E:Env} (hE:jO E P) {Tw:World→Prop} (RG:∀w0,E.Tw w0↔∀w',Kept E.own w0 w'→Tw w') {n0:Nat} {S:qM} (hS:∀w0,(∀w',Kept E.own w0 w'→Tw w')→KO E P w0 S) {fuel d:Nat} {f:FuncId} {args:List Value} {A:List (TypeId×List Value)} {ids:List Nat} {v:Value} {picks:List (Option (TypeId×List Value))}
 (hrun:zx A.length (eB E S fuel d (.fn f) args (kI A)) ids=[(v,true,picks)]) {B:Ri} {w:World} (hT:∀w',Kept E.own (bare n0 w) w'→Tw w') (hlow:∀q∈B,n0≤q.1∨E.own q.1) (hI:A7 E w A B) {args':Array Value} (hargs:∀σ,Pp σ B→cZ σ args args'.toList) :
 Calls P f args' w fun e w'=>∃v' σ m',e =.returned v'∧Ran B ids picks v w v' σ w'∧eB E S fuel d (.fn f) args (kI A)=[(v,m')]∧MR E (bare n0 w) σ m' w'∧∀b,dY σ m' b→(∃q∈B,q.1=b)∨w.heap.size≤b:=by
 obtain⟨σ,hB,hM⟩:=init ((RG _).2 hT) hlow hI
 obtain⟨r,hev⟩:∃r,eB E S fuel d (.fn f) args (kI A)=[r]:=by
  generalize eB E S fuel d (.fn f) args (kI A)=L at hrun
  match L,hrun with
  | [r],_=>exact⟨r,rfl⟩
  | [],h=>simp[zx]at h
  | a::b::c,h=>simp[zx]at h
 rw[hev]at hrun
 simp only[zx,List.map_cons,List.map_nil,List.cons.injEq,and_true,Prod.mk.injEq]at hrun
 obtain⟨rfl,hst,rfl⟩:=hrun
 have hne:eB E S fuel d (.fn f) args (kI A)≠[]:=by rw[hev];simp
 refine((LH hE hP (hS _ hT) fuel d).fn f args (kI A) hne σ w args' (hargs σ hB) hM).mono ?_
 rintro e w' ⟨r',hr',σ',v',rfl,hf,hv,hm⟩
 rw[hev]at hr'
 obtain rfl:r'=r:=by simpa using hr'
 have hpk:∀(k i:Nat) e l,ids[k]? = some i→(ids.map (zo r'.2))[k]? = some (some (e,l))→zo r'.2 i=some (e,l):=fun k i e l hk hp=>by
  rw[List.getElem?_map,hk]at hp
  exact Option.some.inj hp
 have hsg:Pp σ' B:=fun i q hq=>by
  obtain⟨x,hx,h1,h2⟩:=hB i q hq
  exact⟨x,hf.ext i x hx,h1,h2⟩
 have hlive:∀b,dY σ (kI A) b→∃q∈B,q.1=b:=fun b hl=>by
  obtain⟨i,o,x,hg,_,hx,rfl⟩:=hl
  have hi:i<A.length:=by
   rw[zL]at hg
   cases hA:A[i]? with
   | none=>rw[hA]at hg;cases hg
   | some p=>exact(List.getElem?_eq_some_iff.1 hA).1
  obtain⟨q,hq⟩:∃q,B[i]? = some q:=⟨B[i]'(by rw[←hI.len];exact hi),List.getElem?_eq_getElem _⟩
  obtain⟨y,hy,h1,_⟩:=hB i q hq
  rw[hx]at hy
  cases hy
  exact⟨q,List.mem_of_getElem? hq,h1.symm⟩
 refine⟨v',σ',r'.2,rfl,?_,hev,hm,fun b hb=>(hf.grow b hb).imp (hlive b) id⟩
 refine⟨hsg,hv,⟨hm.below.os.trans hM.below.os.symm,hm.below.tape.trans hM.below.tape.symm,hm.below.output.trans hM.below.output.symm,hf.size,fun b hb hn=>hf.frame b hb (fun hl => ?_)⟩,fun k i e l hk hp => ?_,fun k i e l x hk hp hi hx => ?_,fun k i k' i' e l e' l' x y hk hp hk' hp' hx hy hxy => ?_⟩
 ·obtain⟨q,hq,rfl⟩:=hlive b hl
  exact hn q hq rfl
 ·obtain⟨cells,n,hg,hl⟩:=lH (hpk k i e l hk hp)
  obtain⟨x,ob,hx,_,eu,hor⟩:=hm.obj i _ hg rfl
  obtain⟨C,fz,_,hC,hnf,hsz,hn,_,hc⟩:=hm.row hg hx
  obtain⟨h1,h2⟩:=T.nQ hl
  refine⟨x,(C.toList.drop x.sh).take n,hx,⟨C,fz,hC,hnf,?_,fun j hj => ?_⟩,?_⟩
  ·simp;omega
  ·simp at hj
   rw[List.getElem?_take,if_pos (by omega),List.getElem?_drop]
   simp
  ·refine cZ.kg (by rw[h1];simp;omega) (fun j u u' hu hu' => ?_)
   have hj:j<n:=by have:=(List.getElem?_eq_some_iff.1 hu).1;omega
   obtain⟨a,a',ha,ha',hr⟩:=hc j hj
   have:=h2 j hj
   rw[Nat.zero_add]at this
   rw[this,hu]at ha
   rw[List.getElem?_take,if_pos hj,List.getElem?_drop]at hu'
   rw[←Array.getElem?_toList]at ha'
   rw[ha']at hu'
   cases ha;cases hu'
   exact hr
 ·obtain⟨cells,n,hg,hl⟩:=lH (hpk k i e l hk hp)
  rcases hf.grow x.b ⟨i,_,x,hg,rfl,hx,rfl⟩with h|h
  ·obtain⟨j,o,y,hgj,hlv,hy,hyb⟩:=h
   have hj:j<A.length:=by
    rw[zL]at hgj
    cases hA:A[j]? with
    | none=>rw[hA]at hgj;cases hgj
    | some p=>exact(List.getElem?_eq_some_iff.1 hA).1
   exfalso
   obtain⟨o',hg',hl'⟩:=vZ hst j hj
   have:=hm.inj i j _ _ x y hg rfl hg' hl' hx (hf.ext j y hy) hyb.symm
   subst this
   rw[hI.len]at hj;omega
  ·exact h
 ·obtain⟨cells,n,hg,hl⟩:=lH (hpk k i e l hk hp)
  obtain⟨cells',n',hg',hl'⟩:=lH (hpk k' i' e' l' hk' hp')
  exact hm.inj i i' _ _ x y hg rfl hg' rfl hx hy hxy
theorem P5 {P:Program} (hP:P.follows .mixedOrders=true) {E:Env} (hE:jO E P) {Tw:World→Prop} (RG:∀w0,E.Tw w0↔∀w',Kept E.own w0 w'→Tw w') {n0:Nat} {S:qM} (hS:∀w0,(∀w',Kept E.own w0 w'→Tw w')→KO E P w0 S) {fuel d:Nat} {f:FuncId} {args:List Value} {A:List (TypeId×List Value)} {ids:List Nat} {v:Value} {picks:List (Option (TypeId×List Value))}
 (hrun:zx A.length (eB E S fuel d (.fn f) args (kI A)) ids=[(v,true,picks)]) {B:Ri} {w:World} (hT:∀w',Kept E.own (bare n0 w) w'→Tw w') (hlow:∀q∈B,n0≤q.1∨E.own q.1) (hI:A7 E w A B) {args':Array Value} (hargs:∀σ,Pp σ B→cZ σ args args'.toList) :
 Calls P f args' w fun e w'=>∃v' σ,e =.returned v'∧Ran B ids picks v w v' σ w' :=
 (EN hP hE RG hS hrun hT hlow hI hargs).mono fun _ _ ⟨v',σ,_,h,hR,_⟩=>⟨v',σ,h,hR⟩
end
end Go.AS
