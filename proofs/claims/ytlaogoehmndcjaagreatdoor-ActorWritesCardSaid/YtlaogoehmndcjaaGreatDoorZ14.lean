import Derived.Test.YtlaogoehmndcjaaGreatDoorZ13
import Derived.WalkKit
import Derived.Laws.DeepBits32
set_option linter.unusedSectionVars false
set_option linter.unusedVariables false
set_option linter.unusedSimpArgs false
namespace Go.AS
open Go.RowKit
noncomputable section
def mapA (f:Value→Value) (c:Array Value):Array Value:=(c.toList.map f).toArray
theorem Dv (f:Value→Value) (c:Array Value):mapA f c=c.map f:=by unfold mapA;apply Array.ext';simp
def img (D:Nat→Value) (τ:Nat→Nat×Nat):Nat→Value→Value
 | 0,v=>v
 | n+1,v=>match v with
   | .complex .f32 30 i=>D i
   | .complex .f32 31 i=>D (i+1000)
   | .pointer (some ⟨i,o,none⟩) => .pointer (some ⟨(τ i).1,(τ i).2+o,none⟩)
   | .func fn f c => .func fn (mapA (img D τ n) f) (mapA (img D τ n) c)
   | .agg c => .agg (mapA (img D τ n) c)
   | .tuple c => .tuple (mapA (img D τ n) c)
   | .iface t v => .iface t (img D τ n v)
   | v=>v
def qd:Nat→Value→Bool
 | 0,_=>false
 | n+1,v=>match v with
   | .complex .f32 30 _=>true
   | .pointer (some ⟨_,_,none⟩)=>true
   | .func _ f c=>f.toList.all (qd n)&&c.toList.all (qd n)
   | .agg c=>c.toList.all (qd n)
   | .tuple c=>c.toList.all (qd n)
   | .iface _ v=>qd n v
   | v=>simple v
def fB (σ:Sg) (i:Nat):Nat×Nat:=match σ i with|some x=>(x.b,x.sh)|none=>(0,0)
section
variable [bH]
theorem yR {σ:Sg} {n:Nat} (ih:∀v v',VR σ v v'→qd n v=true→v'=img bH.D (fB σ) n v) {c c':Array Value} (hc:c.size=c'.size) (hc':∀i,i<c.size→VR σ (c.getD i und) (c'.getD i und)) (ho:c.toList.all (qd n)=true):c'=mapA (img bH.D (fB σ) n) c:=by
 rw[Dv]
 apply Array.ext
 ·simp[hc]
 ·intro i h1 h2
  have hi:i<c.size:=by rw[hc];exact h1
  have:=hc' i hi
  simp only[Array.getD,hi,h1,dif_pos]at this
  have hm:=List.all_eq_true.1 ho c[i] (by simp)
  rw[Array.getElem_map]
  exact ih _ _ this hm
theorem Ir:∀(n:Nat) {σ:Sg} (v v':Value),VR σ v v'→qd n v=true→v'=img bH.D (fB σ) n v:=by
 intro n
 induction n with
 | zero=>intro σ v v' _ h;cases h
 | succ n ih =>
   intro σ v v' h ho
   cases h with
   | sym h=>rfl
   | any v'=>simp[qd,simple,bad]at ho
   | dyn h hh=>simp[qd,simple]at ho
   | EI h hn=>simp[qd,simple]at ho
   | lG b=>simp[qd,simple,AS.lG]at ho
   | nC k m=>simp[qd,simple,AS.nC]at ho
   | sI a m c=>simp[qd,simple,AS.sI]at ho
   | iY s=>simp[qd,simple,AS.iY]at ho
   | pR a c=>simp[qd,simple,AS.pR]at ho
   | uq h=>simp[qd,simple,AS.uq]at ho
   | refl hs=>cases v<;>first
      | rfl
      | (simp[simple]at hs;done)
      | (rename_i a;cases a with
         | none=>rfl
         | some a=>simp[simple]at hs)
      | (rename_i a _ _;cases a with
         | none=>rfl
         | some a=>simp[simple]at hs)
   | ptr h=>simp only[img,fB,h]
   | slice h _ _=>simp[qd,simple]at ho
   | map h=>simp[qd,simple]at ho
   | func hf hf' hc hc' =>
     simp only[qd,Bool.and_eq_true]at ho
     simp only[img]
     rw[yR (fun v v'=>ih v v') hf hf' ho.1,yR (fun v v'=>ih v v') hc hc' ho.2]
   | agg hc hc' =>
     simp only[qd]at ho
     simp only[img]
     rw[yR (fun v v'=>ih v v') hc hc' ho]
   | tuple hc hc' =>
     simp only[qd]at ho
     simp only[img]
     rw[yR (fun v v'=>ih v v') hc hc' ho]
   | iface h =>
     simp only[qd]at ho
     simp only[img]
     rw[ih _ _ h ho]
end
def within (n k:Nat):Nat→Value→Bool
 | 0,_=>false
 | d+1,v=>match v with
   | .complex .f32 30 i=>Nat.blt i n
   | .pointer (some ⟨i,_,none⟩)=>Nat.blt i k
   | .func _ f c=>f.toList.all (within n k d)&&c.toList.all (within n k d)
   | .agg c=>c.toList.all (within n k d)
   | .tuple c=>c.toList.all (within n k d)
   | .iface _ v=>within n k d v
   | v=>simple v
section
variable [bH]
theorem Eh {σ:Sg} {n k d:Nat} {τ:Nat→Nat×Nat} (ih:∀v,within n k d v=true→VR σ v (img bH.D τ d v)) {c:Array Value} (h:c.toList.all (within n k d)=true):c.size=(mapA (img bH.D τ d) c).size∧∀i,i<c.size→VR σ (c.getD i und) ((mapA (img bH.D τ d) c).getD i und):=by
 rw[Dv]
 refine⟨by simp,fun i hi => ?_⟩
 have hm:=List.all_eq_true.1 h c[i] (by simp)
 have:=ih _ hm
 simpa [Array.getD,hi]using this
theorem DI {σ:Sg} {n k:Nat} {τ:Nat→Nat×Nat} (hD:∀i,i<n→(bH.D i).oneCell'=true) (TG:∀i,i<k→∃x,σ i=some x∧x.b=(τ i).1∧x.sh=(τ i).2):∀(d:Nat) (v:Value),within n k d v=true→VR σ v (img bH.D τ d v):=by
 intro d
 induction d with
 | zero=>intro v h;cases h
 | succ d ih =>
   intro v h
   unfold within at h
   split at h
   ·rename_i i
    exact .sym (hD i (by simpa [Nat.blt_eq]using h))
   ·rename_i i o
    obtain⟨x,hx,h1,h2⟩:=TG i (by simpa [Nat.blt_eq]using h)
    have:=VR.ptr (o:=o) hx
    rw[h1,h2]at this
    exact this
   ·rename_i fn f c
    simp only[Bool.and_eq_true]at h
    obtain⟨a1,a2⟩:=Eh ih h.1
    obtain⟨b1,b2⟩:=Eh ih h.2
    exact .func a1 a2 b1 b2
   ·rename_i c
    obtain⟨a1,a2⟩:=Eh ih h
    exact .agg a1 a2
   ·rename_i c
    obtain⟨a1,a2⟩:=Eh ih h
    exact .tuple a1 a2
   ·rename_i t u
    exact .iface (ih u h)
   ·rename_i h1 h2 h3 h4 h5 h6
    have:img bH.D τ (d+1) v=v:=by
     unfold img
     split<;>first|rfl|(simp[simple]at h;done)|(rename_i e;first|exact absurd rfl (h1 _)|exact absurd rfl (h2 _ _)|exact absurd rfl (h3 _ _ _)|exact absurd rfl (h4 _)|exact absurd rfl (h5 _)|exact absurd rfl (h6 _ _))|exact absurd rfl (h1 _)|exact absurd rfl (h2 _ _)|exact absurd rfl (h3 _ _ _)|exact absurd rfl (h4 _)|exact absurd rfl (h5 _)|exact absurd rfl (h6 _ _)
    rw[this]
    exact .refl h
end
def rZ {α:Type} (f:Nat→Option α):List Nat→T α→T α
 | [],t=>t
 | i::l,t=>match f i with
   | some x=>rZ f l (t.set i x)
   | none=>rZ f l t
theorem wH {α:Type} (f:Nat→Option α):∀(l:List Nat) (t:T α),(∀j x,t.get j=some x→f j=some x)→∀j x,(rZ f l t).get j=some x→f j=some x:=by
 intro l
 induction l with
 | nil=>intro t h j x hj;exact h j x hj
 | cons i l ih =>
   intro t h j x hj
   simp only[rZ]at hj
   split at hj
   ·rename_i y hy
    refine ih (t.set i y) (fun k z hk => ?_) j x hj
    rw[T.mO]at hk
    split at hk
    ·rename_i e;subst e;cases hk;exact hy
    ·exact h k z hk
   ·exact ih t h j x hj
def dz (P:Program) (fs ts:List Nat) (rs:List fE) (Tw:World→Prop:=fun _=>True) (own:Nat→Prop:=fun _=>False) (cs:List (Nat×Bool):=[]):Env:=⟨P,rZ (Dq P) ts .nil,rZ (Qm P) fs .nil,rZ (J7 P) fs .nil,rs,fun w0=>∀w',Kept own w0 w'→Tw w',own,cs⟩
theorem MJ [bH] (P:Program) {t:Nat} {ti:TI} (h1:Dq P t=some ti):P.underlying t=some ti.desc∧∃i z,P.info? t=some i∧i.size=ti.size∧i.bytes=ti.bytes∧i.zero=some z∧z.cells.toList=ti.zero∧ti.zero.length=ti.size∧(∀v∈ti.zero,simple v=true)∧(yB ti.desc=false→ti.zero=[z])∧(yB ti.desc=true→z =.agg ti.zero.toArray):=by
 unfold Dq at h1
 split at h1
 ·rename_i i d hi hd
  split at h1
  ·rename_i z hz
   split at h1
   ·rename_i a1 a2 a3
    cases h1
    have e1:=Nat.eq_of_beq_eq_true a1
    refine⟨hd,i,z,hi,rfl,rfl,hz,rfl,e1,qL a2,fun hg => ?_,fun hg => ?_⟩
    ·simp only at hg
     cases z with
     | agg vs=>simp only at a3;rw[a3]at hg;cases hg
     | _=>simp only[Value.cells]
    ·simp only at hg
     cases z with
     | agg vs=>simp[Value.cells]
     | _=>simp only at a3;rw[hg]at a3;cases a3
   ·cases h1
  ·cases h1
 ·cases h1
theorem nI [bH] {P:Program} {fs ts:List Nat} {rs:List fE} {Tw:World→Prop} {own:Nat→Prop} {cs:List (Nat×Bool)} (hr:∀r∈rs,dL P Tw r) (hc:∀i b,rY cs i=some b→bH.D i =.bool b:=by intro _ _ h;cases h):jO (dz P fs ts rs Tw own cs) P where
 prog:=rfl
 types:=fun t ti h=>MJ P (wH (Dq P) _ _ (fun j x hj=>by rw[T.get_nil]at hj;cases hj) t ti h)
 funcs:=fun f fn h=>by
  have h1:Qm P f=some fn:=wH (Qm P) _ _ (fun j x hj=>by rw[T.get_nil]at hj;cases hj) f fn h
  unfold Qm at h1
  split at h1
  ·rename_i fn' hf
   split at h1
   ·rename_i c hc hn
    cases h1
    exact⟨hf,hn,c,hc⟩
   ·cases h1
  ·cases h1
 exts:=fun f x h=>by
  have h1:J7 P f=some x:=wH (J7 P) _ _ (fun j y hj=>by rw[T.get_nil]at hj;cases hj) f x h
  unfold J7 at h1
  split at h1
  ·rename_i fn hf
   split at h1
   ·rename_i hb hx hn
    exact⟨fn,hf,hn,hb,by simpa using hx,Bt h1⟩
   ·cases h1
  ·cases h1
 rules:=fun r hm o hk σ ρ' hv w0 w hT hb=>hr r hm o hk σ ρ' hv w (hT w hb)
 conds:=hc
abbrev DP:Nat:=5
abbrev im (D:Nat→Value) (τ:Nat→Nat×Nat) (v:Value):Value:=img D τ DP v
abbrev dU:=List (TypeId×List Value)
structure ah (w:World) (D:Nat→Value) (A:dU) (τ:Nat→Nat×Nat):Prop where
 at_:∀(i:Nat) p,A[i]? = some p→At w (τ i).1 (τ i).2 p.1 (p.2.map (im D τ))
 dist:∀i j,i<A.length→j<A.length→(τ i).1=(τ j).1→i=j
 low:∀i,i<A.length→1≤(τ i).1
theorem ah.lt {w:World} {D:Nat→Value} {A:dU} {τ:Nat→Nat×Nat} (h:ah w D A τ) {i:Nat} (hi:i<A.length):(τ i).1<w.heap.size :=
 (h.at_ i _ (List.getElem?_eq_getElem hi)).lt
theorem ah.keep {w w':World} {D:Nat→Value} {A:dU} {τ:Nat→Nat×Nat} (h:ah w D A τ) (hk:∀i,i<A.length→w'.heap[(τ i).1]? = w.heap[(τ i).1]?):ah w' D A τ :=
 ⟨fun i p hp=>(h.at_ i p hp).keep (hk i (List.getElem?_eq_some_iff.1 hp).1),h.dist,h.low⟩
theorem ah.below {w w':World} {D:Nat→Value} {A:dU} {τ:Nat→Nat×Nat} (h:ah w D A τ) (hb:Below w.heap.size w w'):ah w' D A τ :=
 h.keep fun _ hi=>hb.block _ (h.lt hi)
def pE (n:Nat) (A:dU):Bool:=A.all fun p=>p.2.all (within n A.length DP)
structure After' (A:dU) (τ:Nat→Nat×Nat) (D:Nat→Value) (ids:List Nat) (picks:List (Option (TypeId×List Value))) (w:World) (bf:Nat→Nat×Nat) (w':World):Prop where
 old:∀i,i<A.length→bf i=τ i
 left:w'.os=w.os∧w'.tape=w.tape∧w'.output=w.output∧w.heap.size≤w'.heap.size
 block:∀b,b<w.heap.size→(∀i,i<A.length→(τ i).1≠b)→w'.heap[b]? = w.heap[b]?
 at_:∀(k i:Nat) e l,ids[k]? = some i→picks[k]? = some (some (e,l))→(l.all (qd DP))=true→At w' (bf i).1 (bf i).2 e (l.map (im D bf))
 fresh:∀(k i:Nat) e l,ids[k]? = some i→picks[k]? = some (some (e,l))→A.length≤i→w.heap.size≤(bf i).1
 inj:∀(k i k' i':Nat) e l e' l',ids[k]? = some i→picks[k]? = some (some (e,l))→ids[k']? = some i'→picks[k']? = some (some (e',l'))→(bf i).1=(bf i').1→i=i'
theorem Lb {P:Program} (hP:P.follows .mixedOrders=true) {fs ts:List Nat} {Tw:World→Prop} (D:Nat→Value) {n:Nat} (hD:((List.range n).all fun i=>(D i).oneCell')=true) {rules:List fE} (hr:letI:bH:=⟨D⟩; ∀r∈rules,dL P Tw r) {n0:Nat} {S:qM} (XJ:letI:bH:=⟨D⟩; ∀w0,(∀w',Kept (fun _=>False) w0 w'→Tw w')→KO (dz P fs ts rules Tw) P w0 S) {fuel d:Nat} {f:FuncId} {args:List Value} {A:dU} {ids:List Nat} {v:Value} {picks:List (Option (TypeId×List Value))}
 (hA:pE n A=true) (vF:(args.all (within n A.length DP))=true) (TH:(A.all fun p=>((dz P fs ts rules Tw).types.get p.1).isSome)=true) (hv:qd DP v=true)
 (hrun:zx A.length (eB (dz P fs ts rules Tw) S fuel d (.fn f) args (kI A)) ids=[(v,true,picks)]) {w:World} {τ:Nat→Nat×Nat} (hT:∀w',Below (bare n0 w).heap.size (bare n0 w) w'→Tw w') (hlow:∀i,i<A.length→n0≤(τ i).1) (hS:ah w D A τ) :
 Calls P f (args.map (im D τ)).toArray w fun e w'=>∃bf,e =.returned (im D bf v)∧After' A τ D ids picks w bf w':=by
 letI:bH:=⟨D⟩
 have hDi:∀i,i<n→(bH.D i).oneCell'=true:=fun i hi=>List.all_eq_true.1 hD i (List.mem_range.2 hi)
 let B:Ri:=(List.range A.length).map fun i=>((τ i).1,(τ i).2,((A[i]?.map (·.2)).getD []).map (im D τ))
 have hB:∀(i:Nat) q,B[i]? = some q→∃p,A[i]? = some p∧q=((τ i).1,(τ i).2,p.2.map (im D τ)):=fun i q hq=>by
  have hi:i<A.length:=by
   have:=(List.getElem?_eq_some_iff.1 hq).1
   simpa [B]using this
  refine⟨A[i],List.getElem?_eq_getElem hi,?_⟩
  simp only[B,List.getElem?_map,List.getElem?_range hi,Option.map_some,Option.some.injEq,List.getElem?_eq_getElem hi,Option.getD_some]at hq
  exact hq.symm
 have kV:B.length=A.length:=by simp[B]
 have hsg:∀{σ:Sg},Pp σ B→∀i,i<A.length→∃x,σ i=some x∧x.b=(τ i).1∧x.sh=(τ i).2:=fun{σ} h i hi=>by
  obtain⟨q,hq⟩:∃q,B[i]? = some q:=⟨B[i]'(by rw[kV];exact hi),List.getElem?_eq_getElem _⟩
  obtain⟨x,hx,h1,h2⟩:=h i q hq
  obtain⟨p,_,rfl⟩:=hB i q hq
  exact⟨x,hx,h1,h2⟩
 have hrel:∀{σ:Sg},Pp σ B→∀l:List Value,l.all (within n A.length DP)=true→cZ σ l (l.map (im D τ)):=fun{σ} h l=>by
  induction l with
  | nil=>intro _;exact cZ.nil σ
  | cons a l ih =>
    intro hl
    simp only[List.all_cons,Bool.and_eq_true]at hl
    exact cZ.cons (DI hDi (hsg h) DP a hl.1) (ih hl.2)
 have hI:A7 (dz P fs ts rules Tw) w A B :=
  { len:=kV.symm
    types:=TH
    at_:=fun i p q hp hq=>by
     obtain⟨p',hp',rfl⟩:=hB i q hq
     rw[hp]at hp';cases hp'
     exact⟨hS.at_ i p hp,by simp⟩
    dist:=fun i j q r hq hr h=>by
     have hi:i<A.length:=by rw[←kV];exact(List.getElem?_eq_some_iff.1 hq).1
     have hj:j<A.length:=by rw[←kV];exact(List.getElem?_eq_some_iff.1 hr).1
     obtain⟨_,_,rfl⟩:=hB i q hq
     obtain⟨_,_,rfl⟩:=hB j r hr
     exact hS.dist i j hi hj h
    rel:=fun σ hσ i p q hp hq=>by
     obtain⟨p',hp',rfl⟩:=hB i q hq
     rw[hp]at hp';cases hp'
     exact hrel hσ p.2 (List.all_eq_true.1 hA p (List.mem_of_getElem? hp)) }
 refine(P5 hP (nI hr) (fun _=>Iff.rfl) XJ hrun (fun w' hk=>hT w' (Kept.below hk)) (fun q hq => .inl (by
  obtain⟨i,hi⟩:=List.getElem?_of_mem hq
  have hlt:i<A.length:=by rw[←kV];exact(List.getElem?_eq_some_iff.1 hi).1
  obtain⟨_,_,rfl⟩:=hB i q hi
  exact hlow i hlt)) hI (args':=(args.map (im D τ)).toArray) (fun σ hσ=>by simpa using hrel hσ args vF)).mono ?_
 rintro e w' ⟨v',σ',rfl,hR⟩
 have hpos:∀i x,σ' i=some x→fB σ' i=(x.b,x.sh):=fun i x hx=>by unfold fB;rw[hx]
 have TU:∀{l l':List Value},cZ σ' l l'→l.all (qd DP)=true→l'=l.map (im D (fB σ')):=fun{l}=>by
  induction l with
  | nil=>intro l' h _;exact List.eq_nil_of_length_eq_zero h.1.symm
  | cons a l ih =>
    intro l' h ho
    simp only[List.all_cons,Bool.and_eq_true]at ho
    cases l' with
    | nil=>exact absurd h.1 (by simp)
    | cons b l' =>
      rw[Ir DP a b h.head ho.1,ih h.tail ho.2]
      rfl
 refine⟨fB σ',by rw[Ir DP v v' hR.val hv];rfl,?_⟩
 refine⟨fun i hi => ?_,⟨hR.left.os,hR.left.tape,hR.left.output,hR.left.size⟩,fun b hb hn=>hR.left.block b hb (fun q hq e => ?_),fun k i e l hk hpk ho => ?_,fun k i e l hk hpk hi => ?_,fun k i k' i' e l e' l' hk hpk hk' hpk' hxy => ?_⟩
 ·obtain⟨x,hx,h1,h2⟩:=hsg hR.sg i hi
  rw[hpos i x hx,h1,h2]
 ·obtain⟨i,hi⟩:=List.getElem?_of_mem hq
  have hlt:i<A.length:=by rw[←kV];exact(List.getElem?_eq_some_iff.1 hi).1
  obtain⟨_,_,rfl⟩:=hB i q hi
  exact hn i hlt e
 ·obtain⟨x,l',hx,hat,yH⟩:=hR.lies k i e l hk hpk
  rw[hpos i x hx,←TU yH ho]
  exact hat
 ·obtain⟨x,l',hx,hat,yH⟩:=hR.lies k i e l hk hpk
  rw[hpos i x hx]
  exact hR.fresh k i e l x hk hpk (by rw[kV];exact hi) hx
 ·obtain⟨x,_,hx,_,_⟩:=hR.lies k i e l hk hpk
  obtain⟨y,_,hy,_,_⟩:=hR.lies k' i' e' l' hk' hpk'
  rw[hpos i x hx,hpos i' y hy]at hxy
  exact hR.inj k i k' i' e l e' l' x y hk hpk hk' hpk' hx hy hxy
theorem After'.stands {A:dU} {τ:Nat→Nat×Nat} {D D':Nat→Value} {ids:List Nat} {pk A':dU} {w w':World} {bf:Nat→Nat×Nat} (h:After' A τ D ids (pk.map some) w bf w')
 (hlow:∀i,i<A.length→1≤(τ i).1) (hsz:1≤w.heap.size) (hok:(pk.all fun p=>p.2.all (qd DP))=true) (hnd:ids.Nodup) (hlen:ids.length=pk.length) (hmap:pk.map (fun p=>(p.1,p.2.map (im D bf)))=A'.map (fun p=>(p.1,p.2.map (im D' fun k=>bf (ids.getD k 0))))) :
 ah w' D' A' (fun k=>bf (ids.getD k 0)):=by
 have hl:pk.length=A'.length:=by have:=congrArg List.length hmap;simpa using this
 have hid:∀k,k<A'.length→∃i e l,ids[k]? = some i∧ids.getD k 0=i∧pk[k]? = some (e,l)∧(pk.map some)[k]? = some (some (e,l)):=fun k hk=>by
  have h1:k<ids.length:=by omega
  have h2:k<pk.length:=by omega
  refine⟨ids[k],pk[k].1,pk[k].2,List.getElem?_eq_getElem h1,by simp[List.getD,h1],List.getElem?_eq_getElem h2,?_⟩
  rw[List.getElem?_map,List.getElem?_eq_getElem h2]
  rfl
 refine⟨fun k p hp => ?_,fun k j hk hj hkj => ?_,fun k hk => ?_⟩
 ·have hk:=(List.getElem?_eq_some_iff.1 hp).1
  obtain⟨i,e,l,h1,h2,h3,h4⟩:=hid k hk
  have hat:=h.at_ k i e l h1 h4 (List.all_eq_true.1 hok _ (List.mem_of_getElem? h3))
  have hm:(pk.map (fun p=>(p.1,p.2.map (im D bf))))[k]? =(A'.map (fun p=>(p.1,p.2.map (im D' fun k=>bf (ids.getD k 0)))))[k]? := by rw[hmap]
  rw[List.getElem?_map,List.getElem?_map,h3,hp]at hm
  simp only[Option.map_some,Option.some.injEq,Prod.mk.injEq]at hm
  show At w' (bf (ids.getD k 0)).1 (bf (ids.getD k 0)).2 p.1 _
  rw[h2,←hm.1,←hm.2]
  exact hat
 ·obtain⟨i,e,l,h1,h2,h3,h4⟩:=hid k hk
  obtain⟨i',e',l',h1',h2',h3',h4'⟩:=hid j hj
  have Oa:(bf (ids.getD k 0)).1=(bf (ids.getD j 0)).1:=hkj
  rw[h2,h2']at Oa
  have:=h.inj k i j i' e l e' l' h1 h4 h1' h4' Oa
  subst this
  exact(List.getElem?_inj (by omega) hnd).1 (h1.trans h1'.symm)
 ·obtain⟨i,e,l,h1,h2,h3,h4⟩:=hid k hk
  show 1≤(bf (ids.getD k 0)).1
  rw[h2]
  rcases Nat.lt_or_ge i A.length with h5|h5
  ·rw[h.old i h5];exact hlow i h5
  ·exact Nat.le_trans hsz (h.fresh k i e l h1 h4 h5)
theorem og {P:Program} {Tw:World→Prop} [bH]:∀r∈([]:List fE),dL P Tw r:=fun _ h=>by cases h
theorem dZ {P:Program} {Tw:World→Prop} [bH] {r:fE} {l:List fE} (h:dL P Tw r) (hl:∀s∈l,dL P Tw s):∀s∈r::l,dL P Tw s:=fun s hs=>by
 rcases List.mem_cons.1 hs with rfl|hs
 ·exact h
 ·exact hl s hs
theorem AR {P:Program} {Tw:World→Prop} [bH]:∀r∈([]:om),ni P Tw r:=fun _ h=>by cases h
theorem Cw {P:Program} {Tw:World→Prop} [bH] {r:FuncId×List Value×Value} {l:om} (h:ni P Tw r) (hl:∀s∈l,ni P Tw s):∀s∈r::l,ni P Tw s:=fun s hs=>by
 rcases List.mem_cons.1 hs with rfl|hs
 ·exact h
 ·exact hl s hs
theorem jP {n:Int} (h0 : -9223372036854775808≤n) (h1:n≤9223372036854775807):IntKind.i64.wrap n=n:=by
 rw[IntKind.wrap_i64];omega
def okB [bH]:Value→Bool
 | .complex .f32 30 i=>(bH.D i).oneCell'
 | v=>simple v
theorem dJ [bH] {v:Value} (h:okB v=true):BO v:=by
 unfold okB at h
 unfold BO
 split
 ·exact h
 ·rename_i h2
  split at h
  ·exact absurd rfl (h2 _)
  ·exact h
theorem VT {P:Program} {Tw:World→Prop} [bH] (op:BinOp) {t u:TypeId} {a b r v:Value} {j k:IntKind} {x y:Int} (h0:(okB a&&okB b&&okB r)=true) (hca:bR a =.int j x) (hcb:bR b =.int k y) (hcr:bR r=v) (h:binop (dz P [] [] []) op t (.int j x) (.int k y)=some v) (hs:simple v=true) :
 dL P Tw ⟨(pQ op,t,u),[a,b],r⟩:=by
 simp only[Bool.and_eq_true]at h0
 exact M4 (nI (Tw:=fun _=>True) (cs:=[]) og) (dJ h0.1.1) (dJ h0.1.2) (dJ h0.2) (by rw[hca];rfl) (by rw[hcb];rfl) (by rw[hca];exact fun h=>by cases h) (by rw[hca,hcb,hcr];exact h) (by rw[hcr];exact hs)
theorem VW {P:Program} {Tw:World→Prop} [bH] {s d:TypeId} {a r:Value} {j k:IntKind} {n n':Int} (h0:(okB a&&okB r)=true) (hca:bR a =.int j n) (hcr:bR r =.int k n') (ht:(match Dq P s,Dq P d with|some _,some td=>(match td.desc with | .int k'=>sameKind k' k|_=>false)|_,_=>false)=true) (h:k.wrap n=n') :
 dL P Tw ⟨(1,s,d),[a],r⟩:=by
 simp only[Bool.and_eq_true]at h0
 refine Lc (E:=dz P [] [s,d] []) (nI (Tw:=fun _=>True) (cs:=[]) og) (fun _ _ _=>trivial) (dJ h0.1) (dJ h0.2) hca hcr ?_ h
 split at ht
 ·rename_i ts td h1 h2
  split at ht
  ·rename_i k' hd
   have:=jm ht
   subst this
   have g:∀q,(dz P [] [s,d] []).types.get q=(rZ (Dq P) [s,d] .nil).get q:=fun _=>rfl
   refine⟨ts,td,?_,?_,hd⟩
   ·rw[g];simp only[rZ,h1,h2,T.mO]
    by_cases e:d=s
    ·subst e;rw[if_pos rfl,←h2,h1]
    ·simp[e]
   ·rw[g];simp[rZ,h1,h2,T.mO]
  ·cases ht
 ·cases ht
theorem yG {D:Nat→Value} {n:Nat} {τ R4:Nat→Nat×Nat}:∀(d:Nat) (v:Value),within n 0 d v=true→img D τ d v=img D R4 d v:=by
 intro d
 induction d with
 | zero=>intro v h;cases h
 | succ d ih =>
   have arr:∀c:Array Value,c.toList.all (within n 0 d)=true→mapA (img D τ d) c=mapA (img D R4 d) c:=fun c h=>by
    unfold mapA
    rw[List.map_congr_left fun x hx=>ih x (List.all_eq_true.1 h x hx)]
   intro v h
   unfold within at h
   split at h
   ·rfl
   ·simp at h
   ·simp only[Bool.and_eq_true]at h
    simp only[img,arr _ h.1,arr _ h.2]
   ·simp only[img,arr _ h]
   ·simp only[img,arr _ h]
   ·simp only[img,ih _ h]
   ·rename_i h1 h2 h3 h4 h5 h6
    unfold img
    split<;>first|rfl|(simp[simple]at h;done)|(simp[simple]at hv;done)|exact absurd rfl (h1 _)|exact absurd rfl (h2 _ _)|exact absurd rfl (h3 _ _ _)|exact absurd rfl (h4 _)|exact absurd rfl (h5 _)|exact absurd rfl (h6 _ _)
theorem Hy:∀(d:Nat) {n k:Nat} (v:Value),within n k d v=true→qd d v=true:=by
 intro d
 induction d with
 | zero=>intro n k v h;cases h
 | succ d ih =>
   have arr:∀{n k:Nat} (c:Array Value),c.toList.all (within n k d)=true→c.toList.all (qd d)=true:=fun{n k} c h=>List.all_eq_true.2 fun x hx=>ih x (List.all_eq_true.1 h x hx)
   intro n k v h
   unfold within at h
   split at h
   ·rfl
   ·rfl
   ·simp only[Bool.and_eq_true]at h
    simp only[qd,arr _ h.1,arr _ h.2,Bool.and_self]
   ·simp only[qd,arr _ h]
   ·simp only[qd,arr _ h]
   ·simp only[qd,ih _ h]
   ·rename_i h1 h2 h3 h4 h5 h6
    unfold qd
    split<;>first|rfl|exact h|exact absurd rfl (h1 _)|exact absurd rfl (h2 _ _)|exact absurd rfl (h3 _ _ _)|exact absurd rfl (h4 _)|exact absurd rfl (h5 _)|exact absurd rfl (h6 _ _)
theorem zR [bH] {σ:Sg} {d:Nat}:∀{l l':List Value},cZ σ l l'→l.all (qd d)=true→l'=l.map (img bH.D (fB σ) d)
 | [],l',h,_=>List.eq_nil_of_length_eq_zero h.1.symm
 | a::l,[],h,_=>absurd h.1 (by simp)
 | a::l,b::l',h,ho=>by
   simp only[List.all_cons,Bool.and_eq_true]at ho
   rw[Ir d a b h.head ho.1,zR h.tail ho.2]
   rfl
abbrev bI:Nat→Nat×Nat:=fun _=>(0,0)
theorem VX {P:Program} {Tw:World→Prop} {D:Nat→Value} {n:Nat} (hD:((List.range n).all fun i=>(D i).oneCell')=true) {f:FuncId} {as:List Value} {v:Value} (h0:(as.all (within n 0 DP)&&within n 0 DP v)=true) {args:Array Value} {r:Value} (ha:(as.map (im D bI)).toArray=args) (hr:im D bI v=r)
 (h:∀w,Tw w→Calls P f args w fun e w'=>e =.returned r∧Below w.heap.size w w'):letI:bH:=⟨D⟩;ni P Tw (f,as,v):=by
 letI:bH:=⟨D⟩
 simp only[Bool.and_eq_true]at h0
 intro σ args' hl w hT
 have e1:=zR (d:=DP) hl (List.all_eq_true.2 fun x hx=>Hy DP x (List.all_eq_true.1 h0.1 x hx))
 have e2:as.map (img bH.D (fB σ) DP)=as.map (im D bI):=List.map_congr_left fun x hx=>yG (n:=n) DP x (List.all_eq_true.1 h0.1 x hx)
 have e3:args'=args:=by rw[←ha];exact Array.ext' (by rw[e1];simpa using e2)
 rw[e3]
 refine(h w hT).mono ?_
 rintro e w' ⟨rfl,hb⟩
 refine⟨r,rfl,?_,hb⟩
 rw[←hr]
 exact DI (n:=n) (k:=0) (fun i hi=>List.all_eq_true.1 hD i (List.mem_range.2 hi)) (fun i hi=>absurd hi (Nat.not_lt_zero _)) DP v h0.2
def dl (L:List Value):Nat→Value:=fun i=>L.getD i .nilIface
theorem DJ {D D2:Nat→Value} {n k:Nat} {τ:Nat→Nat×Nat} (h:∀i,i<n→D i=D2 i):∀(d:Nat) (v:Value),within n k d v=true→img D τ d v=img D2 τ d v:=by
 intro d
 induction d with
 | zero=>intro v h;cases h
 | succ d ih =>
   have arr:∀c:Array Value,c.toList.all (within n k d)=true→mapA (img D τ d) c=mapA (img D2 τ d) c:=fun c h=>by
    unfold mapA
    rw[List.map_congr_left fun x hx=>ih x (List.all_eq_true.1 h x hx)]
   intro v hv
   unfold within at hv
   split at hv
   ·rename_i i
    exact h i (by simpa [Nat.blt_eq]using hv)
   ·rfl
   ·simp only[Bool.and_eq_true]at hv
    simp only[img,arr _ hv.1,arr _ hv.2]
   ·simp only[img,arr _ hv]
   ·simp only[img,arr _ hv]
   ·simp only[img,ih _ hv]
   ·rename_i h1 h2 h3 h4 h5 h6
    unfold img
    split<;>first|rfl|(simp[simple]at h;done)|(simp[simple]at hv;done)|exact absurd rfl (h1 _)|exact absurd rfl (h2 _ _)|exact absurd rfl (h3 _ _ _)|exact absurd rfl (h4 _)|exact absurd rfl (h5 _)|exact absurd rfl (h6 _ _)
theorem ah.more {w:World} {L:List Value} {A:dU} {τ:Nat→Nat×Nat} (h:ah w (dl L) A τ) (hA:pE L.length A=true) (X:List Value):ah w (dl (L++X)) A τ:=by
 refine⟨fun i p hp => ?_,h.dist,h.low⟩
 have he:p.2.map (im (dl (L++X)) τ)=p.2.map (im (dl L) τ):=List.map_congr_left fun x hx =>
  (DJ (n:=L.length) (k:=A.length) (fun i hi=>by simp only[dl,List.getD];rw[List.getElem?_append_left hi]) DP x (List.all_eq_true.1 (List.all_eq_true.1 hA p (List.mem_of_getElem? hp)) x hx)).symm
 rw[he]
 exact h.at_ i p hp
structure bK (A:dU) (τ:Nat→Nat×Nat) (w:World) (A':dU) (bf:Nat→Nat×Nat) (w':World):Prop where
 os:w'.os=w.os
 tape:w'.tape=w.tape
 output:w'.output=w.output
 size:w.heap.size≤w'.heap.size
 block:∀b,b<w.heap.size→(∀i,i<A.length→(τ i).1≠b)→w'.heap[b]? = w.heap[b]?
 new:∀i,i<A'.length→(∃j,j<A.length∧(bf i).1=(τ j).1)∨w.heap.size≤(bf i).1
theorem After'.moved {A:dU} {τ:Nat→Nat×Nat} {D:Nat→Value} {ids:List Nat} {pk A':dU} {w w':World} {bf:Nat→Nat×Nat} (h:After' A τ D ids (pk.map some) w bf w') (hl1:ids.length=pk.length) (hl2:A'.length=pk.length) :
 bK A τ w A' (fun k=>bf (ids.getD k 0)) w':=by
 refine⟨h.left.1,h.left.2.1,h.left.2.2.1,h.left.2.2.2,h.block,fun k hk => ?_⟩
 have h1:k<ids.length:=by omega
 have h2:k<pk.length:=by omega
 have e:ids.getD k 0=ids[k]:=by simp[List.getD,h1]
 rw[e]
 rcases Nat.lt_or_ge ids[k] A.length with h3|h3
 ·exact .inl ⟨ids[k],h3,by rw[h.old _ h3]⟩
 ·refine .inr (h.fresh k ids[k] pk[k].1 pk[k].2 (List.getElem?_eq_getElem h1) ?_ h3)
  rw[List.getElem?_map,List.getElem?_eq_getElem h2];rfl
theorem Jf [bH] {E:Env} {t:TypeId} {k:IntKind} {a b r:Int} (h:bits .or k a b=r):binop E .or t (.int k a) (.int k b)=some (.int k r):=by subst h;cases k<;>rfl
theorem He {P:Program} {Tw:World→Prop} [bH] {t u:TypeId} {a r:Value} {k:IntKind} {n n':Int} (h0:(okB a&&okB r)=true) (hca:bR a =.int k n) (hcr:bR r =.int k n') (h:k.wrap (0-n)=n') :
 dL P Tw ⟨(30,t,u),[a],r⟩:=by
 simp only[Bool.and_eq_true]at h0
 intro o hk σ ρ' hv w _
 obtain⟨x,ho⟩:=NM (op :=.neg) hk
 have hc:=hv.bR (by intro z hz;simp at hz;subst hz;exact dJ h0.1)
 rw[ho]at hc
 simp only[Op.operands,List.map_cons,List.map_nil,List.cons.injEq,and_true]at hc
 refine⟨bR r,?_,VR.gF (dJ h0.2)⟩
 have e:execOp ρ' o=(do pure (.value (←Op.unary .neg (ρ' x)))):=by simp[execOp,ho]
 rw[e,show ρ' x =.int k n from hc.trans hca,hcr,←h]
 rfl
theorem G6 (w:World) (D:Nat→Value):ah w D [] bI:=⟨fun i p h=>by simp at h,fun i j h=>absurd h (Nat.not_lt_zero _),fun i h=>absurd h (Nat.not_lt_zero _)⟩
theorem TF [bH] {o:Oper} {mx:Bool} {a b:Nat} (h:jl o=some (cond mx 7 6,a,b)):∃c,o.op =.call c∧c.callee =.builtin (cond mx .max .min):=by
 have hk:cond mx 7 6=6∨cond mx 7 6=7:=by cases mx<;>simp
 unfold jl at h
 split at h
 ·rename_i op' t' x y u' ho
  simp only[Option.some.injEq,Prod.mk.injEq]at h
  have:=kG op';omega
 ·rename_i op' t' x ho
  simp only[Option.some.injEq,Prod.mk.injEq]at h
  have:=j4 op';omega
 ·simp only[Option.some.injEq,Prod.mk.injEq]at h;omega
 ·simp only[Option.some.injEq,Prod.mk.injEq]at h;omega
 ·simp only[Option.some.injEq,Prod.mk.injEq]at h;omega
 ·simp only[Option.some.injEq,Prod.mk.injEq]at h;omega
 ·simp only[Option.some.injEq,Prod.mk.injEq]at h;omega
 ·simp only[Option.some.injEq,Prod.mk.injEq]at h;omega
 ·simp only[Option.some.injEq,Prod.mk.injEq]at h;omega
 ·simp only[Option.some.injEq,Prod.mk.injEq]at h;omega
 ·simp only[Option.some.injEq,Prod.mk.injEq]at h;omega
 ·rename_i c ho
  split at h<;>first
   | (cases mx<;>simp only[Option.some.injEq,Prod.mk.injEq,cond]at h<;>first|omega|exact⟨c,ho,by assumption⟩)
   | cases h
 ·cases h
theorem rmm {P:Program} {Tw:World→Prop} [bH] (mx:Bool) {t u:TypeId} {a b r:Value} {k:IntKind} {x y z:Int} (h0:(okB a&&okB b&&okB r)=true) (hca:bR a =.int k x) (hcb:bR b =.int k y) (hcr:bR r =.int k z) (h:cond mx (if y>x then y else x) (if y<x then y else x)=z) :
 dL P Tw ⟨(cond mx 7 6,t,u),[a,b],r⟩:=by
 simp only[Bool.and_eq_true]at h0
 intro o hk σ ρ' hv w _
 obtain⟨c,ho,hc⟩:=TF hk
 have hcc:=hv.bR (by intro z hz;simp at hz;rcases hz with rfl|rfl<;>first|exact dJ h0.1.1|exact dJ h0.1.2)
 rw[ho]at hcc
 have hops:c.operands=c.args:=by cases mx<;>simp[Call.operands,hc]
 simp only[Op.operands,hops]at hcc
 obtain⟨ox,oy,hargs⟩:∃ox oy,c.args.toList=[ox,oy]:=by
  match hl:c.args.toList,hcc with
  | [ox,oy],_=>exact⟨ox,oy,rfl⟩
  | [],h=>simp at h
  | [_],h=>simp at h
  | _::_::_::_,h=>simp at h
 rw[hargs]at hcc
 simp only[List.map_cons,List.map_nil,List.cons.injEq,and_true]at hcc
 classical
 have hx:ρ' ox =.int k x:=hcc.1.trans hca
 have hy:ρ' oy =.int k y:=hcc.2.trans hcb
 let ρ:Operand→Value:=fun q=>if q=ox∨q=oy then ρ' q else bad
 have hρ:∀q,VR (fun _=>none:Sg) (ρ q) (ρ' q):=fun q=>by
  by_cases e:q=ox∨q=oy
  ·simp only[ρ,if_pos e]
   rcases e with rfl|rfl
   ·rw[hx];exact .refl rfl
   ·rw[hy];exact .refl rfl
  ·simp only[ρ,if_neg e];exact .any _
 have ZL:ρ ox =.int k x:=by simp only[ρ,true_or,if_true];exact hx
 have ZK:ρ oy =.int k y:=by simp only[ρ,or_true,if_true];exact hy
 have hsk:sameKind k k=true:=by cases k<;>rfl
 have hev:kC (dz P [] [] []) ρ o ⟨0,.nil⟩=[.val (.int k z)]:=by
  unfold kC
  rw[ho]
  simp only[qH,hc]
  cases mx<;>simp only[cond,hargs,ZL,ZK,zK,hsk,ow]at h ⊢ <;> rw[h]
 obtain⟨out,hmem,hout⟩:=qA (nI (P:=P) (fs:=[]) (ts:=[]) (Tw:=fun _=>True) (cs:=[]) og) (MR.start _ w (fun _ _=>trivial)) hρ o (by rw[hev];simp)
 rw[hev]at hmem
 obtain rfl:out =.val (.int k z):=by simpa using hmem
 obtain⟨nx,v',hrun,hnx,yH⟩:=hout
 obtain rfl:=yH.aB rfl
 refine⟨bR r,?_,VR.gF (dJ h0.2)⟩
 rw[hcr,hrun]
 cases nx<;>first|(simp only[jX,Option.some.injEq]at hnx;subst hnx;rfl)|(simp only[jX,Option.some.injEq]at hnx;cases hnx)|(simp[jX]at hnx)
end
end Go.AS
namespace Go.Base
open Go
def fJ (n:Int):Prop:=n=256∨n=512∨n=1024∨n=2048∨n=4096∨n=8192
instance (n:Int):Decidable (fJ n):=by unfold fJ;infer_instance
def Cx (base term aV subs:Int):Prop:=fJ term∧32≤aV∧aV≤term/8∧aV%32=0∧1≤subs∧subs≤8∧0≤base∧base%8=0∧base≤131072-3*term-128
instance (a b c d:Int):Decidable (Cx a b c d):=by unfold Cx;infer_instance
def SA (m:Nat):Bool := !(Nat.ble 256 m&&Nat.ble m 8192)||((Nat.beq (m &&& (m-1)) 0)==(Nat.beq m 256||Nat.beq m 512||Nat.beq m 1024||Nat.beq m 2048||Nat.beq m 4096||Nat.beq m 8192))
theorem Na:((List.range 33).all fun a=>(List.range 256).all fun b=>SA (256*a+b))=true:=by decide +kernel
theorem Lf (n:Nat) (h0:256≤n) (h1:n≤8192):(n &&& (n-1)=0)↔fJ (n:Int):=by
 have key:SA n=true:=by
  have h2:=List.all_eq_true.1 Na (n/256) (List.mem_range.2 (by omega))
  have h3:=List.all_eq_true.1 h2 (n%256) (List.mem_range.2 (by omega))
  rwa [Nat.div_add_mod]at h3
 have e1:Nat.ble 256 n=true:=by rw[Nat.ble_eq];exact h0
 have e2:Nat.ble n 8192=true:=by rw[Nat.ble_eq];exact h1
 simp only[SA,e1,e2,Bool.and_self,Bool.not_true,Bool.false_or,beq_iff_eq]at key
 unfold fJ
 constructor
 ·intro h
  have h2:Nat.beq (n &&& (n-1)) 0=true:=by rw[Nat.beq_eq];exact h
  rw[h2]at key
  have h3:=key.symm
  simp only[Bool.or_eq_true,Nat.beq_eq]at h3
  omega
 ·intro h
  have h3:(Nat.beq n 256||Nat.beq n 512||Nat.beq n 1024||Nat.beq n 2048||Nat.beq n 4096||Nat.beq n 8192)=true:=by
   simp only[Bool.or_eq_true,Nat.beq_eq]
   omega
  rw[h3]at key
  rw[Nat.beq_eq]at key
  exact key
