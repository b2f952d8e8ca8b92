import Derived.Test.YtlaogoehmndcjaaGreatDoorZ16
import Derived.Test.YtlaogoehmndcjaaGreatDoorZ29
import Derived.Test.YtlaogoehmndcjaaGreatDoorZ30
set_option maxRecDepth 100000
set_option linter.unusedVariables false
set_option linter.unusedSectionVars false
set_option linter.unusedSimpArgs false
namespace Go.Proofs.YtlaogoehmndcjaaGreatDoor.Sy
open Go RowKit Lib AS Base Ba
noncomputable section
def ownB (A:dU) (τ:Nat→Nat×Nat) (b:Nat):Prop:=∃i,i<A.length∧(τ i).1=b
abbrev dN [bH] (Tw:World→Prop) (R:List fE):Prop:=∀r∈R,dL Tryz.prog Tw r
abbrev gY [bH] (Tw:World→Prop) (p:om):Prop:=∀r∈p,ni Tryz.prog Tw r
abbrev xM [bH] (fs ts:List Nat) (R:List fE) (Tw:World→Prop) (o:Nat→Prop) (l:List Fr) (cs:List (Nat×Bool):=[]):Prop:=∀r∈l,Jr (dz Tryz.prog fs ts R Tw o cs) Tryz.prog Tw r
section
variable [bH] {Tw:World→Prop}
theorem gn:dN Tw []:=og
theorem qn:gY Tw []:=AR
theorem fn0 {fs ts:List Nat} {R:List fE} {o:Nat→Prop} {cs:List (Nat×Bool)}:xM fs ts R Tw o [] cs:=O8
theorem rg {r:fE} {l:List fE} (h:dL Tryz.prog Tw r) (hl:dN Tw l):dN Tw (r::l):=dZ h hl
theorem M6 (k:IntKind) (x y:Int) {t u:TypeId} {a b r:Value} {l:List fE} (hl:dN Tw l) (h0:(okB a&&okB b&&okB r)=true:=by kernel_rfl) (hca:bR a =.int k x:=by kernel_rfl) (hcb:bR b =.int k y:=by kernel_rfl) (hcr:bR r =.int k (min x y):=by kernel_rfl):dN Tw (⟨(6,t,u),[a,b],r⟩::l) :=
 dZ (rmm false h0 hca hcb hcr (by show(if y<x then y else x)=min x y;rw[Int.min_def];split<;>split<;>omega)) hl
theorem YW (x y:Bool) (hxy:x=y) {t u:TypeId} {a r:Value} {l:List fE} (hl:dN Tw l) (h0:(okB a&&okB r)=true:=by kernel_rfl) (hca:bR a =.bool x:=by kernel_rfl) (hcr:bR r =.bool (!y):=by kernel_rfl):dN Tw (⟨(32,t,u),[a],r⟩::l):=by
 subst hxy
 refine dZ ?_ hl
 simp only[Bool.and_eq_true]at h0
 intro o hk σ ρ' hv w _
 obtain⟨y,ho⟩:=NM (op :=.not) hk
 have hc:=hv.bR (by intro z hz;simp at hz;subst hz;exact dJ h0.1)
 rw[ho]at hc
 simp only[Op.operands,List.map_cons,List.map_nil,List.cons.injEq,and_true]at hc
 refine⟨bR r,?_,VR.gF (dJ h0.2)⟩
 have e:execOp ρ' o=(do pure (.value (←Op.unary .not (ρ' y)))):=by simp[execOp,ho]
 rw[e,show ρ' y =.bool x from hc.trans hca,hcr]
 rfl
def sD (a:Option Addr) (c l:Nat):Option Addr:=if c=l then a else a.map (·.add l)
theorem Ip:∃ie,Tryz.prog.info? 5=some ie∧ie.size=1:=by
 obtain⟨i0,hi,_,h1,_⟩:=info_parts xK
 exact⟨i0,hi,h1⟩
theorem NQ:∃ie,Tryz.prog.info? 3=some ie∧ie.size=1:=by
 obtain⟨i0,hi,_,h1,_⟩:=info_parts lZ
 exact⟨i0,hi,h1⟩
theorem CZ (ad:Option Addr) (n cp:Nat) (k:IntKind) (lo:Int) (h:0≤lo∧lo≤n∧n≤cp) {a b r:Value} {l:List fE} (hl:dN Tw l) (h0:(okB a&&okB b&&okB r)=true:=by kernel_rfl) (hca:bR a =.slice ad n cp:=by kernel_rfl) (hcb:bR b =.int k lo:=by kernel_rfl) (hcr:bR r =.slice (sD ad cp lo.toNat) (n-lo.toNat) (cp-lo.toNat):=by kernel_rfl):dN Tw (⟨(3,32,1),[a,b],r⟩::l):=by
 obtain⟨ie,hi,hs⟩:=Ip
 obtain⟨m,rfl⟩:=Int.eq_ofNat_of_zero_le h.1
 refine dZ (P8 (l:=m) Tryz.underlying32 hi h0 hca hcb ?_ (by omega) h.2.2) hl
 rw[hcr,hs]
 simp[sD]
theorem add_zero' (ad:Addr):ad.add 0=ad:=by
 cases ad
 rename_i b o s
 cases s<;>simp[Addr.add]
theorem Qa (ad:Option Addr) (n cp:Nat) (k:IntKind) (h:Int) (hh:0≤h∧h≤cp) {a b r:Value} {l:List fE} (hl:dN Tw l) (h0:(okB a&&okB b&&okB r)=true:=by kernel_rfl) (hca:bR a =.slice ad n cp:=by kernel_rfl) (hcb:bR b =.int k h:=by kernel_rfl) (hcr:bR r =.slice ad h.toNat cp:=by kernel_rfl):dN Tw (⟨(3,32,2),[a,b],r⟩::l):=by
 obtain⟨ie,hi,hs⟩:=Ip
 obtain⟨m,rfl⟩:=Int.eq_ofNat_of_zero_le hh.1
 refine dZ (P7 (h:=m) Tryz.underlying32 hi h0 hca hcb ?_ (by omega)) hl
 rw[hcr]
 have e:(ad.map fun x:Addr=>x.add (0*ie.size))=ad:=by
  cases ad with
  | none=>rfl
  | some a=>simp[add_zero']
 rw[e]
 simp
theorem P9 (ad:Option Addr) (n cp:Nat) (k j:IntKind) (h m:Int) (hh:0≤h∧h≤m∧m≤cp) {a b c r:Value} {l:List fE} (hl:dN Tw l) (h0:(okB a&&okB b&&okB c&&okB r)=true:=by kernel_rfl) (hca:bR a =.slice ad n cp:=by kernel_rfl) (hcb:bR b =.int k h:=by kernel_rfl) (hcc:bR c =.int j m:=by kernel_rfl) (hcr:bR r =.slice ad h.toNat m.toNat:=by kernel_rfl):dN Tw (⟨(3,32,6),[a,b,c],r⟩::l):=by
 obtain⟨ie,hi,hs⟩:=Ip
 obtain⟨h',rfl⟩:=Int.eq_ofNat_of_zero_le hh.1
 obtain⟨m',rfl⟩:=Int.eq_ofNat_of_zero_le (Int.le_trans hh.1 hh.2.1)
 refine dZ ?_ hl
 simp only[Bool.and_eq_true]at h0
 intro o hk σ ρ' hvl w hT
 obtain⟨x,lo,hi',mx,ho,hm⟩:=wC hk
 have hc:=hvl.bR (by intro z hz;simp at hz;rcases hz with rfl|rfl|rfl<;>first|exact dJ h0.1.1.1|exact dJ h0.1.1.2|exact dJ h0.1.2)
 rw[ho]at hc
 cases lo<;>cases hi'<;>cases mx<;>simp[Fv]at hm
 simp[Op.operands]at hc
 refine⟨bR r,?_,VR.gF (dJ h0.2)⟩
 have hb:=iy (P:=Tryz.prog) (Qu:=true) (len:=n) (cap:=cp) (l:=0) (h:=h') (m:=m') (mx:=some (.int j m')) (hi:=some (.int k h')) (lo:=none) (.inr ⟨j,rfl,by omega⟩) (.inr ⟨k,rfl,by omega⟩) (fun h=>by cases h) (.inl ⟨rfl,rfl⟩) w
 have hs':=jk Tryz.underlying32 hi (a:=ad) hb
 have e:(ad.map fun x:Addr=>x.add (0*ie.size))=ad:=by
  cases ad with
  | none=>rfl
  | some a=>simp[add_zero']
 rw[hcr]
 have:execOp ρ' o=(do pure (.value (←Instr.sliceAt 32 (.slice ad n cp) none (some (.int k h')) (some (.int j m'))))):=by simp[execOp,ho,hc.1.trans hca,hc.2.1.trans hcb,hc.2.2.trans hcc]
 rw[this]
 simp only[Sem.run_bind,hs',e]
 simp
theorem YY (bb bo n cp:Nat) (k:IntKind) (j:Int) (h:0≤j∧j<n) {a b r:Value} {l:List fE} (hl:dN Tw l) (h0:(okB a&&okB b&&okB r)=true:=by kernel_rfl) (hca:bR a =.slice (some ⟨bb,bo,none⟩) n cp:=by kernel_rfl) (hcb:bR b =.int k j:=by kernel_rfl) (hcr:bR r =.pointer (some ⟨bb,bo+j.toNat,none⟩):=by kernel_rfl):dN Tw (⟨(41,167,0),[a,b],r⟩::l):=by
 obtain⟨ie,hi,hs⟩:=NQ
 exact dZ (Qd Tryz.underlying167 hi hs h0 hca hcb hcr (by omega) h) hl
theorem YX {n:Nat} (hD:dG n=true) (p:Addr) (v:Value) (h:∀w,Tw w→w.cell? p=some v) {a r:Value} {l:List fE} (hl:dN Tw l) (h0:(okB a&&within n 0 DP r)=true:=by kernel_rfl) (hca:bR a =.pointer (some p):=by kernel_rfl) (hv:im bH.D bI r=v:=by kernel_rfl):dN Tw (⟨(40,3,0),[a],r⟩::l) :=
 dZ (Sq hD Tryz.underlying3 rfl h0 hca hv h) hl
theorem Qb (i:Nat) {l:List fE} (hl:dN Tw l):dN Tw (⟨(41,167,0),[.complex .f32 32 i,.int .i64 0],.pointer (some ⟨i,0,none⟩)⟩::l):=by
 obtain⟨ie,hi,hs⟩:=NQ
 exact dZ (Qc Tryz.underlying167 hi i) hl
theorem wZ (ad:Option Addr) (n c:Nat) (t:TypeId) (e:TypeId) (hu:Tryz.prog.underlying t=some (.slice e)) (ht:t≠0) {u:TypeId} {a r:Value} {l:List fE} (hl:dN Tw l) (h0:(okB a&&okB r)=true:=by kernel_rfl) (hca:bR a =.slice ad n c:=by kernel_rfl) (hcr:bR r =.int .i64 n:=by kernel_rfl):dN Tw (⟨(4,t,u),[a],r⟩::l):=dZ (Zz ht hu h0 hca hcr) hl
theorem pq {n:Nat} (hD:dG n=true) {f:FuncId} {bs:List Value} {v:Value} {l:om} {args:Array Value} {r:Value} (h:∀w,Tw w→Calls Tryz.prog f args w fun e w'=>e =.returned r∧Below w.heap.size w w') (hl:gY Tw l) (h0:(bs.all (within n 0 DP)&&within n 0 DP v)=true:=by kernel_rfl) (ha:(bs.map (im bH.D bI)).toArray=args:=by kernel_rfl) (hr:im bH.D bI v=r:=by kernel_rfl):gY Tw ((f,bs,v)::l):=Cw (VX (D:=bH.D) hD h0 ha hr h) hl
theorem Ov {E:Env} {n:Nat} (hD:dG n=true) {f:FuncId} {bs:List Value} {obj:fA} {res:Nat→Value} {args:Array Value} (hlv:obj.live=true) (h:∀w,Tw w→Calls Tryz.prog f args w fun e w'=>∃v' x ob,e =.returned v'∧Below w.heap.size w w'∧w.heap.size≤x.b∧w'.heap[x.b]? = some ob∧(∀σ',OR E σ' x obj ob)∧∀σ' i,σ' i=some x→VR σ' (res i) v')
 (h0:(bs.all (within n 0 DP))=true) (ha:(bs.map (im bH.D bI)).toArray=args):Jr E Tryz.prog Tw ⟨f,bs,obj,res⟩:=by
 refine⟨hlv,fun σ args' hl w hT => ?_⟩
 have e1:=zR (d:=DP) hl (List.all_eq_true.2 fun x hx=>Hy DP x (List.all_eq_true.1 h0 x hx))
 have e2:bs.map (img bH.D (fB σ) DP)=bs.map (im bH.D bI):=List.map_congr_left fun x hx=>yG (n:=n) DP x (List.all_eq_true.1 h0 x hx)
 have e3:args'=args:=by rw[←ha];exact Array.ext' (by rw[e1];simpa using e2)
 rw[e3]
 exact h w hT
def qB (n:Nat) (B:List Nat) (v:Value) (b:Nat) (ob:Obj):Prop:=∃cap C,v =.slice (some ⟨b,0,none⟩) n cap∧n≤cap∧ob =.cells C 5 (0,0)∧∀(j x:Nat),B[j]? = some x→C[j]? = some (.int .u8 (x:Int))
def qI (xs:List Value) (v:Value) (b:Nat) (ob:Obj):Prop:=∃cap C,v =.slice (some ⟨b,0,none⟩) xs.length cap∧xs.length≤cap∧ob =.cells C 3 (0,0)∧∀(j:Nat) x,xs[j]? = some x→C[j]? = some x
def fK (W:World) (ba:Option Addr) (B:List Nat):Prop:=∀(j x:Nat),B[j]? = some x→∃bb bo,ba=some ⟨bb,bo,none⟩∧W.cell? ⟨bb,bo+j,none⟩=some (.int .u8 (x:Int))
theorem Ac {fs ts:List Nat} {R:List fE} {o:Nat→Prop} {cs:List (Nat×Bool)} {n:Nat} (hD:dG n=true) (ba:Option Addr) (bn bc:Nat) (B:List Nat) (hb:B.length=bn) (hbn:bn≤1000) (hB:∀x∈B,x<256) (hne:ba≠none) (hr:∀w,Tw w→fK w ba B) {a:Value} {l:List Fr} (hl:xM fs ts R Tw o l cs) (h0:within n 0 DP a=true:=by kernel_rfl) (ha:im bH.D bI a =.slice ba bn bc:=by kernel_rfl):xM fs ts R Tw o (⟨28,[a],.dyn (qB bn B),fun i => .complex .f32 31 i⟩::l) cs:=by
 refine wS (Ov hD rfl (args :=#[.slice ba bn bc]) (fun w hT=>(OQ ba bn bc B hb hbn hB hne w (hr w hT)).mono ?_) (by simp[h0]) (by rw[List.map_cons,ha];rfl)) hl
 rintro e w' ⟨g,cap,C,rfl,hn,hg,eu,hC,hB'⟩
 exact⟨_,⟨g,0,0,0,.slice (some ⟨g,0,none⟩) bn cap⟩,_,rfl,hB',hg,eu,fun σ'=>⟨cap,C,rfl,hn,rfl,hC⟩,fun σ' i hx => .dyn hx rfl⟩
theorem Oy {fs ts:List Nat} {R:List fE} {o:Nat→Prop} {cs:List (Nat×Bool)} {n:Nat} (hD:dG n=true) (lg:Lg) (h:lg.ok) (hm:32≤lg.aV∧lg.aV≤1024) (k:Nat) (hk:(k:Int)≤lg.term/8) {a b:Value} {l:List Fr} (hl:xM fs ts R Tw o l cs) (h0:(within n 0 DP a&&within n 0 DP b)=true:=by kernel_rfl) (ha:im bH.D bI a=lg.val:=by kernel_rfl) (hb:im bH.D bI b =.int .i64 (k:Int):=by kernel_rfl):xM fs ts R Tw o (⟨137,[a,b],.dyn (qI (dH lg.aV 40 k)),fun i => .tuple #[.complex .f32 31 i,.int .i64 0]⟩::l) cs:=by
 simp only[Bool.and_eq_true]at h0
 refine wS (Ov hD rfl (args :=#[lg.val,.int .i64 (k:Int)]) (fun w hT=>(Yl lg h hm k hk w).mono ?_) (by simp[h0]) (by rw[List.map_cons,List.map_cons,ha,hb];rfl)) hl
 rintro e w' ⟨v,rfl,⟨hl',hr⟩,hB'⟩
 rcases hr with⟨rfl,hz⟩|⟨g,cap,cur,rfl,hg,eu,hn,_,_,ht⟩
 ·exfalso
  have:∀f (n:Int),(dH lg.aV f n).length≠0:=fun f n=>by
   cases f with
   | zero=>simp[dH]
   | succ f=>unfold dH;split<;>simp
  exact this _ _ hz
 refine⟨_,⟨g,0,0,0,.slice (some ⟨g,0,none⟩) _ cap⟩,_,rfl,hB',hg,eu,fun σ'=>⟨cap,cur,rfl,hn,rfl,fun j x hx => ?_⟩,fun σ' i hx => ?_⟩
 ·have hj:=(List.getElem?_eq_some_iff.1 hx).1
  have h1:(cur.toList.take ((dH lg.aV 40 k).length*1))[j]? = some x:=by rw[ht];exact hx
  rw[List.getElem?_take,if_pos (by omega),Array.getElem?_toList]at h1
  exact h1
 ·exact VR.ig (cZ.cons (.dyn hx rfl) (cZ.cons (.refl rfl) (cZ.nil _)))
theorem yK {fs ts:List Nat} {R:List fE} {o:Nat→Prop} {cs:List (Nat×Bool)} {n:Nat} (hD:dG n=true) (k:Nat) (hk:0<k∧k≤1000) {a r:Value} {l:List Fr} (hl:xM fs ts R Tw o l cs) (hty:(match (dz Tryz.prog fs ts R Tw o cs).types.get 3 with|some ti=>Nat.beq ti.size 1|none=>false)=true:=by kernel_rfl) (h0:(within n 0 DP a&&okB r)=true:=by kernel_rfl) (ha:im bH.D bI a =.int .i64 (k:Int):=by kernel_rfl) (hr:bR r =.int .i64 ((min k 8:Nat):Int):=by kernel_rfl):xM fs ts R Tw o (⟨226,[a],AS.newRow 3 [r],fun i => .complex .f32 32 i⟩::l) cs:=by
 obtain⟨ti,hti,hts⟩:∃ti,(dz Tryz.prog fs ts R Tw o cs).types.get 3=some ti∧ti.size=1:=by
  split at hty
  ·rename_i ti h;exact⟨ti,h,Nat.eq_of_beq_eq_true hty⟩
  ·cases hty
 simp only[Bool.and_eq_true]at h0
 refine wS (Ov hD rfl (args :=#[.int .i64 (k:Int)]) (fun w hT=>(Q3 k hk.1 hk.2 w).mono ?_) (by simp[h0.1]) (by rw[List.map_cons,ha];rfl)) hl
 rintro e w' ⟨v,cl,rfl,hc,⟨hl',hrw⟩,hB'⟩
 have hcl:0<cl.length:=(List.getElem?_eq_some_iff.1 hc).1
 rcases hrw with⟨rfl,hz⟩|⟨g,cap,cur,rfl,hg,eu,hn,_,hsz,ht⟩
 ·omega
 refine⟨_,⟨g,0,cur.size,1,.nilFunc⟩,_,rfl,hB',hg,eu,fun σ'=>⟨rfl,.inl rfl,by simp,by simp;omega,⟨ti,hti,hts.symm⟩,fun j hj => ?_⟩,fun σ' i hx => .EI (x:=⟨g,0,cur.size,1,.nilFunc⟩) hx hcl⟩
 obtain rfl:j=0:=by simpa using hj
 have h1:(cur.toList.take (cl.length*1))[0]? = some (.int .i64 ((min k 8:Nat):Int)):=by rw[ht];exact hc
 rw[List.getElem?_take,if_pos (by omega),Array.getElem?_toList]at h1
 exact⟨r,_,by rw[T.gG];rfl,by simpa using h1,hr▸VR.gF (dJ h0.2)⟩
end
def mV (A':dU) (bf:Nat→Nat×Nat) (w w':World) (q:Value→Nat→Obj→Prop) (v:Value):Prop :=
 ∃b ob,w'.heap[b]? = some ob∧q v b ob∧w.heap.size≤b∧∀k,k<A'.length→(bf k).1≠b
theorem VN {L X:List Value} {R:List fE} {pl:om} {fr:List Fr} {Tw:World→Prop} {cs:List (Nat×Bool)} (fs ts:List Nat) {f:FuncId} (args:List Value) {A A':dU} (K:dU) (ids oQ:List Nat) (qs:List (Value→Nat→Obj→Prop)) (v:Value) {args':Array Value} {v':Value} {L':(Nat→Value)→List Value} {w:World} {τ:Nat→Nat×Nat}
 (hR : @dN ⟨dl (L++X)⟩ Tw R) (hP : @gY ⟨dl (L++X)⟩ Tw pl) (hF : @xM ⟨dl (L++X)⟩ fs ts R Tw (ownB A τ) fr cs) (hT:∀w',Kept (ownB A τ) w w'→Tw w') (hS:ah w (dl L) A τ)
 {Vw:(Nat→Value)→(Nat→Nat×Nat)→List (TypeId×List Value)} (hE:∀V τ,A'.map (fun p=>(p.1,p.2.map (im (dl (L' V)) τ)))=Vw V τ)
 (hm:∀V bf,K.map (fun p=>(p.1,p.2.map (im (dx (dl (L++X)) V) bf)))=Vw V (fun k=>bf (ids.getD k 0)):=by intro _ _;kernel_rfl)
 (hrun:xR A.length (eB (dz Tryz.prog fs ts R Tw (ownB A τ) cs) (jf fr (jD pl)) 60 40 (.fn f) args (kI A)) ids oQ=[(v,true,K.map some,qs.map some)]:=by kernel_rfl)
 (hc:∀i b,rY cs i=some b→dl (L++X) i =.bool b:=by intro _ _ h;cases h)
 (hD:((List.range (L++X).length).all fun i=>(dl (L++X) i).oneCell')=true:=by kernel_rfl)
 (h1:(pE (L++X).length A&&args.all (within (L++X).length A.length DP)&&lI DP v&&pE L.length A&&K.all (fun p=>p.2.all (lI DP))&&ids.Nodup&&ids.length==K.length&&A'.length==K.length&&decide (0<A.length)&&ids.getD 0 0==0&&oQ.all (fun i=>Nat.ble A.length i))=true:=by kernel_rfl)
 (h2:(A.all fun p=>((dz Tryz.prog fs ts R Tw (ownB A τ) cs).types.get p.1).isSome)=true:=by kernel_rfl)
 (ha:(args.map (im (dl (L++X)) τ)).toArray=args':=by kernel_rfl)
 (hv:∀V bf,im (dx (dl (L++X)) V) bf v=v':=by intro _ _;kernel_rfl) :
 Calls Tryz.prog f args' w fun e w'=>e =.returned v'∧∃bf V,ah w' (dl (L' V)) A' bf∧bK A τ w A' bf w'∧bf 0=τ 0∧∀(k i:Nat) (q:Value→Nat→Obj→Prop),oQ[k]? = some i→qs[k]? = some q→mV A' bf w w' q (V i):=by
 simp only[Bool.and_eq_true,decide_eq_true_eq,beq_iff_eq]at h1
 obtain⟨⟨⟨⟨⟨⟨⟨⟨⟨⟨a1,a2⟩,a3⟩,a4⟩,a5⟩,a6⟩,a7⟩,a8⟩,a9⟩,a10⟩,a11⟩:=h1
 letI:bH:=⟨dl (L++X)⟩
 have key:=CY mixed (own:=ownB A τ) (dl (L++X)) hD hR hc (S:=jf fr (jD pl)) (fun w0 h0=>rq (fun σ m w hM=>h0 w hM.below) hF (nD (fun σ m w hM=>h0 w hM.below) hP)) (A:=A) a1 a2 h2 a3 hrun (by rw[List.all_map];exact List.all_eq_true.2 fun _ _=>rfl) (by rw[List.length_map,a7]) a11 hT (fun i hi=>⟨i,hi,rfl⟩) (hS.more a4 X)
 rw[ha]at key
 refine key.mono ?_
 rintro e w' ⟨bf,V,rfl,h,hq⟩
 refine⟨by rw[hv],_,V,h.stands hS.low (Nat.le_of_lt (Nat.lt_of_le_of_lt (hS.low 0 a9) (hS.lt (i:=0) a9))) a5 a6 a7 ((hm V bf).trans (hE V _).symm),h.moved a7 a8,?_,fun k i q hk hi => ?_⟩
 ·show bf (ids.getD 0 0)=τ 0
  rw[a10]
  exact h.old 0 a9
 ·obtain⟨b,ob,b1,b2,b3,b4⟩:=hq k i q hk hi
  refine⟨b,ob,b1,b2,b3,fun j hj=>b4 _ ?_⟩
  have hj':j<ids.length:=by omega
  simp only[List.getD,List.getElem?_eq_getElem hj',Option.getD_some]
  exact List.getElem_mem hj'
abbrev T0:World→Prop:=fun _=>True
abbrev iZ:Value :=.int .i64 0
abbrev uZ:Value :=.int .u64 0
abbrev sZ:Value :=.slice none 0 0
abbrev zA:List Value:=[iZ,iZ,iZ,uZ,uZ,sZ]
abbrev qP (k:Nat):Value :=.pointer (some ⟨k,0,none⟩)
abbrev qF (k:Nat) (l:List Value):Value :=.func (.func k) #[] ⟨l⟩
abbrev dM:List Value:=[sym 0,sym 1,sym 2,sym 3,sym 4,sym 5,sym 6]
abbrev iD:Value :=.agg ⟨dM⟩
abbrev iN (l:Lg):List Value:=[.int .i64 l.base,.int .i64 l.term,.int .i64 l.aV,.int .i64 l.subs,.int .i32 l.bG,.int .i32 l.dQ,.int .i32 l.str]
theorem Ah {p:Prop} [Decidable p] (h:p):decide p=true:=decide_eq_true h
theorem tQ {p:Prop} [Decidable p] (h:¬p):decide p=false:=decide_eq_false h
abbrev dw {w:World} {L:List Value} {A:dU} {τ:Nat→Nat×Nat} (_:ah w (dl L) A τ) (X:List Value):bH:=⟨dl (L++X)⟩
abbrev Goes (f:FuncId) (τ:Nat→Nat×Nat) (V:Int) (dn:Bool) (xa:Option Addr) (xn xc:Nat) (w:World) (A A':dU) (L':List Value):Prop :=
 Calls Tryz.prog f #[.pointer (some ⟨(τ 0).1,(τ 0).2+0,none⟩),.agg #[.int .u64 V,.bool dn,.slice xa xn xc]] w fun e w'=>e =.returned (.tuple #[])∧∃bf,ah w' (dl L') A' bf∧bK A τ w A' bf w'∧bf 0=τ 0
section
variable {L X:List Value} {R:List fE} {pl:om} {fr:List Fr} {Tw:World→Prop} {cs:List (Nat×Bool)} {f:FuncId} {A A':dU} {w:World} {τ:Nat→Nat×Nat} {V:Int} {dn:Bool} {xa:Option Addr} {xn xc:Nat}
theorem stepG (fs ts:List Nat) (n0:Nat) (K:dU) (ids oQ:List Nat) (qs:List (Value→Nat→Obj→Prop)) {L':(Nat→Value)→List Value}
 (hR : @dN ⟨dl (L++X)⟩ Tw R) (hP : @gY ⟨dl (L++X)⟩ Tw pl) (hF : @xM ⟨dl (L++X)⟩ fs ts R Tw (ownB A τ) fr cs) (hT:∀w',Kept (ownB A τ) w w'→Tw w') (hS:ah w (dl L) A τ)
 (hm:∀V bf,K.map (fun p=>(p.1,p.2.map (im (dx (dl (L++X)) V) bf)))=A'.map (fun p=>(p.1,p.2.map (im (dl (L' V)) fun k=>bf (ids.getD k 0)))):=by intro _ _;kernel_rfl)
 (hrun:xR A.length (eB (dz Tryz.prog fs ts R Tw (ownB A τ) cs) (jf fr (jD pl)) 60 40 (.fn f) [qP 0,.agg #[sym n0,sym (n0+1),sym (n0+2)]] (kI A)) ids oQ=[(.tuple #[],true,K.map some,qs.map some)]:=by kernel_rfl)
 (hc:∀i b,rY cs i=some b→dl (L++X) i =.bool b:=by intro _ _ h;cases h)
 (hD:((List.range (L++X).length).all fun i=>(dl (L++X) i).oneCell')=true:=by kernel_rfl)
 (h1:(pE (L++X).length A&&[qP 0,.agg #[sym n0,sym (n0+1),sym (n0+2)]].all (within (L++X).length A.length DP)&&lI DP (.tuple #[])&&pE L.length A&&K.all (fun p=>p.2.all (lI DP))&&ids.Nodup&&ids.length==K.length&&A'.length==K.length&&decide (0<A.length)&&ids.getD 0 0==0&&oQ.all (fun i=>Nat.ble A.length i))=true:=by kernel_rfl)
 (h2:(A.all fun p=>((dz Tryz.prog fs ts R Tw (ownB A τ) cs).types.get p.1).isSome)=true:=by kernel_rfl)
 (ha:([qP 0,.agg #[sym n0,sym (n0+1),sym (n0+2)]].map (im (dl (L++X)) τ)).toArray =#[.pointer (some ⟨(τ 0).1,(τ 0).2+0,none⟩),.agg #[.int .u64 V,.bool dn,.slice xa xn xc]]:=by kernel_rfl) :
 Calls Tryz.prog f #[.pointer (some ⟨(τ 0).1,(τ 0).2+0,none⟩),.agg #[.int .u64 V,.bool dn,.slice xa xn xc]] w fun e w'=>e =.returned (.tuple #[])∧∃bf V,ah w' (dl (L' V)) A' bf∧bK A τ w A' bf w'∧bf 0=τ 0∧∀(k i:Nat) (q:Value→Nat→Obj→Prop),oQ[k]? = some i→qs[k]? = some q→mV A' bf w w' q (V i) :=
 VN fs ts _ K ids oQ qs (.tuple #[]) hR hP hF hT hS (fun _ _=>rfl) hm hrun hc hD h1 h2 ha (fun _ _=>rfl)
theorem yZ (fs ts:List Nat) (n0:Nat) (K:dU) (ids:List Nat) (cs:List (Nat×Bool)) {L':List Value} (hc:∀i b,rY cs i=some b→dl (L++X) i =.bool b)
 (hR : @dN ⟨dl (L++X)⟩ Tw R) (hP : @gY ⟨dl (L++X)⟩ Tw pl) (hF : @xM ⟨dl (L++X)⟩ fs ts R Tw (ownB A τ) fr cs) (hT:∀w',Kept (ownB A τ) w w'→Tw w') (hS:ah w (dl L) A τ)
 (hm:∀V bf,K.map (fun p=>(p.1,p.2.map (im (dx (dl (L++X)) V) bf)))=A'.map (fun p=>(p.1,p.2.map (im (dl L') fun k=>bf (ids.getD k 0)))):=by intro _ _;kernel_rfl)
 (hrun:xR A.length (eB (dz Tryz.prog fs ts R Tw (ownB A τ) cs) (jf fr (jD pl)) 60 40 (.fn f) [qP 0,.agg #[sym n0,sym (n0+1),sym (n0+2)]] (kI A)) ids []=[(.tuple #[],true,K.map some,[])]:=by kernel_rfl)
 (hD:((List.range (L++X).length).all fun i=>(dl (L++X) i).oneCell')=true:=by kernel_rfl)
 (h1:(pE (L++X).length A&&[qP 0,.agg #[sym n0,sym (n0+1),sym (n0+2)]].all (within (L++X).length A.length DP)&&lI DP (.tuple #[])&&pE L.length A&&K.all (fun p=>p.2.all (lI DP))&&ids.Nodup&&ids.length==K.length&&A'.length==K.length&&decide (0<A.length)&&ids.getD 0 0==0&&([]:List Nat).all (fun i=>Nat.ble A.length i))=true:=by kernel_rfl)
 (h2:(A.all fun p=>((dz Tryz.prog fs ts R Tw (ownB A τ) cs).types.get p.1).isSome)=true:=by kernel_rfl)
 (ha:([qP 0,.agg #[sym n0,sym (n0+1),sym (n0+2)]].map (im (dl (L++X)) τ)).toArray =#[.pointer (some ⟨(τ 0).1,(τ 0).2+0,none⟩),.agg #[.int .u64 V,.bool dn,.slice xa xn xc]]:=by kernel_rfl):Goes f τ V dn xa xn xc w A A' L' :=
 (stepG fs ts n0 K ids [] [] (L':=fun _=>L') hR hP hF hT hS hm hrun hc hD h1 h2 ha).mono fun _ _ ⟨he,bf,_,h1,h2,h3,_⟩=>⟨he,bf,h1,h2,h3⟩
theorem bL (fs ts:List Nat) (n0:Nat) (K:dU) (ids:List Nat) {L':List Value}
 (hR : @dN ⟨dl (L++X)⟩ Tw R) (hP : @gY ⟨dl (L++X)⟩ Tw pl) (hF : @xM ⟨dl (L++X)⟩ fs ts R Tw (ownB A τ) fr []) (hT:∀w',Kept (ownB A τ) w w'→Tw w') (hS:ah w (dl L) A τ)
 (hm:∀V bf,K.map (fun p=>(p.1,p.2.map (im (dx (dl (L++X)) V) bf)))=A'.map (fun p=>(p.1,p.2.map (im (dl L') fun k=>bf (ids.getD k 0)))):=by intro _ _;kernel_rfl)
 (hrun:xR A.length (eB (dz Tryz.prog fs ts R Tw (ownB A τ) []) (jf fr (jD pl)) 60 40 (.fn f) [qP 0,.agg #[sym n0,sym (n0+1),sym (n0+2)]] (kI A)) ids []=[(.tuple #[],true,K.map some,[])]:=by kernel_rfl)
 (hD:((List.range (L++X).length).all fun i=>(dl (L++X) i).oneCell')=true:=by kernel_rfl)
 (h1:(pE (L++X).length A&&[qP 0,.agg #[sym n0,sym (n0+1),sym (n0+2)]].all (within (L++X).length A.length DP)&&lI DP (.tuple #[])&&pE L.length A&&K.all (fun p=>p.2.all (lI DP))&&ids.Nodup&&ids.length==K.length&&A'.length==K.length&&decide (0<A.length)&&ids.getD 0 0==0&&([]:List Nat).all (fun i=>Nat.ble A.length i))=true:=by kernel_rfl)
 (h2:(A.all fun p=>((dz Tryz.prog fs ts R Tw (ownB A τ) []).types.get p.1).isSome)=true:=by kernel_rfl)
 (ha:([qP 0,.agg #[sym n0,sym (n0+1),sym (n0+2)]].map (im (dl (L++X)) τ)).toArray =#[.pointer (some ⟨(τ 0).1,(τ 0).2+0,none⟩),.agg #[.int .u64 V,.bool dn,.slice xa xn xc]]:=by kernel_rfl):Goes f τ V dn xa xn xc w A A' L' :=
 yZ fs ts n0 K ids [] (fun _ _ h=>by cases h) hR hP hF hT hS hm hrun hD h1 h2 ha
end
