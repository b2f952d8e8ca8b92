import Derived.Test.YtlaogoehmndcjaaGreatDoorZ04
import Derived.Great.BuildSlice
set_option linter.unusedSectionVars false
set_option linter.unusedVariables false
set_option linter.unusedSimpArgs false
namespace Go.AS
open Go.RowKit
variable [bH]
variable {E:Env} {P:Program} {w0:World} {σ:Sg} {m:Mem} {w:World}
theorem I4 (hE:jO E P) (h:MR E w0 σ m w) {t u ty:TypeId} {d s d' s':Value} {out:Out} (ha:OL E t d s m=some out) (hd:VR σ d d') (hs:VR σ s s') :
 gB E P w0 σ m w (do pure (.value (←Builtin.copy_ #[t,u] ty #[d',s']))) out:=by
 unfold OL at ha
 split at ha
 ·rename_i e te n base dl dc hel hlen
  obtain⟨ht,hte⟩:=iR hE hel
  obtain⟨_,i,z,hi,hsz,_⟩:=hE.types e te hte
  split at ha
  ·rename_i l hl
   obtain⟨l',hr,hv⟩:=jR (P:=P) h hl hs (fun a k c he=>by subst he;simp[lenOf]at hlen;subst hlen;exact Nat.min_le_left _ _)
   have hln:=xx (P:=P) hlen hs w
   have hr':=hr w rfl
   rw[←hsz]at hr'
   have Xf:(Builtin.firstCells i.size (Nat.min n dl) s').run P w =.ok l'.toArray w:=hr'
   split at ha
   ·rename_i a
    split at ha
    ·rename_i m' hst
     cases ha
     rcases hd.fQ with⟨h1,_⟩|⟨j,o,y,c',h1,rfl,hy,_,_⟩
     ·cases h1
     ·cases h1
      obtain⟨a',w',ha',_,hrun,hm',hf'⟩:=kW (P:=P) h hst (.ptr hy) hv
      cases ha'
      refine iF rfl (v':=goInt ((min n dl:Nat):Int)) ?_ (.refl rfl) hm' hf'
      simp[Builtin.copy_,run_underlying ht,sizeOf,typeInfo,hi,hln,Xf,hrun]
    ·cases ha
   ·cases ha
    rcases hd.fQ with⟨_,rfl⟩|⟨j,o,y,c',h1,_⟩
    ·refine bT rfl (v':=goInt ((min n dl:Nat):Int)) ?_ (.refl rfl)
     simp[Builtin.copy_,run_underlying ht,sizeOf,typeInfo,hi,hln,Xf]
    ·cases h1
  ·cases ha
 ·cases ha
def Mx (σ:Sg) (v v':Option Value):Prop:=(v=none∧v'=none)∨∃x x',v=some x∧v'=some x'∧VR σ x x'
theorem bZ {v v':Option Value} {d hi r:Nat} (h:bound v d hi=some r) (hv:Mx σ v v'):(v=none∧v'=none∧r=d)∨∃k,v'=some (.int k r)∧r≤hi:=by
 unfold bound at h
 split at h
 ·cases h
  rcases hv with⟨_,h2⟩|⟨x,x',h1,_⟩
  ·exact .inl ⟨rfl,h2,rfl⟩
  ·cases h1
 ·rename_i k i
  rcases hv with⟨h1,_⟩|⟨x,x',h1,h2,hr⟩
  ·cases h1
  ·cases h1
   obtain rfl:=hr.aB rfl
   cases hb:Nat.ble i hi with
   | false=>rw[hb]at h;cases h
   | true =>
     rw[hb]at h
     have h3:some i=some r:=h
     cases h3
     exact .inr ⟨k,h2,Nat.le_of_ble_eq_true hb⟩
 ·cases h
theorem iy {Qu:Bool} {len cap:Nat} {lo hi mx:Option Value} {l h m:Nat} (hm:(mx=none∧m=cap)∨∃k,mx=some (.int k m)∧m≤cap) (hh:(hi=none∧h=len)∨∃k,hi=some (.int k h)∧h≤m) (hhm:hi=none→mx=none)
 (hl:(lo=none∧l=0)∨∃k,lo=some (.int k l)∧l≤h) (w:World):(Instr.sliceBounds Qu len cap lo hi mx).run P w =.ok (l,h,m) w:=by
 have sb:∀(k:IntKind) (a b:Nat) (code:BoundsCode),a≤b→(Instr.sliceBound (.int k a) b code).run P w =.ok a w:=by
  intro k a b code hab
  simp only[Instr.sliceBound,asIntOf,Sem.run_bind,Sem.run_pure,Result.andThen_ok]
  rw[if_pos ⟨by omega,by omega⟩];rfl
 unfold Instr.sliceBounds
 rcases hm with⟨rfl,rfl⟩|⟨k1,rfl,h1⟩<;>rcases hh with⟨rfl,rfl⟩|⟨k2,rfl,h2⟩<;>rcases hl with⟨rfl,rfl⟩|⟨k3,rfl,h3⟩ <;>
  first|(cases hhm rfl;done)|simp[*]
theorem jk {t e:TypeId} {i:TypeInfo} (ht:P.underlying t=some (.slice e)) (hi:P.info? e=some i) {a:Option Addr} {len cap l h mm:Nat} {lo hi' mx:Option Value} {w:World}
 (hb:(Instr.sliceBounds true len cap lo hi' mx).run P w =.ok (l,h,mm) w):(Instr.sliceAt t (.slice a len cap) lo hi' mx).run P w =.ok (.slice (if mm=l then a else a.map (·.add (l*i.size))) (h-l) (mm-l)) w:=by
 simp[Instr.sliceAt,Instr.slice,run_underlying ht,hb,sizeOf,typeInfo,hi]
theorem CP (hE:jO E P) (hM:MR E w0 σ m w) {t e:TypeId} {te:TI} (ht:P.underlying t=some (.slice e)) (hte:E.types.get e=some te) {x x':Value} {lo hi mx lo' hi' mx':Option Value} (hne:zb e te.size x lo hi mx m≠[]) (hx:VR σ x x')
 (hlo:Mx σ lo lo') (hhi:Mx σ hi hi') (hmx:Mx σ mx mx') (Y7:(hi.isNone&&mx.isSome)=false) :
 ∃out∈zb e te.size x lo hi mx m,gB E P w0 σ m w (do pure (.value (←Instr.sliceAt t x' lo' hi' mx'))) out:=by
 obtain⟨_,i,z,hi0,hsz,_⟩:=hE.types e te hte
 have N9:hi'=none→mx'=none:=by
  intro he
  rcases hhi with⟨h1,_⟩|⟨_,_,_,h2,_⟩
  ·rcases hmx with⟨_,h3⟩|⟨_,_,h3,_⟩
   ·exact h3
   ·subst h1 h3;cases Y7
  ·rw[he]at h2;cases h2
 have fin:∀{j o len cap c':Nat} {y:Inf} {l h mm:Nat},x' =.slice (some ⟨y.b,y.sh+o,none⟩) len c'→σ j=some y→((mx'=none∧mm=c')∨∃k,mx'=some (.int k mm)∧mm≤c')→((hi'=none∧h=len)∨∃k,hi'=some (.int k h)∧h≤mm)→((lo'=none∧l=0)∨∃k,lo'=some (.int k l)∧l≤h) →
  mm<OPEN→gB E P w0 σ m w (do pure (.value (←Instr.sliceAt t x' lo' hi' mx'))) (.val (.slice (some (cond (Nat.beq mm l) ⟨j,o,none⟩ ⟨j,o+l*te.size,none⟩)) (h-l) (mm-l))):=by
  intro j o len cap c' y l h mm hx' hy h1 h2 h3 hlt
  subst hx'
  have hb:=iy (P:=P) (Qu:=true) (len:=len) (cap:=c') h1 h2 N9 h3 w
  refine bT rfl (jk ht hi0 hb) ?_
  by_cases e1:mm=l
  ·subst e1
   simp only[if_true,Nat.beq_refl,cond]
   exact .slice hy (fun _=>rfl) (fun ho=>by omega)
  ·have:Nat.beq mm l=false:=by
    cases hb2:Nat.beq mm l with
    | false=>rfl
    | true=>exact absurd (Nat.eq_of_beq_eq_true hb2) e1
   simp only[e1,if_false,this,cond,Option.map_some,addr_add,hsz,Nat.add_assoc]
   exact .slice hy (fun _=>rfl) (fun ho=>by omega)
 generalize hL:zb e te.size x lo hi mx m=L at hne ⊢
 unfold zb at hL
 split at hL
 ·rename_i a len cap
  rcases hx.fQ with⟨h1,_⟩|⟨j,o,y,c',h1,hx',hy,hc1,hc2⟩
  ·cases h1
  cases h1
  split at hL
  ·rename_i mv hop
   have hcap:OPEN≤cap:=Nat.le_of_ble_eq_true hop
   obtain⟨hc3,hc4⟩:=hc2 hcap
   split at hL
   ·rename_i mm Ku hl9
    have hl9:=Nat.le_of_ble_eq_true hl9
    split at hL
    ·rename_i h Mw
     split at hL
     ·rename_i l hbl
      subst hL;refine⟨_,List.mem_singleton.2 rfl,?_⟩
      have h1:=bZ Ku hmx
      have h2:=bZ Mw hhi
      have h3:=bZ hbl hlo
      have hmm:mm≤len:=by
       rcases h1 with⟨h,_⟩|⟨k,_,h⟩
       ·cases h
       ·exact h
      refine fin (cap:=cap) hx' hy ?_ (h2.imp (fun⟨_,a,b⟩=>⟨a,b⟩) id) (h3.imp (fun⟨_,a,b⟩=>⟨a,b⟩) id) (by unfold OPEN;omega)
      rcases h1 with⟨h,_⟩|⟨k,h5,h6⟩
      ·cases h
      ·exact .inr ⟨k,h5,by omega⟩
     ·exact absurd hL.symm hne
    ·exact absurd hL.symm hne
   ·exact absurd hL.symm hne
  ·rename_i hop
   have hcap:OPEN≤cap:=Nat.le_of_ble_eq_true hop
   obtain⟨hc3,hc4⟩:=hc2 hcap
   split at hL
   ·rename_i cells k e' hrow
    split at hL
    ·rename_i h hee Mw
     obtain rfl:=Nat.eq_of_beq_eq_true hee
     obtain⟨C,fz,hB,eu,hf,hN,hn,⟨CO,NT,hys⟩,hc⟩:=hM.row hrow hy
     obtain rfl:CO=te:=by rw[hte]at NT;exact(Option.some.inj NT).symm
     have TQ:mx'=none:=by
      rcases hmx with⟨_,h⟩|⟨_,_,h,_⟩
      ·exact h
      ·cases h
     have h2:=bZ Mw hhi
     have hhl:h≤len:=by
      rcases h2 with⟨_,_,h⟩|⟨_,_,h⟩
      ·omega
      ·exact h
     split at hL
     ·rename_i l hbl
      have h3:=bZ hbl hlo
      have hlh:l≤h:=by
       rcases h3 with⟨_,_,h⟩|⟨_,_,h⟩
       ·omega
       ·exact h
      have hb:=iy (P:=P) (Qu:=true) (len:=len) (cap:=c') (mx:=mx') (hi:=hi') (lo:=lo') (m:=c') (h:=h) (l:=l) (.inl ⟨TQ,rfl⟩) (h2.imp (fun⟨_,a,b⟩=>⟨a,b⟩) (fun⟨k,a,b⟩=>⟨k,a,by omega⟩)) N9 (h3.imp (fun⟨_,a,b⟩=>⟨a,b⟩) id) w
      subst hx'
      have hrun:=jk (P:=P) ht hi0 hb (a:=some ⟨y.b,y.sh+o,none⟩)
      have room:l≤c'→o+l*CO.size+(c'-l)*y.s≤y.N:=by
       intro hl
       rw[hys,Nat.add_assoc,←Nat.add_mul,show l+(c'-l)=c' from by omega,←hys]
       exact hc4
      split at hL
      ·rename_i hb1
       have hlt:l≠len:=fun e=>by rw[e,Nat.beq_refl]at hb1;cases hb1
       subst hL;refine⟨_,List.mem_singleton.2 rfl,?_⟩
       refine bT rfl hrun ?_
       rw[if_neg (by omega)]
       simp only[Option.map_some,addr_add,hsz,Nat.add_assoc]
       exact .slice hy (fun hc=>absurd hc (Nat.lt_irrefl _)) (fun _=>⟨by omega,room (by omega)⟩)
      ·rename_i hb1
       obtain rfl:=Nat.eq_of_beq_eq_true hb1
       obtain rfl:h=l:=by omega
       split at hL
       ·subst hL;refine⟨_,List.mem_singleton.2 rfl,?_⟩
        refine bT rfl hrun ?_
        have:(if c'=0 then some (⟨y.b,y.sh+o,none⟩:Addr)else Option.map (fun x:Addr=>x.add (0*i.size)) (some (⟨y.b,y.sh+o,none⟩:Addr)))=some ⟨y.b,y.sh+o,none⟩:=by
         split
         ·rfl
         ·simp[addr_add]
        rw[this]
        exact .slice hy hc1 (fun _=>⟨by omega,by simpa using hc4⟩)
       ·rename_i hl0
        subst hL;refine⟨.val pR,by simp,?_⟩
        refine bT rfl hrun ?_
        rw[Nat.sub_self]
        exact .pR _ _
     ·exact absurd hL.symm hne
    ·exact absurd hL.symm hne
   ·exact absurd hL.symm hne
  ·rename_i hop
   have hcap:cap<OPEN:=by
    rcases Nat.lt_or_ge cap OPEN with h1|h1
    ·exact h1
    ·rw[Nat.ble_eq_true_of_le h1]at hop;cases hop
   obtain rfl:=hc1 hcap
   split at hL
   ·rename_i mm Ku
    split at hL
    ·rename_i h Mw
     split at hL
     ·rename_i l hbl
      subst hL;refine⟨_,List.mem_singleton.2 rfl,?_⟩
      have h1:=bZ Ku hmx
      have h2:=bZ Mw hhi
      have h3:=bZ hbl hlo
      refine fin (cap:=c') hx' hy (h1.imp (fun⟨_,a,b⟩=>⟨a,b⟩) id) (h2.imp (fun⟨_,a,b⟩=>⟨a,b⟩) id) (h3.imp (fun⟨_,a,b⟩=>⟨a,b⟩) id) ?_
      rcases h1 with⟨_,_,h⟩|⟨_,_,h⟩<;>omega
     ·exact absurd hL.symm hne
    ·exact absurd hL.symm hne
   ·exact absurd hL.symm hne
 ·split at hL
  ·rename_i r1 Ku
   split at hL
   ·rename_i r2 Mw
    split at hL
    ·rename_i r3 hbl
     subst hL;refine⟨_,List.mem_singleton.2 rfl,?_⟩
     obtain rfl:=hx.aB rfl
     have z1:r1=0:=by rcases bZ Ku hmx with⟨_,_,h⟩|⟨_,_,h⟩<;>omega
     have z2:r2=0:=by rcases bZ Mw hhi with⟨_,_,h⟩|⟨_,_,h⟩<;>omega
     have z3:r3=0:=by rcases bZ hbl hlo with⟨_,_,h⟩|⟨_,_,h⟩<;>omega
     subst z1 z2 z3
     have hb:=iy (P:=P) (Qu:=true) (len:=0) (cap:=0) ((bZ Ku hmx).imp (fun⟨_,a,b⟩=>⟨a,b⟩) id) ((bZ Mw hhi).imp (fun⟨_,a,b⟩=>⟨a,b⟩) id) N9 ((bZ hbl hlo).imp (fun⟨_,a,b⟩=>⟨a,b⟩) id) w
     exact bT rfl (jk ht hi0 hb) (by simpa using VR.refl rfl)
    ·exact absurd hL.symm hne
   ·exact absurd hL.symm hne
  ·exact absurd hL.symm hne
 ·exact absurd hL.symm hne
end Go.AS
namespace Go.AS
open Go.RowKit
variable [bH]
variable {E:Env} {P:Program} {w0:World} {σ:Sg} {m:Mem} {w:World}
theorem Hq {P:Program} (hE:jO E P):∀{fs:List Field} {l:List (Nat×Nat)},places E fs=some l→fs.mapM (fun f=>(P.info? f.type).map fun i=>(f.offset,i.size))=some l:=by
 intro fs
 induction fs with
 | nil=>intro l h;simp[places]at h;subst h;rfl
 | cons f fs ih =>
   intro l h
   simp only[places]at h
   split at h
   ·rename_i ti l' hti hl
    cases h
    obtain⟨_,i,z,hi,hsz,_⟩:=hE.types _ _ hti
    have:=ih hl
    simp[List.mapM_cons,hi,hsz,this]
   ·cases h
def KM (σ:Sg) (l l':List (Nat×Value)):Prop:=l.length=l'.length∧∀(i:Nat) a b,l[i]? = some a→l'[i]? = some b→a.1=b.1∧VR σ a.2 b.2
theorem KM.tail {a b:Nat×Value} {l l':List (Nat×Value)} (h:KM σ (a::l) (b::l')):KM σ l l':=⟨by simpa using h.1,fun i x y hx hy=>h.2 (i+1) x y (by simpa using hx) (by simpa using hy)⟩
theorem KM.head {a b:Nat×Value} {l l':List (Nat×Value)} (h:KM σ (a::l) (b::l')):a.1=b.1∧VR σ a.2 b.2:=h.2 0 a b rfl rfl
theorem KM.cons_inv {a:Nat×Value} {l l':List (Nat×Value)} (h:KM σ (a::l) l'):∃b r,l'=b::r:=by
 cases l' with
 | nil=>exact absurd h.1 (by simp)
 | cons b r=>exact⟨b,r,rfl⟩
theorem foldl_set (l:List Value):∀(off k:Nat) (c:Array Value),(((l.zipIdx k).foldl (fun cs x=>cs.setIfInBounds (off+x.2) x.1) c).size=c.size) ∧
 ∀j,((l.zipIdx k).foldl (fun cs x=>cs.setIfInBounds (off+x.2) x.1) c)[j]? = if off+k≤j∧j<off+k+l.length∧j<c.size then l[j-(off+k)]? else c[j]? := by
 induction l with
 | nil=>intro off k c;exact⟨rfl,fun j=>by rw[if_neg (by simp;omega)];rfl⟩
 | cons v l ih =>
   intro off k c
   simp only[List.zipIdx_cons,List.foldl_cons,List.length_cons]
   obtain⟨h1,h2⟩:=ih off (k+1) (c.setIfInBounds (off+k) v)
   refine⟨by rw[h1];simp,fun j => ?_⟩
   rw[h2 j]
   simp only[Array.size_setIfInBounds]
   by_cases h10:off+(k+1)≤j∧j<off+(k+1)+l.length∧j<c.size
   ·rw[if_pos h10,if_pos (by omega),show j-(off+k)=(j-(off+(k+1)))+1 from by omega,List.getElem?_cons_succ]
   ·rw[if_neg h10,Array.getElem?_setIfInBounds]
    by_cases h11:off+k=j
    ·rw[if_pos h11]
     by_cases h12:off+k<c.size
     ·rw[if_pos h12,if_pos (by omega)];simp[h11]
     ·rw[if_neg h12,if_neg (by omega),Array.getElem?_eq_none (by omega)]
    ·rw[if_neg h11,if_neg (by omega)]
theorem GK (c:Array Value) (cs:Array Value) (off:Nat):c.zipIdx.foldl (fun cs (x:Value×Nat)=>cs.setIfInBounds (off+x.2) x.1) cs=(c.toList.zipIdx 0).foldl (fun cs x=>cs.setIfInBounds (off+x.2) x.1) cs:=by
 rw[←Array.foldl_toList,Array.toList_zipIdx]
theorem tN {pl:Nat→Option (Nat×Nat)}:∀{parts parts':List (Nat×Value)} {c c':Array Value} {r:Array Value},Instr.fill pl c parts=some r→wR parts=false→KM σ parts parts'→cZ σ c.toList c'.toList →
 ∃r',Instr.fill pl c' parts'=some r'∧cZ σ r.toList r'.toList:=by
 intro parts
 induction parts with
 | nil =>
   intro parts' c c' r h hb hp hc
   have:parts'=[]:=List.eq_nil_of_length_eq_zero hp.1.symm
   subst this
   simp[Instr.fill]at h ⊢
   subst h;exact hc
 | cons a parts ih =>
   intro parts' c c' r h hb hp hc
   obtain⟨b,rest,rfl⟩:=hp.cons_inv
   obtain⟨i,v⟩:=a
   obtain⟨i',v'⟩:=b
   obtain⟨e1,hv⟩:=hp.head
   simp only at e1 hv
   subst e1
   simp only[wR]at hb
   have hnb:v≠bad:=by
    rintro rfl
    simp[vk,bad]at hb
   have hb':wR parts=false:=by
    cases h3:vk v with
    | true=>rw[h3]at hb;cases hb
    | false=>rw[h3]at hb;exact hb
   have hcs:=hv.cells hnb
   have hsz:v.cells.size=v'.cells.size:=by have:=hcs.1;simpa [cellsOf]using this
   simp only[Instr.fill]at h ⊢
   split at h
   ·cases h
   ·rename_i off size hpl
    try rw[hpl]
    try simp only
    have hcsz:c.size=c'.size:=by simpa using hc.1
    rw[←hsz,←hcsz]
    split at h
    ·cases h
    ·rename_i hok
     rw[if_neg hok]
     refine ih h hb' hp.tail ?_
     have key:∀(cs:Array Value) (cells:Array Value),(cs.zipIdx.foldl (fun(cs:Array Value) (x:Value×Nat)=>match x with|(c,j)=>cs.setIfInBounds (off+j) c) cells)=(cs.toList.zipIdx 0).foldl (fun cs x=>cs.setIfInBounds (off+x.2) x.1) cells:=fun cs cells=>GK cs cells off
     rw[key,key]
     obtain⟨s1,g1⟩:=foldl_set v.cells.toList off 0 c
     obtain⟨s2,g2⟩:=foldl_set v'.cells.toList off 0 c'
     refine cZ.kg (by simp only[Array.length_toList];rw[s1,s2];exact hcsz) (fun j x x' hx hx' => ?_)
     rw[Array.getElem?_toList,g1]at hx
     rw[Array.getElem?_toList,g2]at hx'
     have hl2:v'.cells.toList.length=v.cells.toList.length:=by simp[hsz]
     split at hx
     ·rename_i hin
      rw[if_pos (by omega)]at hx'
      obtain⟨y,hy1,hy2⟩:=hcs.getElem? hx
      rw[hx']at hy1;cases hy1
      exact hy2
     ·rename_i hin
      rw[if_neg (by omega)]at hx'
      obtain⟨y,hy1,hy2⟩:=hc.getElem? (by rw[Array.getElem?_toList];exact hx)
      rw[Array.getElem?_toList,hx']at hy1;cases hy1
      exact hy2
theorem Gl (hE:jO E P) {t:TypeId} {parts:List (Nat×Value)} {parts':Array (Nat×Value)} {v:Value} (h:Je E t parts=some v) (hp:KM σ parts parts'.toList) (w:World):∃v',(Instr.build t parts').run P w =.ok v' w∧VR σ v v':=by
 unfold Je at h
 split at h
 ·rename_i ti hti hb
  obtain⟨hu,i,z,hi,hsz,hby,hz,hzc,hzl,hzs,_⟩:=hE.types t ti hti
  have hzz:z.cells=ti.zero.toArray:=by rw[←hzc]
  have hz0:cZ σ ti.zero.toArray.toList z.cells.toList:=by rw[hzc];exact cZ.simple hzs
  split at h
  ·rename_i fs hd
   split at h
   ·rename_i pl hpl
    split at h
    ·rename_i cells hf
     cases h
     obtain⟨r',hr1,hr2⟩:=tN hf hb hp hz0
     refine⟨.agg r',run_build w t parts' r' ?_,.wT hr2⟩
     simp only[Program.built,hi,hu,hd,hz,Hq hE hpl]
     exact hr1
    ·cases h
   ·cases h
  ·rename_i n e hd
   split at h
   ·rename_i te hte
    obtain⟨_,ie,ze,hie,aaa,_⟩:=hE.types e te hte
    split at h
    ·rename_i cells hf
     cases h
     obtain⟨r',hr1,hr2⟩:=tN hf hb hp hz0
     refine⟨.agg r',run_build w t parts' r' ?_,.wT hr2⟩
     simp only[Program.built,hi,hu,hd,hz,hie,aaa]
     exact hr1
    ·cases h
   ·cases h
  ·cases h
 ·cases h
theorem JG (z:List Value):∀n,(rep n z).length=n*z.length:=by
 intro n
 induction n with
 | zero=>simp[rep]
 | succ n ih=>simp[rep,ih,Nat.add_mul];omega
theorem Qe (z:List Value) (_hz:0<z.length):∀(n j:Nat),j<n*z.length→(rep n z)[j]? = z[j%z.length]? := by
 intro n
 induction n with
 | zero=>intro j hj;simp at hj
 | succ n ih =>
   intro j hj
   simp only[rep]
   by_cases h:j<z.length
   ·rw[List.getElem?_append_left h,Nat.mod_eq_of_lt h]
   ·rw[List.getElem?_append_right (by omega),ih _ (by rw[Nat.add_mul]at hj;omega)]
    congr 1
    exact(Nat.mod_eq_sub_mod (by omega)).symm
theorem ET (z:Array Value) (n:Nat) (hz:0<z.size):(Array.range (n*z.size)).map (z[· % z.size]!)=(rep n z.toList).toArray:=by
 apply Array.ext'
 apply List.ext_getElem?
 intro j
 by_cases hj:j<n*z.size
 ·rw[List.toList_toArray,Qe z.toList (by simpa using hz) n j (by simpa using hj)]
  have hm:j%z.size<z.size:=Nat.mod_lt _ hz
  simp[hj,hm]
 ·rw[List.getElem?_eq_none (by simp;omega),List.getElem?_eq_none (by simp[JG];omega)]
theorem zk {z:List Value} (hz:∀v∈z,simple v=true):∀n,∀v∈rep n z,simple v=true:=by
 intro n
 induction n with
 | zero=>intro v hv;simp[rep]at hv
 | succ n ih =>
   intro v hv
   simp only[rep,List.mem_append]at hv
   rcases hv with h|h
   ·exact hz v h
   ·exact ih v h
theorem wQ (hE:jO E P) {t:TypeId} {len:Nat} {parts:List (Nat×Value)} {parts':Array (Nat×Value)} {out:Out} (h:kF E t len parts=some out) (hp:KM σ parts parts'.toList) :
 gB E P w0 σ m w (do pure (.value (←Instr.buildSlice t len parts'))) out:=by
 unfold kF at h
 split at h
 ·rename_i e te hel hb
  obtain⟨ht,hte⟩:=iR hE hel
  obtain⟨_,i,z,hi,hsz,hby,hz,hzc,hzl,hzs,_⟩:=hE.types e te hte
  split at h
  ·rename_i s hle hs1
   have hle':=Nat.le_of_ble_eq_true hle
   split at h
   ·rename_i cells hf
    cases h
    have hs1:te.size=s+1:=hs1
    have Qx:z.cells.size=s+1:=by rw[←hs1,←hzl,←hzc];simp
    have ZM:z.cells.toList=te.zero:=hzc
    obtain⟨r',hr1,hr2⟩:=tN (σ:=σ) (c':=(rep len te.zero).toArray) hf hb hp (by simpa using cZ.simple (zk hzs len))
    have hrun:(Instr.buildSlice t len parts').run P w =.ok (.slice (some ⟨w.heap.size,0,none⟩) len len) (w.alloc (.cells r' e)):=by
     have hsm:¬len*i.size>2 ^ 24:=by rw[hsz];omega
     have hpl:(fun j=>some (j*i.size,i.size))=(fun j=>some (j*(s+1),s+1)):=by rw[hsz,hs1]
     by_cases h0:len*i.size=0
     ·have hl0:len=0:=by
       rw[hsz,hs1]at h0
       rcases Nat.mul_eq_zero.1 h0 with h|h
       ·exact h
       ·omega
      subst hl0
      have he:(rep 0 te.zero).toArray =#[]:=rfl
      rw[he]at hr1
      have hc0:∀z0:Array Value,(Array.range (0*i.size)).map (z0[· % z0.size]!) =#[]:=fun z0=>by rw[Nat.zero_mul,Array.range_zero'];simp
      simp only[Instr.buildSlice,Sem.run_bind,run_underlying ht,Result.andThen_ok,fV hi,Sem.run_ite,if_neg hsm,if_pos h0,Sem.run_pure,hc0,hpl,hr1]
      simp[Go.newRow]
     ·refine run_buildSlice w t e len parts' r' i z ht hi hz hsm h0 ?_
      have hcells:(Array.range (len*i.size)).map (z.cells[· % z.cells.size]!)=(rep len te.zero).toArray:=by
       rw[hsz,hs1,←ZM]
       have:=ET z.cells len (by omega)
       rw[Qx]at this ⊢
       exact this
      rw[hcells,hpl];exact hr1
    have hor:=OR.newRow (w:=w) (e:=e) hte hr2
    have harr:r'.toList.toArray=r':=by simp
    rw[harr]at hor
    refine JK rfl hrun rfl rfl hor (fun σ' id hx => ?_)
    exact .slice hx (fun _=>rfl) (fun ho=>absurd ho (by
     have:len≤100000:=Nat.le_trans (Nat.le_mul_of_pos_right len (by omega)) hle'
     unfold OPEN;omega))
   ·cases h
  ·cases h
 ·cases h
theorem xS (hE:jO E P) {t:TypeId} {l c l' c':Value} {out:Out} (h:lM E t l c=some out) (hl:VR σ l l') (hc:VR σ c c') :
 gB E P w0 σ m w (do pure (.value (←Instr.makeSlice t l' c'))) out:=by
 unfold lM at h
 split at h
 ·rename_i e te k1 ln k2 cn hel
  obtain⟨ht,hte⟩:=iR hE hel
  obtain⟨_,i,z,hi,hsz,hby,hz,hzc,hzl,hzs,_⟩:=hE.types e te hte
  obtain rfl:=hl.aB rfl
  obtain rfl:=hc.aB rfl
  split at h
  ·rename_i h1 h2 h3 h4
   have h1':=Nat.le_of_ble_eq_true h1
   have h2':=Nat.le_of_ble_eq_true h2
   have h3':=Nat.le_of_ble_eq_true h3
   have h4':=Nat.le_of_ble_eq_true h4
   cases h
   have hb:(i.bytes:Int)*(cn:Int)≤281474976710656:=by
    have:i.bytes*cn≤100000*1000000:=Nat.mul_le_mul (by omega) h3'
    have h5:((i.bytes*cn:Nat):Int)≤281474976710656:=by omega
    rwa [Int.natCast_mul]at h5
   have hrun:=run_make (P:=P) w t e i z ht hi hz k1 k2 ln cn (by omega) (by omega) hb (by omega)
   have hcells:madeCells z.cells ((cn:Int).toNat*i.size)=(rep cn te.zero).toArray:=by
    rw[Int.toNat_natCast,hsz]
    by_cases h0:te.size=0
    ·have:te.zero=[]:=List.eq_nil_of_length_eq_zero (by rw[hzl,h0])
     have h6:(rep cn te.zero).length=0:=by rw[JG,this];simp
     rw[h0,List.eq_nil_of_length_eq_zero h6]
     unfold madeCells
     simp
    ·have Qx:z.cells.size=te.size:=by rw[←hzl,←hzc];simp
     have:=ET z.cells cn (by omega)
     rw[hzc,Qx]at this
     unfold madeCells
     rw[Qx];exact this
   rw[hcells]at hrun
   simp only[Int.toNat_natCast]at hrun
   have hor:=OR.newRow (w:=w) (e:=e) hte (cZ.simple (σ:=σ) (zk hzs cn))
   refine JK rfl hrun rfl rfl hor (fun σ' id hx => ?_)
   exact .slice hx (fun _=>rfl) (fun ho=>absurd ho (by unfold OPEN;omega))
  ·cases h
 ·cases h
theorem xV (hE:jO E P) {t:TypeId} {x x' v:Value} {f:Nat} (h:tO E t x f=some v) (hx:VR σ x x') (w:World):∃v',(Instr.fieldAt t x' f).run P w =.ok v' w∧VR σ v v':=by
 unfold tO at h
 split at h
 ·rename_i ti a hti
  obtain⟨hu,_⟩:=hE.types t ti hti
  split at h
  ·rename_i fs hd
   split at h
   ·rename_i fd TZ
    split at h
    ·rename_i tf ZR
     obtain⟨_,i,z,hi,hsz,_⟩:=hE.types _ _ ZR
     split at h
     ·cases h
     ·rename_i hne
      cases h
      cases hx with
      | refl hs=>simp[AS.simple]at hs
      | ptr hσ =>
        refine⟨_,?_,.ptr hσ⟩
        have hn:¬i.size=0:=by rw[hsz];exact fun e=>hne e
        simp[Instr.fieldAt,run_underlying hu,hd,TZ,Instr.sureAddr,fieldPlace,fV hi,hn,addr_add,Nat.add_assoc]
    ·cases h
   ·cases h
  ·cases h
 ·cases h
theorem FU (hE:jO E P) {t:TypeId} {x x' v:Value} {f:Nat} (h:IL E t x f=some v) (hx:VR σ x x') (w:World):∃v',(Instr.field t x' f).run P w =.ok v' w∧VR σ v v':=by
 unfold IL at h
 split at h
 ·rename_i ti cs hti
  obtain⟨hu,_⟩:=hE.types t ti hti
  split at h
  ·rename_i fs hd
   split at h
   ·rename_i fd TZ
    obtain⟨cs',rfl,hcs⟩:=hx.kZ
    obtain⟨v',hr,hv⟩:=j6 hE h hcs w
    exact⟨v',by simp[Instr.field,run_underlying hu,hd,TZ,asAgg,hr],hv⟩
   ·cases h
  ·cases h
 ·cases h
theorem xU (hE:jO E P) {t:TypeId} {x x' i i' v:Value} (h:tJ E t x i=some v) (hx:VR σ x x') (hi:VR σ i i') (w:World):∃v',(Instr.indexAt t x' i').run P w =.ok v' w∧VR σ v v':=by
 unfold tJ at h
 split at h
 ·rename_i ti k n hti
  obtain⟨hu,_⟩:=hE.types t ti hti
  obtain rfl:=hi.aB rfl
  split at h
  ·rename_i e a len cap hd
   split at h
   ·rename_i te hte hlt
    have hlt':n<len:=Nat.le_of_ble_eq_true hlt
    obtain⟨_,ie,z,hie,hsz,_⟩:=hE.types _ _ hte
    cases h
    rcases hx.fQ with⟨h1,_⟩|⟨j,o,y,c',h1,rfl,hy,_,_⟩
    ·cases h1
    ·cases h1
     refine⟨_,?_,.ptr hy⟩
     have hin:(0:Int)≤Int.ofNat n∧Int.ofNat n<(len:Int):=⟨Int.natCast_nonneg n,by show(n:Int)<len;omega⟩
     simp[Instr.indexAt,asIntOf,run_underlying hu,hd,fV hie,addr_add,hsz,Nat.add_assoc]
     omega
   ·cases h
  ·rename_i len e a hd
   split at h
   ·rename_i te hte hlt
    have hlt':n<len:=Nat.le_of_ble_eq_true hlt
    obtain⟨_,ie,z,hie,hsz,_⟩:=hE.types _ _ hte
    cases h
    cases hx with
    | refl hs=>simp[AS.simple]at hs
    | ptr hy =>
      refine⟨_,?_,.ptr hy⟩
      simp[Instr.indexAt,asIntOf,run_underlying hu,hd,fV hie,addr_add,hsz,Nat.add_assoc,Instr.sureAddr]
      omega
   ·cases h
  ·cases h
 ·cases h
theorem FC (hE:jO E P) {t:TypeId} {x x' i i' v:Value} (h:Iq E t x i=some v) (hx:VR σ x x') (hi:VR σ i i') (w:World):∃v',(Instr.index t x' i').run P w =.ok v' w∧VR σ v v':=by
 unfold Iq at h
 split at h
 ·rename_i ti k n hti
  obtain⟨hu,_⟩:=hE.types t ti hti
  obtain rfl:=hi.aB rfl
  split at h
  ·rename_i len e cs hd
   split at h
   ·rename_i te hte hlt
    have hlt':n<len:=Nat.le_of_ble_eq_true hlt
    obtain⟨_,ie,z,hie,hsz,_⟩:=hE.types _ _ hte
    obtain⟨cs',rfl,hcs⟩:=hx.kZ
    obtain⟨v',hr,hv⟩:=j6 hE h hcs w
    refine⟨v',?_,hv⟩
    have hin:(0:Int)≤Int.ofNat n∧Int.ofNat n<(len:Int):=⟨Int.natCast_nonneg n,by show(n:Int)<len;omega⟩
    simp only[Instr.index,asIntOf,Sem.run_bind,Sem.run_pure,Result.andThen_ok,run_underlying hu,hd,Sem.run_ite,if_pos hin,fV hie,hsz]
    exact hr
   ·cases h
  ·rename_i s hd
   split at h
   ·rename_i b hb
    cases h
    obtain rfl:=hx.aB rfl
    refine⟨.int .u8 b.toNat,?_,.refl rfl⟩
    have hsb:s[n]? = some b:=by
     have h1:s.data[n]? = some b:=by simpa using hb
     obtain⟨h2,h3⟩:=Array.getElem?_eq_some_iff.1 h1
     have h4:n<s.size:=h2
     rw[getElem?_pos s n h4]
     exact congrArg some h3
    simp[Instr.index,asIntOf,run_underlying hu,hd,hsb]
   ·cases h
  ·cases h
 ·cases h
end Go.AS
