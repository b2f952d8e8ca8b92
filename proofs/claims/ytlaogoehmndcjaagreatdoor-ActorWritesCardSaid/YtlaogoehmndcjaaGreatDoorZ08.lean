import Derived.Test.YtlaogoehmndcjaaGreatDoorZ04
import Derived.Test.YtlaogoehmndcjaaGreatDoorZ07
import Derived.Laws.Strings2
set_option linter.unusedSectionVars false
set_option maxHeartbeats 1000000
set_option linter.unusedVariables false
set_option linter.unusedSimpArgs false
namespace Go.AS
open Go.RowKit
variable [bH]
variable {E:Env} {P:Program} {w0:World} {σ:Sg} {m:Mem} {w:World}
theorem gB.congr {s s':Sem Next} {out:Out} (he:s'.run P w=s.run P w) (h:gB E P w0 σ m w s out):gB E P w0 σ m w s' out:=by
 cases out with
 | val v=>obtain⟨nx,v',h1,h2,h3⟩:=h;exact⟨nx,v',he.trans h1,h2,h3⟩
 | new o mk=>obtain⟨v',ob,x,h1,h2⟩:=h;exact⟨v',ob,x,he.trans h1,h2⟩
 | kM v m'=>obtain⟨nx,v',w',σ',h1,h2⟩:=h;exact⟨nx,v',w',σ',he.trans h1,h2⟩
 | enter f args =>
   cases f with
   | fn f=>obtain⟨args',h1,h2⟩:=h;exact⟨args',he.trans h1,h2⟩
   | uq i=>obtain⟨args',x,h0,h1,h2⟩:=h;exact⟨args',x,h0,he.trans h1,h2⟩
theorem Jk {α:Type} {a:Array α} {x y:α} (h:a.toList=[x,y]):a =#[x,y]:=Array.ext' (by simpa using h)
theorem YP {α:Type} {a:Array α} {x:α} (h:a.toList=[x]):a =#[x]:=Array.ext' (by simpa using h)
theorem ZH (ρ:Operand→Value) (x:Operand):(#[x].map ρ) =#[ρ x]:=by simp
theorem NJ (ρ:Operand→Value) (x y:Operand):(#[x,y].map ρ) =#[ρ x,ρ y]:=by simp
theorem cZ.map {ρ ρ':Operand→Value} (hρ:∀x,VR σ (ρ x) (ρ' x)) (l:List Operand):cZ σ (l.map ρ) (l.map ρ'):=by
 induction l with
 | nil=>exact cZ.nil σ
 | cons x l ih=>exact cZ.cons (hρ x) ih
theorem KM.map {ρ ρ':Operand→Value} (hρ:∀x,VR σ (ρ x) (ρ' x)) (l:Array (Nat×Operand)):KM σ (l.toList.map fun p=>(p.1,ρ p.2)) (l.map fun p=>(p.1,ρ' p.2)).toList:=by
 rw[Array.toList_map]
 refine⟨by simp,fun i a b ha hb => ?_⟩
 rw[List.getElem?_map]at ha hb
 cases h:l.toList[i]? with
 | none=>rw[h]at ha;cases ha
 | some p=>rw[h]at ha hb;cases ha;cases hb;exact⟨rfl,hρ _⟩
theorem Mx.map {ρ ρ':Operand→Value} (hρ:∀x,VR σ (ρ x) (ρ' x)) (x:Option Operand):Mx σ (x.map ρ) (x.map ρ'):=by
 cases x with
 | none=>exact .inl ⟨rfl,rfl⟩
 | some x=>exact .inr ⟨_,_,rfl,rfl,hρ x⟩
theorem CQ (hE:jO E P) (h:MR E w0 σ m w) {t:TypeId} {x x':Value} {lo hi mx lo' hi' mx':Option Value} (hne:zf E t x lo hi mx m≠[]) (hx:VR σ x x') (hlo:Mx σ lo lo') (hhi:Mx σ hi hi') (hmx:Mx σ mx mx') :
 ∃out∈zf E t x lo hi mx m,gB E P w0 σ m w (do pure (.value (←Instr.sliceAt t x' lo' hi' mx'))) out:=by
 generalize hL:zf E t x lo hi mx m=L at hne ⊢
 unfold zf at hL
 split at hL
 ·rename_i ti hti Y7
  obtain⟨hu,_⟩:=hE.types t ti hti
  have N9:hi'=none→mx'=none:=by
   intro he
   rcases hhi with⟨h1,_⟩|⟨_,_,_,h2,_⟩
   ·rcases hmx with⟨_,h3⟩|⟨_,_,h3,_⟩
    ·exact h3
    ·subst h1 h3;cases Y7
   ·rw[he]at h2;cases h2
  split at hL
  ·rename_i e hd
   split at hL
   ·rename_i te hte
    subst hL
    exact CP hE h (by rw[hu,hd]) hte hne hx hlo hhi hmx Y7
   ·exact absurd hL.symm hne
  ·rename_i hd
   split at hL
   ·rename_i s
    obtain rfl:=hx.aB rfl
    have TQ:mx'=none:=by
     rcases hmx with⟨_,h⟩|⟨_,_,h,_⟩
     ·exact h
     ·cases h
    have hss:s.size=s.data.toList.length:=by cases s;rfl
    split at hL
    ·rename_i hh Mw
     split at hL
     ·rename_i l hbl
      subst hL
      refine⟨_,List.mem_singleton.2 rfl,?_⟩
      have h2:=bZ Mw hhi
      have h3:=bZ hbl hlo
      have hb:=iy (P:=P) (Qu:=false) (len:=s.size) (cap:=s.size) (mx:=none) (hi:=hi') (lo:=lo') (m:=s.size) (h:=hh) (l:=l) (.inl ⟨rfl,rfl⟩) (h2.imp (fun⟨_,a,b⟩=>⟨a,by omega⟩) (fun⟨k,a,b⟩=>⟨k,a,by omega⟩)) (fun _=>rfl) (h3.imp (fun⟨_,a,b⟩=>⟨a,b⟩) id) w
      refine bT rfl (v' :=.string (s.extract l hh)) ?_ ?_
      ·subst TQ
       simp[Instr.sliceAt,Instr.slice,run_underlying hu,hd,hb]
      ·have:s.extract l hh=⟨((s.data.toList.drop l).take (hh-l)).toArray⟩:=by
        have h9:=Go.ByteArray.extract_mk s.data.toList l hh
        simpa using h9
       rw[this]
       exact .refl rfl
     ·exact absurd hL.symm hne
    ·exact absurd hL.symm hne
   ·exact absurd hL.symm hne
  ·rename_i n e hd
   split at hL
   ·rename_i a te hte hn
    have hn':=Nat.le_of_ble_eq_true hn
    obtain⟨_,i,z,hi0,hsz,_⟩:=hE.types e te hte
    split at hL
    ·rename_i mm Ku
     split at hL
     ·rename_i hh Mw
      split at hL
      ·rename_i l hbl
       subst hL
       refine⟨_,List.mem_singleton.2 rfl,?_⟩
       have h1:=bZ Ku hmx
       have h2:=bZ Mw hhi
       have h3:=bZ hbl hlo
       have hmn:mm≤n:=by rcases h1 with⟨_,_,h⟩|⟨_,_,h⟩<;>omega
       have hb:=iy (P:=P) (Qu:=false) (len:=n) (cap:=n) (h1.imp (fun⟨_,a,b⟩=>⟨a,b⟩) id) (h2.imp (fun⟨_,a,b⟩=>⟨a,b⟩) id) N9 (h3.imp (fun⟨_,a,b⟩=>⟨a,b⟩) id) w
       cases hx with
       | refl h0=>simp[AS.simple]at h0
       | ptr hy =>
         rename_i j o y
         have hrun:(Instr.sliceAt t (.pointer (some ⟨y.b,y.sh+o,none⟩)) lo' hi' mx').run P w =.ok (.slice (some (if mm=l then⟨y.b,y.sh+o,none⟩else(⟨y.b,y.sh+o,none⟩:Addr).add (l*i.size))) (hh-l) (mm-l)) w:=by
          simp[Instr.sliceAt,run_underlying hu,hd,Instr.sureAddr,hb,fV hi0]
         refine bT rfl hrun ?_
         by_cases e1:mm=l
         ·subst e1
          simp only[if_true,Nat.beq_refl,cond]
          exact .slice hy (fun _=>rfl) (fun ho=>absurd ho (by unfold OPEN;omega))
         ·have:Nat.beq mm l=false:=by
           cases hb2:Nat.beq mm l with
           | false=>rfl
           | true=>exact absurd (Nat.eq_of_beq_eq_true hb2) e1
          simp only[e1,if_false,this,cond,addr_add,hsz,Nat.add_assoc]
          exact .slice hy (fun _=>rfl) (fun ho=>absurd ho (by unfold OPEN;omega))
      ·exact absurd hL.symm hne
     ·exact absurd hL.symm hne
    ·exact absurd hL.symm hne
   ·exact absurd hL.symm hne
  ·exact absurd hL.symm hne
 ·exact absurd hL.symm hne
theorem rX (hE:jO E P) {t:TypeId} {name:String} {g:FuncId} {v v' u:Value} (h:oK E t name v=some (g,u)) (hv:VR σ v v') (n:Nat) (w:World) :
 ∃u',(method (n+1) t v' name).run P w =.ok (g,u') w∧VR σ u u':=by
 unfold oK at h
 split at h
 ·rename_i i ti hi hti
  rw[hE.prog]at hi
  obtain⟨hu,_⟩:=hE.types t ti hti
  split at h
  ·rename_i mt hm
   have hm':i.methods.find? (fun m=>m.name==name)=some mt:=by simpa using hm
   split at h
   ·rename_i f ptr hp hf
    have hp':mt.path =#[]:=Array.ext' hp
    split at h
    ·rename_i e hd
     cases h
     rw[hd]at hu
     exact⟨v',by simp[method,typeInfo,hi,hm',hp',follow,hf,receiverAt,run_underlying hu,Place.get],hv⟩
    ·cases h
    ·rename_i hd
     cases h
     refine⟨v',?_,hv⟩
     generalize ti.desc=d at hu hd
     cases d<;>first|exact absurd rfl (hd _)|simp[method,typeInfo,hi,hm',hp',follow,hf,receiverAt,run_underlying hu,Place.get]
    ·cases h
   ·rename_i st f hp hf
    have hp':mt.path =#[st]:=Array.ext' hp
    split at h
    ·rename_i ts a hdf hts
     obtain⟨Iy,_⟩:=hE.types _ _ hts
     split at h
     ·rename_i fs hd
      split at h
      ·rename_i fd TZ
       split at h
       ·rename_i tf ZR
        obtain⟨huf,j,z,hj,hsz,_⟩:=hE.types _ _ ZR
        split at h
        ·rename_i hne hnp
         cases h
         cases hv with
         | refl hs=>simp[AS.simple]at hs
         | ptr hσ =>
           refine⟨_,?_,.ptr hσ⟩
           have hn:¬j.size=0:=by rw[hsz];exact Nat.ne_of_beq_eq_false hne
           rw[hd]at Iy
           generalize tf.desc=dd at huf hnp
           cases dd<;>first|(cases hnp;done)|simp[method,typeInfo,hi,hm',hp',follow,hf,receiverAt,run_underlying Iy,run_underlying huf,Place.get,TZ,hdf,asAddr,fieldPlace,fV hj,hn,addr_add,Nat.add_assoc]
        ·cases h
       ·cases h
      ·cases h
     ·cases h
    ·cases h
   ·cases h
  ·cases h
 ·cases h
theorem Bj (hE:jO E P) {t:TypeId} {name:String} {r:FuncId×Value} {v v':Value} (h:oK E t name v=some r) (hv:VR σ v v') (n:Nat) (w:World) :
 (nilAhead (n+1) t v' name).run P w =.ok (some false) w:=by
 unfold oK at h
 split at h
 ·rename_i i ti hi hti
  rw[hE.prog]at hi
  obtain⟨hu,_⟩:=hE.types t ti hti
  split at h
  ·rename_i mt hm
   have hm':i.methods.find? (fun m=>m.name==name)=some mt:=by simpa using hm
   split at h
   ·rename_i f ptr hp hf
    have hp':mt.path =#[]:=Array.ext' hp
    split at h
    ·simp[nilAhead,typeInfo,hi,hm',hp',followBlind,hf]
    ·cases h
    ·rename_i hd
     generalize ti.desc=d at hu hd
     cases d<;>first|exact absurd rfl (hd _)|simp[nilAhead,typeInfo,hi,hm',hp',followBlind,hf,run_underlying hu]
    ·cases h
   ·rename_i st f hp hf
    have hp':mt.path =#[st]:=Array.ext' hp
    split at h
    ·rename_i ts a hdf hts
     obtain⟨Iy,_⟩:=hE.types _ _ hts
     split at h
     ·rename_i fs hd
      split at h
      ·rename_i fd TZ
       rw[hd]at Iy
       cases hv with
       | refl hs=>simp[AS.simple]at hs
       | ptr hσ=>simp[nilAhead,typeInfo,hi,hm',hp',followBlind,hf,run_underlying Iy,TZ,hdf]
      ·cases h
     ·cases h
    ·cases h
   ·cases h
  ·cases h
 ·cases h
theorem qV (hE:jO E P) {asserted:TypeId} {ta:TI} (NU:E.types.get asserted=some ta) {ok:Bool} {v:Value} (h:noT ok (zeroOf ta)=some v) {s:Sem Value} (w:World)
 (hs:ok=true→s.run P w=(do pure (.tuple #[←zeroValue asserted,.bool false]):Sem Value).run P w):∃v',s.run P w =.ok v' w∧VR σ v v':=by
 cases ok with
 | false=>cases h
 | true =>
   obtain⟨z,hz,hzv⟩:=uo (σ:=σ) hE NU w
   cases h
   refine⟨.tuple #[z,.bool false],?_,.ig (cZ.cons hzv (cZ.cons (.refl rfl) (cZ.nil σ)))⟩
   rw[hs rfl]
   simp[hz]
theorem yU {ok:Bool} {v u v':Value} (h:R5 ok v=some u) (hv:VR σ v v'):VR σ u (if ok=true then .tuple #[v',.bool true]else v'):=by
 cases ok<;>cases h
 ·exact hv
 ·exact .ig (cZ.cons hv (cZ.cons (.refl rfl) (cZ.nil σ)))
theorem EW (hE:jO E P) (h:MR E w0 σ m w) {t:TypeId} {x x':Value} {out:Out} (ha:Hl E t x m=some out) (hx:VR σ x x'):gB E P w0 σ m w (do pure (.value (←Instr.range t x'))) out:=by
 unfold Hl at ha
 split at ha
 ·cases ha
 ·rename_i ti hti
  obtain⟨hu,_⟩:=hE.types _ _ hti
  split at ha
  ·rename_i s hd
   rw[hd]at hu
   obtain rfl:=hx.aB rfl
   cases ha
   exact⟨_,.stringIter s 0,⟨w.heap.size,0,0,0,.nilFunc⟩,by simp[Instr.range,run_underlying hu],rfl,rfl,⟨rfl,rfl,rfl⟩,fun σ' id hy => .ptr hy⟩
  ·rename_i hd
   rw[hd]at hu
   obtain rfl:=hx.aB rfl
   cases ha
   exact⟨_,.mapIter none 0 #[] 0,⟨w.heap.size,0,0,0,.nilFunc⟩,by simp[Instr.range,run_underlying hu],rfl,rfl,rfl,fun σ' id hy => .ptr hy⟩
  ·rename_i r hd
   rw[hd]at hu
   split at ha
   ·rename_i es clock hr
    cases ha
    cases hx with
    | refl hs=>simp[AS.simple]at hs
    | map hy =>
      rename_i y
      obtain⟨es',eu,her⟩:=h.tH hr hy
      exact⟨_,.mapIter (some y.b) clock #[] clock,⟨w.heap.size,0,0,0,.nilFunc⟩,by simp[Instr.range,run_underlying hu,run_getObj_map eu],rfl,rfl,⟨⟨y,hy,rfl⟩,rfl,rfl,rfl,rfl⟩,fun σ' id hz => .ptr hz⟩
   ·cases ha
  ·cases ha
theorem fG {w:World} {r:Nat} {o:Obj} (h:w.heap[r]? = some o) (hn:∀a b c,o ≠ .cells a b c:=by intro a b c h;cases h):(getObj r).run P w =.ok o w:=by
 cases o<;>first|exact absurd rfl (hn _ _ _)|simp[getObj,Sem.run,h]
theorem Gb {n:Nat} (hn:0<n) (w:World):∃(j:Nat) (w1:World),j<n∧(w1=w∨w1=w.drew)∧(choose (Question.mapNext n)).run P w =.ok j w1:=by
 by_cases hf:n≤1
 ·exact⟨0,w,by omega,Or.inl rfl,by simp[choose,Sem.run,Question.forced,hf]⟩
 ·exact⟨_,w.drew,Nat.mod_lt _ hn,Or.inr rfl,by
   simp only[choose,Sem.run,Question.forced,decide_eq_true_eq,hf,if_false,Question.cut]
   rfl⟩
theorem NG {x:Nat}:∀{l:List Nat},NH x l=l.contains x:=by
 intro l
 induction l with
 | nil=>rfl
 | cons y l ih =>
   have hb:Nat.beq x y=(x==y):=by cases e:Nat.beq x y with|true=>simp[Nat.eq_of_beq_eq_true e]|false=>simp[Nat.ne_of_beq_eq_false e]
   simp only[NH,List.contains_cons,ih,hb]
   cases x==y<;>rfl
theorem Dz {seen:List Nat} {seen':Array Nat} (hs:seen'.toList=seen):∀{es es':List MapEntry},nA σ es es'→nA σ (leftOf seen es) (es'.filter fun e => !seen'.contains e.born):=by
 intro es
 induction es with
 | nil=>intro es' h;obtain rfl:=h.jW;exact h
 | cons e es ih =>
   intro es' h
   obtain⟨e',es',rfl⟩:=h.cons_inv
   have hm:NH e.born seen=seen'.contains e'.born:=by rw[NG,←h.head.1,←hs,Array.contains_toList]
   simp only[leftOf,List.filter_cons,hm]
   cases seen'.contains e'.born with
   | true=>exact ih h.tail
   | false=>exact nA.cons h.head (ih h.tail)
theorem E5 {since:Nat}:∀{es es':List MapEntry},nA σ es es'→nA σ (qc since es) (es'.filter fun e=>decide (e.born<since)):=by
 intro es
 induction es with
 | nil=>intro es' h;obtain rfl:=h.jW;exact h
 | cons e es ih =>
   intro es' h
   obtain⟨e',es',rfl⟩:=h.cons_inv
   have hm:Nat.blt e.born since=decide (e'.born<since):=by
    rw[h.head.1]
    by_cases hlt:e'.born<since
    ·rw[decide_eq_true hlt];exact Nat.ble_eq_true_of_le hlt
    ·rw[decide_eq_false hlt]
     cases hb:Nat.blt e'.born since with
     | false=>rfl
     | true=>exact absurd (Nat.le_of_ble_eq_true hb) hlt
   simp only[qc,List.filter_cons,hm]
   cases decide (e'.born<since)with
   | true=>exact nA.cons h.head (ih h.tail)
   | false=>exact ih h.tail
theorem Fh {since:Nat}:∀{es es':List MapEntry},nA σ es es'→nA σ (xw since es) (es'.filter fun e=>decide (e.born≥since)):=by
 intro es
 induction es with
 | nil=>intro es' h;obtain rfl:=h.jW;exact h
 | cons e es ih =>
   intro es' h
   obtain⟨e',es',rfl⟩:=h.cons_inv
   have hm:Nat.blt e.born since = !decide (e'.born≥since):=by
    rw[h.head.1]
    by_cases hlt:e'.born<since
    ·rw[decide_eq_false (by omega)];exact Nat.ble_eq_true_of_le hlt
    ·rw[decide_eq_true (by omega)]
     cases hb:Nat.blt e'.born since with
     | false=>rfl
     | true=>exact absurd (Nat.le_of_ble_eq_true hb) hlt
   simp only[xw,List.filter_cons,hm]
   cases decide (e'.born≥since)with
   | true=>exact nA.cons h.head (ih h.tail)
   | false=>exact ih h.tail
theorem xB {es es':List MapEntry} (h:nA σ es es'):isNil es=es'.isEmpty:=by
 cases es with
 | nil=>obtain rfl:=h.jW;rfl
 | cons e es=>obtain⟨e',es',rfl⟩:=h.cons_inv;rfl
theorem BF {last:Nat}:∀{es es':List MapEntry},nA σ es es'→rC last es=es'.all fun e=>decide (e.born≥last):=by
 intro es
 induction es with
 | nil=>intro es' h;obtain rfl:=h.jW;rfl
 | cons e es ih =>
   intro es' h
   obtain⟨e',es',rfl⟩:=h.cons_inv
   have hm:Nat.ble last e.born=decide (e'.born≥last):=by
    rw[h.head.1]
    by_cases hlt:last≤e'.born
    ·rw[decide_eq_true hlt];exact Nat.ble_eq_true_of_le hlt
    ·rw[decide_eq_false hlt]
     cases hb:Nat.ble last e'.born with
     | false=>rfl
     | true=>exact absurd (Nat.le_of_ble_eq_true hb) hlt
   simp only[rC,List.all_cons,hm,ih h.tail]
   cases decide (e'.born≥last)<;>rfl
theorem Dn {m:Mem} {i r since:Nat} {seen:List Nat} {clock:Nat}:∀{l:List MapEntry} {j:Nat} {e:MapEntry},l[j]? = some e→Out.kM (.tuple #[.bool true,e.key,e.val]) ⟨m.n,m.t.set i (.ND (some r) since (seen++[e.born]) clock)⟩∈ql m i r since seen clock l:=by
 intro l
 induction l with
 | nil=>intro j e h;cases h
 | cons a l ih =>
   intro j e h
   cases j with
   | zero=>cases h;simp[ql]
   | succ j=>exact List.mem_cons_of_mem _ (ih h)
theorem MR.iter (h:MR E w0 σ m w) {i:Nat} {o:fA} (hr:m.t.get i=some o) (ho:o.live=true) {x:Inf} (hx:σ i=some x):∃ob,w.heap[x.b]? = some ob∧OR E σ x o ob∧x.b<w.heap.size:=by
 obtain⟨y,ob,hy,hB,eu,hor⟩:=h.obj i _ hr ho
 obtain rfl:y=x:=by rw[hx]at hy;exact(Option.some.inj hy).symm
 exact⟨ob,eu,hor,(Array.getElem?_eq_some_iff.1 eu).1⟩
theorem jQ {w:World} {r:Nat} {o o':Obj} (h:w.heap[r]? = some o) (hn:∀a b c,o ≠ .cells a b c):(setObj r o').run P w =.ok () { w with heap:=w.heap.setIfInBounds r o' }:=by
 cases o<;>first|exact absurd rfl (hn _ _ _)|simp[setObj,Sem.run,h]
theorem MR.JA (h:MR E w0 σ m w) {i:Nat} {o o':fA} (hr:m.t.get i=some o) (ho:o.live=true) (ho':o'.live=true) {x:Inf} (hx:σ i=some x) (hlt:x.b<w.heap.size) {ob:Obj} (hor:OR E σ x o' ob) :
 MR E w0 σ ⟨m.n,m.t.set i o'⟩ { w with heap:=w.heap.setIfInBounds x.b ob }∧FG σ m w σ ⟨m.n,m.t.set i o'⟩ { w with heap:=w.heap.setIfInBounds x.b ob } :=
 h.turn hr ho hx ho' (by simp) (fun k hk=>by simp[Ne.symm hk]) rfl rfl rfl (ob:=ob) (by simp[hlt]) hor
theorem FG.drew (σ:Sg) (m:Mem) (w:World):FG σ m w σ m w.drew:=⟨Ext.refl σ,Nat.le_refl _,fun _ _ _=>rfl,fun _ h => .inl h,Nat.le_refl _,fun _ _=>rfl⟩
theorem Ih (h:MR E w0 σ m w) {ty:TypeId} {it it':Value} {isString:Bool} (hne:Fg it isString m≠[]) (hx:VR σ it it') :
 ∃out∈Fg it isString m,gB E P w0 σ m w (do pure (.value (←Instr.next it' isString ty))) out:=by
 generalize hL:Fg it isString m=L at hne ⊢
 unfold Fg at hL
 split at hL
 ·rename_i i
  cases hx with
  | refl hs=>simp[AS.simple]at hs
  | ptr hσ =>
    rename_i x
    split at hL
    ·rename_i s p hr
     obtain⟨ob,eu,hor,hlt⟩:=h.iter hr rfl hσ
     cases ob with
     | stringIter s' p' =>
       obtain⟨rfl,rfl,hsh⟩:=hor
       have hg:=fG (P:=P) eu
       split at hL
       ·rename_i hp
        subst hL
        have hp':p'<s'.size:=Nat.le_of_ble_eq_true hp
        obtain⟨hm',hf'⟩:=h.JA (o' :=.sit s' (p'+(Utf8.decode s' p').2)) (ob :=.stringIter s' (p'+(Utf8.decode s' p').2)) hr rfl rfl hσ hlt ⟨rfl,rfl,hsh⟩
        refine⟨_,List.mem_singleton.2 rfl,iF (σ':=σ) rfl (v' :=.tuple #[.bool true,.int .i64 p',.int .i32 (Utf8.decode s' p').1]) ?_ ?_ hm' hf'⟩
        ·simp only[Instr.next,hsh,Nat.add_zero,Sem.run_bind,hg,Result.andThen_ok,hp',if_true,jQ (P:=P) eu (by intro a b c e;cases e)]
         rfl
        ·exact .ig (cZ.cons (.refl rfl) (cZ.cons (.refl rfl) (cZ.cons (.refl rfl) (cZ.nil σ))))
       ·rename_i hp
        subst hL
        have hp':¬p'<s'.size:=fun e=>by
         have h1:Nat.blt p' s'.size=true:=Nat.ble_eq_true_of_le e
         rw[h1]at hp;cases hp
        refine⟨_,List.mem_singleton.2 rfl,bT rfl (v' :=.tuple #[.bool false]) ?_ (.ig (cZ.cons (.refl rfl) (cZ.nil σ)))⟩
        simp only[Instr.next,hsh,Nat.add_zero,Sem.run_bind,hg,Result.andThen_ok,hp',if_false]
        rfl
     | _=>exact hor.elim
    ·rename_i hr
     subst hL
     obtain⟨ob,eu,hor,hlt⟩:=h.iter hr rfl hσ
     cases ob with
     | mapIter r' s1 s2 s3 =>
       cases r' with
       | some _=>exact hor.elim
       | none =>
         have hsh:x.sh=0:=hor
         have hg:=fG (P:=P) eu
         refine⟨_,List.mem_singleton.2 rfl,bT rfl (v' :=.tuple #[.bool false]) ?_ (.ig (cZ.cons (.refl rfl) (cZ.nil σ)))⟩
         simp only[Instr.next,hsh,Nat.add_zero,Sem.run_bind,hg,Result.andThen_ok]
         rfl
     | _=>exact hor.elim
    ·rename_i r since seen last hr
     split at hL
     ·rename_i es clock hrm
      obtain⟨ob,eu,hor,hlt⟩:=h.iter hr rfl hσ
      cases ob with
      | mapIter r' since' seen' last' =>
        cases r' with
        | none=>exact hor.elim
        | some b =>
          obtain⟨⟨y,hy,rfl⟩,rfl,FH,rfl,hsh⟩:=hor
          obtain⟨es',TM,her⟩:=h.tH hrm hy
          have hg:=fG (P:=P) eu
          have hgm:=fG (P:=P) TM
          have hl:=Dz FH her
          have ho:=E5 (since:=since') hl
          have hn:=Fh (since:=since') hl
          have hon:=ho.append hn
          have Xb:(!seen'.isEmpty && !es'.isEmpty&&es'.all fun e=>decide (e.born≥last'))=false:=by
           have h1:seen'.isEmpty=isNil seen:=by
            rw[←FH]
            cases seen' with|mk q=>cases q<;>rfl
           have h2:es'.isEmpty=isNil es:=by
            rw[xB her]
            cases es' with|mk q=>cases q<;>rfl
           have h3:(es'.all fun e=>decide (e.born≥last'))=rC last' es:=by
            rw[BF her];simp
           rw[h1,h2,h3]
           cases q1:isNil seen<;>cases q2:isNil es<;>cases q3:rC last' es<;>first|rfl|(simp only[q1,q2,q3]at hL;exact absurd hL.symm hne)
          have hL2:L=cond (isNil (qc since' (leftOf seen es))) [Out.kM EY m] []++ql m i r since' seen clock (qc since' (leftOf seen es)++xw since' (leftOf seen es)):=by
           rw[←hL]
           split
           ·rename_i q1 q2 q3;rw[q1,q2,q3]at hL;exact absurd hL.symm hne
           ·rfl
          clear hL
          obtain⟨OA,RF⟩:∃OA,(es'.filter fun e => !seen'.contains e.born).filter (fun e=>decide (e.born<since'))=OA:=⟨_,rfl⟩
          obtain⟨NA,hNA⟩:∃NA,(es'.filter fun e => !seen'.contains e.born).filter (fun e=>decide (e.born≥since'))=NA:=⟨_,rfl⟩
          have hOL:OA.toList=(es'.toList.filter fun e => !seen'.contains e.born).filter (fun e=>decide (e.born<since')):=by rw[←RF,Array.toList_filter,Array.toList_filter]
          have hNL:NA.toList=(es'.toList.filter fun e => !seen'.contains e.born).filter (fun e=>decide (e.born≥since')):=by rw[←hNA,Array.toList_filter,Array.toList_filter]
          rw[←hOL]at ho
          rw[←hOL,←hNL]at hon
          have hnil:isNil (qc since' (leftOf seen es))=OA.isEmpty:=by
           rw[xB ho]
           cases OA with|mk q=>cases q<;>rfl
          obtain⟨C,hC⟩:∃C,(if OA.isEmpty=true then #[none]else #[])++(OA++NA).map some=C:=⟨_,rfl⟩
          have e0:(Instr.next (.pointer (some ⟨x.b,0,none⟩)) false ty).run P w=((choose (Question.mapNext C.size)).run P w).andThen (fun k=>(match C[k]? with
           | some (some e)=>do
             setObj x.b (.mapIter (some y.b) since' (seen'.push e.born) clock)
             pure (Value.tuple #[.bool true,e.key,e.val])
           | some none=>pure (Value.tuple #[.bool false])
           | none=>stuck "Next: no such candidate" : Sem Value).run P):=by
           simp only[Instr.next,Sem.run_bind,hg,hgm,Result.andThen_ok,Xb,Bool.false_eq_true,if_false,RF,hNA,hC]
           rfl
          have hpos:0<C.size:=by
           rw[←hC]
           by_cases q:OA.isEmpty=true
           ·rw[if_pos q];simp;omega
           ·rw[if_neg q]
            have:OA.size≠0:=fun z=>q (by simp[Array.isEmpty,z])
            simp;omega
          obtain⟨j,w1,hj,hw1,hrun⟩:=Gb (P:=P) hpos w
          rw[hrun,Result.andThen_ok]at e0
          have hm1:MR E w0 σ m w1∧FG σ m w σ m w1∧w1.heap=w.heap:=by
           rcases hw1 with rfl|rfl
           ·exact⟨h,FG.refl σ m _,rfl⟩
           ·exact⟨h.drew,FG.drew σ m w,rfl⟩
          obtain⟨hm1,hf1,hh1⟩:=hm1
          have hit:(Value.pointer (some ⟨x.b,x.sh+0,none⟩)) =.pointer (some ⟨x.b,0,none⟩):=by rw[hsh]
          rw[hit,hL2]
          have hcase:(C[j]? = some none∧OA.isEmpty=true)∨∃(k:Nat) (e:MapEntry),C[j]? = some (some e)∧(OA++NA).toList[k]? = some e:=by
           have hCl:C.toList=(if OA.isEmpty=true then[none]else[])++(OA++NA).toList.map some:=by
            rw[←hC,Array.toList_append,Array.toList_map]
            by_cases q:OA.isEmpty=true<;>simp[q]
           have hj':j<C.toList.length:=by simpa using hj
           rw[←Array.getElem?_toList]
           rw[hCl]at hj' ⊢
           by_cases q:OA.isEmpty=true
           ·rw[if_pos q]at hj' ⊢
            cases j with
            | zero=>exact .inl ⟨rfl,q⟩
            | succ j =>
              have hjl:j<(OA++NA).toList.length:=by
               simp only[List.length_append,List.length_map,List.length_cons,List.length_nil]at hj';omega
              exact .inr ⟨j,(OA++NA).toList[j],by rw[List.singleton_append,List.getElem?_cons_succ,List.getElem?_map,List.getElem?_eq_getElem hjl];rfl,List.getElem?_eq_getElem hjl⟩
           ·rw[if_neg q]at hj' ⊢
            have hjl:j<(OA++NA).toList.length:=by
             simp only[List.length_append,List.length_map,List.length_nil]at hj';omega
            exact .inr ⟨j,(OA++NA).toList[j],by rw[List.nil_append,List.getElem?_map,List.getElem?_eq_getElem hjl];rfl,List.getElem?_eq_getElem hjl⟩
          rcases hcase with⟨hcj,hq⟩|⟨k,e',hcj,hk⟩
          ·rw[hcj]at e0
           refine⟨.kM EY m,List.mem_append_left _ (by rw[hnil,hq];simp),iF (σ':=σ) rfl (v' :=.tuple #[.bool false]) (w':=w1) ?_ (.ig (cZ.cons (.refl rfl) (cZ.nil σ))) hm1 hf1⟩
           rw[e0];rfl
          ·rw[hcj]at e0
           have hk':k<(qc since' (leftOf seen es)++xw since' (leftOf seen es)).length:=by
            have h1:=(List.getElem?_eq_some_iff.1 hk).1
            have h2:=hon.1
            rw[Array.toList_append]at h1
            omega
           obtain⟨e,hke⟩:∃e,(qc since' (leftOf seen es)++xw since' (leftOf seen es))[k]? = some e:=⟨_,List.getElem?_eq_getElem hk'⟩
           obtain⟨hb,hkv,hvv⟩:=hon.2 k e e' hke (by rw[←Array.toList_append];exact hk)
           have hlt1:x.b<w1.heap.size:=by rw[hh1];exact hlt
           have NZ:w1.heap[x.b]? = some (.mapIter (some y.b) since' seen' last'):=by rw[hh1];exact eu
           obtain⟨hm',hf'⟩:=hm1.JA (o' :=.ND (some r) since' (seen++[e.born]) clock) (ob :=.mapIter (some y.b) since' (seen'.push e'.born) clock) hr rfl rfl hσ hlt1
            ⟨⟨y,hy,rfl⟩,rfl,by rw[Array.toList_push,FH,hb],rfl,hsh⟩
           refine⟨_,List.mem_append_right _ (Dn hke),iF (σ':=σ) rfl (v' :=.tuple #[.bool true,e'.key,e'.val]) ?_ ?_ hm' (hf1.trans hf')⟩
           ·rw[e0]
            simp only[Sem.run_bind,jQ (P:=P) NZ (by intro a b c e;cases e),Result.andThen_ok]
            rfl
           ·exact .ig (cZ.cons (.refl rfl) (cZ.cons hkv (cZ.cons hvv (cZ.nil σ))))
      | _=>exact hor.elim
     ·exact absurd hL.symm hne
    ·exact absurd hL.symm hne
 ·exact absurd hL.symm hne
theorem xy:∀(l:List Nat),Kb l=l.getLast?
 | []=>rfl
 | [x]=>rfl
 | _::y::l=>by rw[Kb,xy (y::l),List.getLast?_cons_cons]
theorem Ab {b:Nat}:∀{es es':List MapEntry},nA σ es es'→∀{e:MapEntry},vG b es=some e→∃e',es'.find? (fun x=>x.born==b)=some e'∧VR σ e.key e'.key∧VR σ e.val e'.val:=by
 intro es
 induction es with
 | nil=>intro es' _ e h;cases h
 | cons a es ih =>
   intro es' h e he
   obtain⟨a',es',rfl⟩:=h.cons_inv
   obtain⟨h1,h2,h3⟩:=h.head
   simp only[vG]at he
   cases hb:Nat.beq a.born b with
   | true =>
     rw[hb]at he
     cases he
     have:a'.born=b:=by rw[←h1];exact Nat.eq_of_beq_eq_true hb
     exact⟨a',by simp[this],h2,h3⟩
   | false =>
     rw[hb]at he
     have:¬a'.born=b:=by rw[←h1];exact Nat.ne_of_beq_eq_false hb
     obtain⟨e',g1,g2⟩:=ih h.tail he
     exact⟨e',by simp[this,g1],g2⟩
theorem FY (h:MR E w0 σ m w) {it it' v:Value} (ha:IW it m=some v) (hx:VR σ it it'):∃v',(Instr.entry it').run P w =.ok v' w∧VR σ v v':=by
 unfold IW at ha
 split at ha
 ·rename_i i
  cases hx with
  | refl hs=>simp[AS.simple]at hs
  | ptr hσ =>
    rename_i x
    split at ha
    ·rename_i r since seen stepped hr
     split at ha
     ·rename_i stamp es clock hst hrm
      split at ha
      ·rename_i e hck hfe
       cases ha
       obtain rfl:=Nat.eq_of_beq_eq_true hck
       obtain⟨ob,eu,hor,hlt⟩:=h.iter hr rfl hσ
       cases ob with
       | mapIter r' since' seen' last' =>
         cases r' with
         | none=>exact hor.elim
         | some b =>
           obtain⟨⟨y,hy,rfl⟩,rfl,FH,rfl,hsh⟩:=hor
           obtain⟨es',TM,her⟩:=h.tH hrm hy
           have hg:=fG (P:=P) eu
           have hgm:=fG (P:=P) TM
           obtain⟨e',g1,g2,g3⟩:=Ab her hfe
           have hback:seen'.back? = some stamp:=by rw[←Array.getLast?_toList,FH,←xy,hst]
           have hfind:es'.find? (fun x=>x.born==stamp)=some e':=by rw[←Array.find?_toList];exact g1
           refine⟨.tuple #[e'.key,e'.val],?_,.ig (cZ.cons g2 (cZ.cons g3 (cZ.nil σ)))⟩
           simp only[Instr.entry,hsh,Nat.add_zero,Sem.run_bind,hg,Result.andThen_ok,hback,hgm,bne_self_eq_false,Bool.false_eq_true,if_false,hfind]
           rfl
       | _=>exact hor.elim
      ·cases ha
     ·cases ha
    ·cases ha
 ·cases ha
theorem Kv (name:String) (sig:TypeId):∀l:List Method,LB name sig l=l.any fun m=>m.name==name&&m.sig==sig
 | []=>rfl
 | m::l=>by
   have hb:Nat.beq m.sig sig=(m.sig==sig):=by cases e:Nat.beq m.sig sig with|true=>simp[Nat.eq_of_beq_eq_true e]|false=>simp[Nat.ne_of_beq_eq_false e]
   simp only[LB,Kv name sig l,List.any_cons,hb]
   cases m.name==name<;>cases m.sig==sig<;>rfl
theorem tu (got:Array Method):∀l:List (String×TypeId),zJ got.toList l=false↔(l.filter fun(name,sig) => !got.any fun m=>m.name==name&&m.sig==sig)=[]
 | []=>by simp[zJ]
 | (n,s)::l=>by
   have h1:LB n s got.toList=got.any fun m=>m.name==n&&m.sig==s:=by rw[Kv,Array.any_toList]
   simp only[zJ,h1,List.filter_cons]
   cases got.any fun m=>m.name==n&&m.sig==s with
   | true=>simpa using tu got l
   | false=>simp
theorem Dt {want:Array (String×TypeId)} {got:Array Method} (h:zJ got.toList want.toList=false):Instr.missingMethod want got=none:=by
 rw[tu]at h
 unfold Instr.missingMethod
 simp only[h]
 rfl
theorem least_some (p:String→Bool) (g:String→String) {M:List String} (h:M≠[]):∃s,(match M.partition p with|(u,e)=>Instr.least e <|> Instr.least (u.map g))=some s:=by
 rw[List.partition_eq_filter_filter]
 cases hE:M.filter (not∘p)with
 | cons x l=>exact⟨_,rfl⟩
 | nil =>
   cases hU:M.filter p with
   | cons x l=>exact⟨_,rfl⟩
   | nil =>
     exfalso
     cases M with
     | nil=>exact h rfl
     | cons y L =>
       rw[List.filter_cons]at hE hU
       cases hc:p y with
       | true=>simp[hc]at hU
       | false =>
         have hn:(not∘p) y=true:=by simp[hc]
         rw[if_pos hn]at hE
         cases hE
theorem Dr {want:Array (String×TypeId)} {got:Array Method} (h:zJ got.toList want.toList=true):∃s,Instr.missingMethod want got=some s:=by
 have hne:(want.toList.filter fun(name,sig) => !got.any fun m=>m.name==name&&m.sig==sig)≠[]:=fun e=>by rw[(tu got _).2 e]at h;cases h
 unfold Instr.missingMethod
 exact least_some _ _ (fun e=>hne (List.map_eq_nil_iff.1 e))
theorem BB (hE:jO E P) {asserted xt:TypeId} {x x' v:Value} {ok:Bool} (h:Eg E asserted x ok=some v) (hx:VR σ x x') (w:World) :
 ∃v',(Instr.typeAssert x' xt asserted ok).run P w =.ok v' w∧VR σ v v':=by
 unfold Eg at h
 split at h
 ·cases h
 ·rename_i ta NU
  obtain⟨hu,_⟩:=hE.types _ _ NU
  split at h
  ·rename_i want hd
   rw[hd]at hu
   obtain rfl:=hx.aB rfl
   refine qV hE NU h w (fun hok => ?_)
   subst hok
   simp[Instr.typeAssert,run_underlying hu]
  ·rename_i want t y hd
   rw[hd]at hu
   obtain⟨y',rfl,hy⟩:=hx.jo
   split at h
   ·cases h
   ·rename_i i hi
    rw[hE.prog]at hi
    split at h
    ·rename_i TS
     have hmm:=Dt TS
     refine⟨_,?_,yU h hx⟩
     cases ok<;>simp[Instr.typeAssert,run_underlying hu,typeInfo,hi,hmm]
    ·rename_i TS
     obtain⟨s,hmm⟩:=Dr TS
     refine qV hE NU h w (fun hok => ?_)
     subst hok
     simp[Instr.typeAssert,run_underlying hu,typeInfo,hi,hmm]
  ·rename_i hd
   obtain rfl:=hx.aB rfl
   refine qV hE NU h w (fun hok => ?_)
   subst hok
   generalize ta.desc=d at hu hd
   cases d<;>first|exact absurd rfl (hd _)|simp[Instr.typeAssert,run_underlying hu]
  ·rename_i t y hd
   obtain⟨y',rfl,hy⟩:=hx.jo
   split at h
   ·rename_i he
    obtain rfl:=Nat.eq_of_beq_eq_true he
    refine⟨_,?_,yU h hy⟩
    generalize ta.desc=d at hu hd
    cases d<;>first|exact absurd rfl (hd _)|(cases ok<;>simp[Instr.typeAssert,run_underlying hu])
   ·rename_i he
    have hne:=Nat.ne_of_beq_eq_false he
    refine qV hE NU h w (fun hok => ?_)
    subst hok
    generalize ta.desc=d at hu hd
    cases d<;>first|exact absurd rfl (hd _)|simp[Instr.typeAssert,run_underlying hu,hne]
  ·cases h
theorem Gh (hE:jO E P) (h:MR E w0 σ m w) {ρ ρ':Operand→Value} (hρ:∀x,VR σ (ρ x) (ρ' x)) (c:Call) (ty:TypeId) (hne:qH E ρ c m≠[]) :
 ∃out∈qH E ρ c m,gB E P w0 σ m w (do let d ←resolve ρ' c ty;invoke d.target d.args) out:=by
 generalize hL:qH E ρ c m=L at hne ⊢
 unfold qH at hL
 have hbi:∀{b:Builtin} {s:Sem Value},c.callee =.builtin b→(∀cs,builtin b c.argTypes ty cs (c.args.map ρ')=(do pure (.value (←s)))) →
  (do let d ←resolve ρ' c ty;invoke d.target d.args:Sem Next).run P w=(do pure (.value (←s)):Sem Next).run P w:=by
  intro b s hc hs
  simp only[resolve,hc,Sem.run_bind,Sem.run_pure,Result.andThen_ok,invoke]
  rw[hs]
  simp
 split at hL
 ·rename_i hc
  split at hL
  ·rename_i t x ht hx
   subst hL
   have ha:=YP hx
   refine fU hne (fun v hv => ?_)
   obtain⟨v',h1,h2⟩:=Lu (ty:=ty) hE h hv (hρ x)
   refine(bT rfl h1 h2).congr (hbi hc (fun cs => ?_))
   rw[ha,YP ht,ZH];rfl
  ·exact absurd hL.symm hne
 ·rename_i hc
  split at hL
  ·rename_i t u s x ht hx
   split at hL
   ·rename_i hb
    obtain rfl:=Nat.eq_of_beq_eq_true hb
    subst hL
    refine oG hne (fun o ho => ?_)
    refine(BC (ty:=ty) hE h ho (hρ s) (hρ x)).congr (hbi hc (fun cs => ?_))
    rw[Jk hx,Jk ht,NJ];rfl
   ·exact absurd hL.symm hne
  ·exact absurd hL.symm hne
 ·rename_i hc
  split at hL
  ·rename_i t u s x ht hx
   subst hL
   refine oG hne (fun o ho => ?_)
   refine(I4 (u:=u) (ty:=ty) hE h ho (hρ s) (hρ x)).congr (hbi hc (fun cs => ?_))
   rw[Jk hx,Jk ht,NJ];rfl
  ·exact absurd hL.symm hne
 ·rename_i hc
  split at hL
  ·rename_i t ts x k ht hx
   split at hL
   ·rename_i m' hd
    subst hL
    have hts:c.argTypes[0]? = some t:=by
     have:c.argTypes.toList[0]? = some t:=by rw[ht];rfl
     simpa using this
    obtain⟨w',h1,h2,h3⟩:=DY (ty:=ty) hE h hts hd (hρ x) (hρ k)
    refine⟨_,List.mem_singleton.2 rfl,(iF (σ':=σ) rfl h1 (VR.undef σ) h2 h3).congr (hbi hc (fun cs => ?_))⟩
    rw[Jk hx,NJ];rfl
   ·exact absurd hL.symm hne
  ·exact absurd hL.symm hne
 ·rename_i hc
  split at hL
  ·rename_i x y hx
   subst hL
   refine fU hne (fun v hv => ?_)
   obtain⟨h1,h2⟩:=uY (P:=P) (ts:=c.argTypes) (ty:=ty) hv (hρ x) (hρ y) w
   refine(bT rfl h1 (.refl h2)).congr (hbi hc (fun cs => ?_))
   rw[Jk hx,NJ];rfl
  ·exact absurd hL.symm hne
 ·rename_i hc
  split at hL
  ·rename_i x y hx
   subst hL
   refine fU hne (fun v hv => ?_)
   obtain⟨h1,h2⟩:=uY (P:=P) (ts:=c.argTypes) (ty:=ty) hv (hρ x) (hρ y) w
   refine(bT rfl h1 (.refl h2)).congr (hbi hc (fun cs => ?_))
   rw[Jk hx,NJ];rfl
  ·exact absurd hL.symm hne
 ·rename_i f hc
  split at hL
  ·rename_i g first cap hf
   split at hL
   ·rename_i fn hfn
    subst hL
    refine⟨_,List.mem_singleton.2 rfl,?_⟩
    obtain⟨hP,hname,body,hbody⟩:=hE.funcs g fn hfn
    have hv:=hρ f
    rw[hf]at hv
    obtain⟨first',cap',hv',nL,hcap⟩:=hv.kr
    refine⟨first'++c.args.map ρ'++cap',?_,?_⟩
    ·have hb:¬fn.body=none:=by rw[hbody];simp
     have hnm:¬fn.name = "runtime.NumGoroutine" := by simpa using hname
     simp[resolve,hc,hv',Deferred.ofValue,invoke,callFunc,hP,hnm,hb]
    ·simp only[Array.toList_append,Array.toList_map]
     exact(nL.append (cZ.map hρ _)).append hcap
   ·rename_i hfn
    split at hL
    ·rename_i x hx
     subst hL
     refine oG hne (fun out ho => ?_)
     obtain⟨fn,hP,hname,hbody,hnx,hfind⟩:=hE.exts g x hx
     have hv:=hρ f
     rw[hf]at hv
     obtain⟨first',cap',hv',nL,hcap⟩:=hv.kr
     refine(IM (P:=P) (args':=first'++c.args.map ρ'++cap') h ho ?_).congr ?_
     ·simp only[Array.toList_append,Array.toList_map]
      exact(nL.append (cZ.map hρ _)).append hcap
     ·have hnm:¬fn.name = "runtime.NumGoroutine" := by simpa using hname
      simp[resolve,hc,hv',Deferred.ofValue,invoke,callFunc,hP,hnm,hbody,hnx,hfind]
    ·exact absurd hL.symm hne
  ·rename_i name first cap hf
   split at hL
   ·rename_i t v r hfr
    split at hL
    ·rename_i g u hg
     split at hL
     ·rename_i fn hfn
      subst hL
      refine⟨_,List.mem_singleton.2 rfl,?_⟩
      obtain⟨hP,hname,body,hbody⟩:=hE.funcs g fn hfn
      have hv:=hρ f
      rw[hf]at hv
      obtain⟨first',cap',hv',nL,hcap⟩:=hv.kr
      rw[hfr]at nL
      obtain⟨fl⟩:=first'
      match fl,nL with
      | [],nL=>exact absurd nL.1 (by simp)
      | x'::r',nL =>
      obtain⟨v',rfl,hvv⟩:=nL.head.jo
      obtain⟨u',hm,ZO⟩:=rX (w:=w) hE hg hvv (P.types.size+99)
      refine⟨#[u']++(r'.toArray++c.args.map ρ'),?_,?_⟩
      ·have hb:¬fn.body=none:=by rw[hbody];simp
       have hnm:¬fn.name = "runtime.NumGoroutine" := by simpa using hname
       have hz:((Value.iface t v'::r').toArray++c.args.map ρ')[0]? = some (.iface t v'):=by rw[Array.getElem?_append_left (by simp only[List.size_toArray,List.length_cons];omega)];rfl
       have hex:((Value.iface t v'::r').toArray++c.args.map ρ').extract 1 ((Value.iface t v'::r').toArray++c.args.map ρ').size=r'.toArray++c.args.map ρ':=by
        apply Array.ext'
        rw[Array.toList_extract]
        simp only[Array.toList_append,Array.toList_map,List.cons_append,List.extract,List.drop_succ_cons,List.drop_zero,Array.size_append,List.size_toArray,List.length_cons,Array.size_map]
        exact List.take_of_length_le (by simp only[List.length_append,List.length_map,Array.length_toList];omega)
       have e1:P.types.size+Made.depth=P.types.size+99+1:=rfl
       have hr':resolve ρ' c ty=pure { target :=.fn (.method name) cap',args:=(Value.iface t v'::r').toArray++c.args.map ρ' }:=by
        simp only[resolve,hc];rw[hv'];rfl
       have hi:invoke (.fn (.method name) cap') ((Value.iface t v'::r').toArray++c.args.map ρ')=callMethod (.iface t v') name (r'.toArray++c.args.map ρ'):=by
        unfold invoke
        simp only[hz]
        rw[hex]
       rw[hr']
       simp only[Sem.run_bind,Sem.run_pure,Result.andThen_ok]
       rw[hi]
       simp[callMethod,e1,hm,callFunc,hP,hnm,hb]
      ·simp only[Array.toList_append,Array.toList_map]
       exact(cZ.cons ZO (cZ.nil σ)).append (nL.tail.append (cZ.map hρ _))
     ·exact absurd hL.symm hne
    ·exact absurd hL.symm hne
   ·exact absurd hL.symm hne
  ·rename_i i hf
   subst hL
   refine⟨_,List.mem_singleton.2 rfl,?_⟩
   have hv:=hρ f
   rw[hf]at hv
   obtain⟨x,hx,hv'⟩:=hv.Js
   refine⟨c.args.map ρ',x,hx,?_,by rw[Array.toList_map];exact cZ.map hρ _⟩
   simp[resolve,hc,hv',Deferred.ofValue,invoke]
  ·exact absurd hL.symm hne
 ·rename_i r name hc
  split at hL
  ·rename_i t v hr
   split at hL
   ·rename_i g u hg
    split at hL
    ·rename_i fn hfn
     subst hL
     refine⟨_,List.mem_singleton.2 rfl,?_⟩
     obtain⟨hP,hname,body,hbody⟩:=hE.funcs g fn hfn
     have hv:=hρ r
     rw[hr]at hv
     obtain⟨v',hv',hvv⟩:=hv.jo
     obtain⟨u',hm,ZO⟩:=rX (w:=w) hE hg hvv (P.types.size+99)
     refine⟨#[u']++c.args.map ρ',?_,?_⟩
     ·have hb:¬fn.body=none:=by rw[hbody];simp
      have hnm:¬fn.name = "runtime.NumGoroutine" := by simpa using hname
      have hex:(#[Value.iface t v']++c.args.map ρ').extract 1 (#[Value.iface t v']++c.args.map ρ').size=c.args.map ρ':=by
       apply Array.ext'
       simp[List.extract]
       exact List.take_of_length_le (by simp)
      have hz:(#[Value.iface t v']++c.args.map ρ')[0]? = some (.iface t v'):=by rw[Array.getElem?_append_left (by simp)];rfl
      have e1:P.types.size+Made.depth=P.types.size+99+1:=rfl
      have hr':resolve ρ' c ty=pure { target :=.fn (.method name) #[],args :=#[ρ' r]++c.args.map ρ' }:=by simp only[resolve,hc]
      have hi:invoke (.fn (.method name) #[]) (#[Value.iface t v']++c.args.map ρ')=callMethod (.iface t v') name (c.args.map ρ'):=by
       unfold invoke
       simp only[hz]
       rw[hex]
      rw[hr',hv']
      simp only[Sem.run_bind,Sem.run_pure,Result.andThen_ok]
      rw[hi]
      simp[callMethod,e1,hm,callFunc,hP,hnm,hb]
     ·simp only[Array.toList_append,Array.toList_map]
      exact(cZ.cons ZO (cZ.nil σ)).append (cZ.map hρ _)
    ·exact absurd hL.symm hne
   ·exact absurd hL.symm hne
  ·exact absurd hL.symm hne
 ·exact absurd hL.symm hne
theorem qA (hE:jO E P) (h:MR E w0 σ m w) {ρ ρ':Operand→Value} (hρ:∀x,VR σ (ρ x) (ρ' x)) (o:Oper) (hne:kC E ρ o m≠[]):∃out∈kC E ρ o m,gB E P w0 σ m w (execOp ρ' o) out:=by
 generalize hL:kC E ρ o m=L at hne ⊢
 unfold kC at hL
 have one:∀{out:Out},L=[out]→gB E P w0 σ m w (execOp ρ' o) out→∃out∈L,gB E P w0 σ m w (execOp ρ' o) out:=fun h1 h2=>⟨_,by rw[h1];simp,h2⟩
 split at hL
 ·rename_i x ho
  exact one hL.symm ⟨.value (ρ' x),ρ' x,by simp[execOp,ho],rfl,hρ x⟩
 ·rename_i x ho
  exact one hL.symm ⟨.value (ρ' x),ρ' x,by simp[execOp,ho],rfl,hρ x⟩
 ·rename_i c a b ho
  split at hL
  ·rename_i t hc
   have hv:=hρ c
   rw[hc]at hv
   have hc':=hv.aB rfl
   refine one hL.symm ⟨.value (if t then ρ' a else ρ' b),_,by simp[execOp,ho,hc',asBool],rfl,?_⟩
   cases t
   ·exact hρ b
   ·exact hρ a
  ·rename_i hc
   have hv:=hρ c
   rw[hc]at hv
   generalize Km:ρ' c=vc at hv
   cases hv with
   | refl hs=>simp[AS.simple]at hs
   | lG t =>
     cases t with
     | true=>exact⟨.val (ρ a),by rw[←hL];simp,.value (ρ' a),_,by simp[execOp,ho,Km,asBool],rfl,hρ a⟩
     | false=>exact⟨.val (ρ b),by rw[←hL];simp,.value (ρ' b),_,by simp[execOp,ho,Km,asBool],rfl,hρ b⟩
  ·exact absurd hL.symm hne
 ·rename_i t ho
  split at hL
  ·rename_i ti hti
   obtain⟨hu,i,z,hi,hsz,hby,hz,hzc,hzl,hzs,_⟩:=hE.types t ti hti
   have hor:=OR.newRow (w:=w) (e:=t) hti (cZ.simple (σ:=σ) hzs)
   have hza:ti.zero.toArray=z.cells:=by rw[←hzc]
   rw[hza]at hor
   exact one hL.symm ⟨_,_,_,by simp[execOp,ho,Instr.alloc,rP hi hz,newVar,Go.newRow],rfl,rfl,hor,fun σ' id hx => .ptr hx⟩
  ·exact absurd hL.symm hne
 ·rename_i t x ho
  split at hL
  ·rename_i ti hti hb
   have hnb:ρ x≠bad:=by intro e;rw[e]at hb;simp[vk,bad]at hb
   have hor:=OR.newRow (w:=w) (e:=t) hti ((hρ x).cells hnb)
   have hza:(ρ' x).cells.toList.toArray=(ρ' x).cells:=by simp
   rw[hza]at hor
   exact one hL.symm ⟨_,_,_,by simp[execOp,ho,Instr.box,newVar,Go.newRow],rfl,rfl,hor,fun σ' id hx => .ptr hx⟩
  ·exact absurd hL.symm hne
 ·rename_i t parts ho
  subst hL
  refine fU hne (fun v hv => ?_)
  obtain⟨v',h1,h2⟩:=Gl hE hv (KM.map hρ parts) w
  exact(bT rfl h1 h2).congr (by simp[execOp,ho])
 ·rename_i t len parts ho
  subst hL
  refine oG hne (fun v hv => ?_)
  exact(wQ hE hv (KM.map hρ parts)).congr (by simp[execOp,ho])
 ·rename_i t a ho
  split at hL
  ·rename_i ad ha
   subst hL
   refine fU hne (fun v hv => ?_)
   obtain⟨v',h1,h2⟩:=vg hE h hv (ha▸hρ a)
   exact(bT rfl h1 h2).congr (by simp[execOp,ho])
  ·exact absurd hL.symm hne
 ·rename_i t a x ho
  split at hL
  ·rename_i m' hs
   obtain⟨w',h1,h2,h3⟩:=EG hE h hs (hρ a) (hρ x)
   exact one hL.symm ⟨.skip,und,w',σ,by simp[execOp,ho,h1],rfl,VR.undef σ,h2,h3⟩
  ·exact absurd hL.symm hne
 ·rename_i x ho
  have hv:=hρ x
  split at hL
  ·rename_i a hx
   rw[hx]at hv
   generalize Km:ρ' x=vc at hv
   refine one hL.symm ⟨.value vc,vc,?_,rfl,hv⟩
   cases hv with
   | refl hs=>simp[AS.simple]at hs
   | ptr hy=>simp[execOp,ho,Km]
  ·rename_i g a b hx
   rw[hx]at hv
   obtain⟨a',b',Km,_,_⟩:=hv.kr
   refine one hL.symm ⟨.value (ρ' x),ρ' x,?_,rfl,hv⟩
   simp[execOp,ho,Km]
  ·rename_i name a b hx
   rw[hx]at hv
   split at hL
   ·rename_i t v r hfr
    split at hL
    ·rename_i q hg
     obtain⟨first',cap',Km,nL,_⟩:=hv.kr
     rw[hfr]at nL
     obtain⟨fl⟩:=first'
     match fl,nL with
     | [],nL=>exact absurd nL.1 (by simp)
     | x'::r',nL =>
     obtain⟨v',rfl,hvv⟩:=nL.head.jo
     have ha:=Bj (w:=w) hE hg hvv (P.types.size+99)
     have e1:P.types.size+Made.depth=P.types.size+99+1:=rfl
     refine one hL.symm ⟨.value (ρ' x),ρ' x,?_,rfl,hv⟩
     simp[execOp,ho,Km,e1,ha]
    ·exact absurd hL.symm hne
   ·exact absurd hL.symm hne
  ·rename_i t v hx
   rw[hx]at hv
   obtain⟨v',Km,_⟩:=hv.jo
   refine one hL.symm ⟨.value (ρ' x),ρ' x,?_,rfl,hv⟩
   simp[execOp,ho,Km]
  ·rename_i i hx
   rw[hx]at hv
   obtain⟨y,_,Km⟩:=hv.Js
   refine one hL.symm ⟨.value (ρ' x),ρ' x,?_,rfl,hv⟩
   simp[execOp,ho,Km]
  ·exact absurd hL.symm hne
 ·rename_i op t x y yt ho
  subst hL
  refine fU hne (fun v hv => ?_)
  obtain⟨v',h1,h2⟩:=vO (P:=P) (ox:=x) (oy:=y) hE hv (hρ x) (hρ y) w
  exact(bT rfl h1 h2).congr (by simp[execOp,ho])
 ·rename_i op t x ho
  have hv:=hρ x
  split at hL
  ·rename_i b hx
   rw[hx]at hv
   have hc':=hv.aB rfl
   exact one hL.symm (bT (s0:=Op.unary .not (ρ' x)) (by simp[execOp,ho]) (by rw[hc'];rfl) (.refl rfl))
  ·rename_i hx
   rw[hx]at hv
   generalize Km:ρ' x=vc at hv
   cases hv with
   | refl hs=>simp[AS.simple]at hs
   | lG b=>exact one hL.symm (bT (s0:=Op.unary .not (ρ' x)) (by simp[execOp,ho]) (by rw[Km];rfl) (.lG _))
  ·rename_i k n hx
   rw[hx]at hv
   have hc':=hv.aB rfl
   exact one hL.symm (bT (s0:=Op.unary .neg (ρ' x)) (by simp[execOp,ho]) (by rw[hc'];rfl) (.refl rfl))
  ·rename_i k n hx
   rw[hx]at hv
   have hc':=hv.aB rfl
   subst hL
   refine fU hne (fun v hv => ?_)
   simp only[zQ,Option.some.injEq]at hv
   subst hv
   exact bT (s0:=Op.unary .xor (ρ' x)) (by simp[execOp,ho]) (by rw[hc'];rfl) (.refl rfl)
  ·exact absurd hL.symm hne
 ·rename_i src dst x ho
  subst hL
  refine oG hne (fun v hv => ?_)
  exact(su hE h hv (hρ x)).congr (by simp[execOp,ho])
 ·rename_i t x ho
  split at hL
  ·rename_i ti hti
   obtain⟨hu,_⟩:=hE.types t ti hti
   split at hL
   ·rename_i hif
    refine one hL.symm (bT (s0:=Instr.makeInterface t (ρ' x)) (by simp[execOp,ho]) (v' :=.iface t (ρ' x)) ?_ (.iface (hρ x)))
    simp only[Instr.makeInterface,Sem.run_bind,run_underlying hu,Result.andThen_ok]
    cases hd:ti.desc<;>first|(rw[hd]at hif;cases hif;done)|rfl
   ·exact absurd hL.symm hne
  ·exact absurd hL.symm hne
 ·rename_i fn first captured ho
  refine one hL.symm (bT (s0:=Instr.makeFunc fn (first.map ρ') (captured.map ρ')) (by simp[execOp,ho]) rfl ?_)
  have h1:=cZ.map hρ first.toList
  have h2:=cZ.map hρ captured.toList
  rw[←Array.toList_map,←Array.toList_map]at h1 h2
  exact .func h1.vP h1.yS h2.vP h2.yS
 ·rename_i t ho
  exact one hL.symm ⟨_,.map #[] 0,⟨w.heap.size,0,0,0,.nilFunc⟩,by simp[execOp,ho,Instr.makeMap],rfl,rfl,⟨rfl,rfl,fun i a b ha=>by simp at ha⟩,fun σ' id hx => .map hx⟩
 ·rename_i t l c ho
  subst hL
  refine oG hne (fun v hv => ?_)
  exact(xS hE hv (hρ l) (hρ c)).congr (by simp[execOp,ho])
 ·rename_i t x lo hi mx ho
  subst hL
  obtain⟨out,h1,h2⟩:=CQ hE h hne (hρ x) (Mx.map hρ lo) (Mx.map hρ hi) (Mx.map hρ mx)
  exact⟨out,h1,h2.congr (by simp[execOp,ho])⟩
 ·rename_i t x f ho
  subst hL
  refine fU hne (fun v hv => ?_)
  obtain⟨v',h1,h2⟩:=xV (P:=P) hE hv (hρ x) w
  exact(bT rfl h1 h2).congr (by simp[execOp,ho])
 ·rename_i t x f ho
  subst hL
  refine fU hne (fun v hv => ?_)
  obtain⟨v',h1,h2⟩:=FU (P:=P) hE hv (hρ x) w
  exact(bT rfl h1 h2).congr (by simp[execOp,ho])
 ·rename_i t x i ho
  subst hL
  refine fU hne (fun v hv => ?_)
  obtain⟨v',h1,h2⟩:=xU (P:=P) hE hv (hρ x) (hρ i) w
  exact(bT rfl h1 h2).congr (by simp[execOp,ho])
 ·rename_i t x i ho
  subst hL
  refine fU hne (fun v hv => ?_)
  obtain⟨v',h1,h2⟩:=FC (P:=P) hE hv (hρ x) (hρ i) w
  exact(bT rfl h1 h2).congr (by simp[execOp,ho])
 ·rename_i t x k ok ho
  subst hL
  refine fU hne (fun v hv => ?_)
  obtain⟨v',h1,h2⟩:=Dw hE h hv (hρ x) (hρ k)
  exact(bT rfl h1 h2).congr (by simp[execOp,ho])
 ·rename_i t x k v ho
  split at hL
  ·rename_i m' hs
   obtain⟨w',h1,h2,h3⟩:=pI hE h hs (hρ x) (hρ k) (hρ v)
   exact one hL.symm ⟨.skip,und,w',σ,by simp[execOp,ho,h1],rfl,VR.undef σ,h2,h3⟩
  ·exact absurd hL.symm hne
 ·rename_i t x k v ho
  split at hL
  ·rename_i m' hs
   obtain⟨w',h1,h2,h3⟩:=pI hE h hs (hρ x) (hρ k) (hρ v)
   exact one hL.symm ⟨.skip,und,w',σ,by simp[execOp,ho,h1],rfl,VR.undef σ,h2,h3⟩
  ·exact absurd hL.symm hne
 ·rename_i t i ho
  split at hL
  ·rename_i vs ht
   split at hL
   ·rename_i v hv
    have hr:=hρ t
    rw[ht]at hr
    obtain⟨vs',hvs,hl⟩:=hr.vW
    obtain⟨v',h1,h2⟩:=hl.getElem? hv
    have h1':vs'[i]? = some v':=by simpa using h1
    exact one hL.symm (bT (s0:=Instr.extract (ρ' t) i) (by simp[execOp,ho]) (by simp[hvs,Instr.extract,h1']) h2)
   ·exact absurd hL.symm hne
  ·exact absurd hL.symm hne
 ·rename_i t x ho
  subst hL
  refine oG hne (fun v hv => ?_)
  exact(EW hE h hv (hρ x)).congr (by simp[execOp,ho])
 ·rename_i it isString ho
  subst hL
  obtain⟨out,h1,h2⟩:=Ih (ty:=o.type) h hne (hρ it)
  exact⟨out,h1,h2.congr (by simp[execOp,ho])⟩
 ·rename_i it ho
  subst hL
  refine fU hne (fun v hv => ?_)
  obtain⟨v',h1,h2⟩:=FY (P:=P) h hv (hρ it)
  exact(bT rfl h1 h2).congr (by simp[execOp,ho])
 ·rename_i x xt asserted ok ho
  subst hL
  refine fU hne (fun v hv => ?_)
  obtain⟨v',h1,h2⟩:=BB (P:=P) (xt:=xt) hE hv (hρ x) w
  exact(bT rfl h1 h2).congr (by simp[execOp,ho])
 ·rename_i c ho
  subst hL
  obtain⟨out,h1,h2⟩:=Gh hE h hρ c o.type hne
  exact⟨out,h1,h2.congr (by simp[execOp,ho])⟩
 ·exact absurd hL.symm hne
theorem lu:∀n,(∀a b,Vk n a b=true→a=b)∧(∀l r,uy n l r=true→l=r):=by
 intro n
 induction n with
 | zero=>exact⟨fun a b h=>by simp[Vk]at h,fun l r h=>by simp[uy]at h⟩
 | succ n ih =>
   obtain⟨ih1,ih2⟩:=ih
   have arr:∀{x y:Array Value},uy n x.toList y.toList=true→x=y:=fun h=>Array.ext' (ih2 _ _ h)
   constructor
   ·intro a b h
    unfold Vk at h
    split at h<;>first
     | (simp only[Bool.and_eq_true]at h
        simp_all [Nat.beq_eq]
        done)
     | (cases h;done)
     | skip
    ·rename_i p q;have:p=q:=by simpa using h
     rw[this]
    ·simp only[Bool.and_eq_true,beq_iff_eq]at h
     rw[jm h.1,h.2]
    ·rename_i p q
     have h1:p.data.toList=q.data.toList:=by simpa using h
     have:p=q:=ByteArray.ext (Array.ext' h1)
     rw[this]
    ·rw[Nat.eq_of_beq_eq_true h]
    ·simp only[Bool.and_eq_true]at h
     rw[Nat.eq_of_beq_eq_true h.1.1,arr h.1.2,arr h.2]
    ·simp only[Bool.and_eq_true]at h
     rw[Nat.eq_of_beq_eq_true h.1,ih1 _ _ h.2]
    ·rw[arr h]
    ·rw[arr h]
   ·intro l r h
    unfold uy at h
    split at h
    ·rfl
    ·simp only[Bool.and_eq_true]at h
     rw[ih1 _ _ h.1,ih2 _ _ h.2]
    ·cases h
theorem Bp {k:Nat×Nat×Nat} {args:List Value} {v:Value}:∀{l:List fE},nR k args l=some v→∃r∈l,r.key=k∧r.args=args∧r.res=v:=by
 intro l
 induction l with
 | nil=>intro h;cases h
 | cons r l ih =>
   intro h
   have rest:nR k args l=some v→∃r'∈r::l,r'.key=k∧r'.args=args∧r'.res=v:=fun h=>let⟨r',a,b⟩:=ih h; ⟨r',List.mem_cons_of_mem _ a,b⟩
   unfold nR at h
   split at h
   ·rename_i hk
    split at h
    ·rename_i ha
     cases h
     refine⟨r,List.mem_cons_self ..,?_,((lu 30).2 _ _ ha).symm,rfl⟩
     obtain⟨x,y,z⟩:=k
     obtain⟨⟨u,v,w⟩,_,_⟩:=r
     simp only[M7,Bool.and_eq_true,Nat.beq_eq]at hk
     simp only[hk.1.1,hk.1.2,hk.2]
    ·exact rest h
   ·exact rest h
theorem Ae (hE:jO E P) (h:MR E w0 σ m w) {ρ ρ':Operand→Value} (hρ:∀x,VR σ (ρ x) (ρ' x)) (o:Oper) (hne:jG E ρ o m≠[]):∃out∈jG E ρ o m,gB E P w0 σ m w (execOp ρ' o) out:=by
 unfold jG at hne ⊢
 split
 ·rename_i hk
  rw[hk]at hne
  exact qA hE h hρ o hne
 ·rename_i k hk
  rw[hk]at hne
  simp only at hne
  split
  ·rename_i v hv
   obtain⟨r,hr,hkey,hargs,hres⟩:=Bp hv
   obtain⟨v',hrun,yH⟩:=hE.rules r hr o (by rw[hkey];exact hk) σ ρ' (by rw[hargs];exact cZ.map hρ _) w0 w h.t0 h.below
   rw[hres]at yH
   exact⟨_,List.mem_cons_self ..,.value v',v',hrun,rfl,yH⟩
  ·rename_i hv
   rw[hv]at hne
   exact qA hE h hρ o hne
end Go.AS
