import Derived.Test.YtlaogoehmndcjaaGreatDoorZ27
set_option linter.unusedSectionVars false
set_option maxRecDepth 1000000
set_option maxHeartbeats 3200000
set_option linter.unusedVariables false
set_option linter.unusedSimpArgs false
namespace Go.Proofs.YtlaogoehmndcjaaGreatDoor.Sy
open Go RowKit Lib Base Pr Ba
variable [Zn]
section
variable {tb:Nat} {ga:Option Addr} {cap:Nat} {L:List An} {a:Nat}
theorem HY (l:Lg) (hwf:l.wf) (hw:o8 l) (b:List Nat) (hbl:b.length≤300) (ea:Option Addr) (ec:Nat) (w:World) (hD:kS w tb ea ec b) (h:iE w tb ga cap L a none) (ha:a≤L.length) :
 Calls Tryz.prog 60 #[.pointer (some ⟨tb,0,none⟩),l.val,.slice ea b.length ec] w fun e w'=>∃o:Ot,e =.returned (Mq o)∧GG w w' tb ga cap L a (fZ (aP l) b) o:=by
 by_cases hl:l.ok
 ·by_cases hbt:(b.length:Int)≤l.term/8
  ·exact Ll l hl hw b hbl hbt ea ec w hD h ha
  ·refine zy l b 4 (.inr rfl) ?_ (BX l b.length 4 fun w=>IY l hl b.length (by omega) (by omega) w) ea ec w h ha
   unfold fZ
   rw[if_neg (fun hh=>hh hl),if_pos (by show(b.length:Int)>l.term/8;omega)]
 ·refine zy l b 1 (.inl rfl) ?_ (BX l b.length 1 fun w=>OI l hwf hl b.length w) ea ec w h ha
  unfold fZ
  rw[if_pos (by exact hl)]
theorem I6 (l:Lg) (hwf:l.wf) (hw:o8 l) (b:List Nat) (hbl:b.length≤300) (aW:Bool) (ea:Option Addr) (ec:Nat) (w:World) (hD:kS w tb ea ec b) (h:iE w tb ga cap L a none) (ha:a≤L.length) :
 Calls Tryz.prog 61 #[.pointer (some ⟨tb,0,none⟩),l.val,.slice ea b.length ec,.bool aW] w fun e w'=>∃o:Ot,e =.returned (Mq o)∧GG w w' tb ga cap L a (eD (aP l) b aW) o:=by
 by_cases hl:l.ok
 ·by_cases Ku:(b.length:Int)≤l.aV
  ·exact LY l hl hw b hbl Ku aW ea ec w hD h ha
  ·exact F6 l hl b Ku aW ea ec w h ha
 ·exact LZ l hwf hl b aW ea ec w h ha
theorem BN.ZB {w wr wr':World} {B:List (Nat×Obj)} {T K:Pr An Ot} {a':Nat} {o:Ot} (h:BN w wr B tb ga cap L a T K a') (k:GG wr wr' tb ga cap L a' K o):GG w wr' tb ga cap L a T o∧∀p∈B,wr'.heap[p.1]? = some p.2:=by
 rcases k with⟨h1,a2,h2⟩|⟨h1,h2⟩
 ·exact⟨.inl ⟨h1,a2,(h.step h2).on⟩,(h.step h2).box⟩
 ·exact⟨.inr ⟨h1,h.off h2⟩,h.jg h2⟩
theorem op2 {w:World} {b:Nat} {t:TypeId} {v0 v1:Value} (h:w.heap[b]? = some (.cells #[v0,v1] t (0,0))):w.cell? ⟨b,0,none⟩=some v0∧w.cell? ⟨b,1,none⟩=some v1:=by
 refine⟨?_,?_⟩<;>simp[World.cell?,h]
theorem V6 (l:Lg) (hwf:l.wf) (hw:o8 l) (o:gz) (hbl:o.data.length≤300) (ea:Option Addr) (ec:Nat) (w:World) (hD:kS w tb ea ec o.data) (h:iE w tb ga cap L a none) (ha:a≤L.length) :
 Calls Tryz.prog 32 #[.pointer (some ⟨tb,0,none⟩),l.val,.agg #[.int .i64 o.kind,.slice ea o.data.length ec]] w fun e w'=>∃q:Ot,e =.returned (Mq q)∧GG w w' tb ga cap L a (iO (aP l) o) q:=by
 obtain⟨kd,b⟩:=o
 dsimp only at hbl hD ⊢
 have c60:=fun W (a':Nat) hD (h:iE W tb ga cap L a' none) (ha:a'≤L.length)=>HY l hwf hw b hbl ea ec W hD h ha
 have c61:=fun aW W (a':Nat) hD (h:iE W tb ga cap L a' none) (ha:a'≤L.length)=>I6 l hwf hw b hbl aW ea ec W hD h ha
 have hT:iO (aP l) ⟨kd,b⟩=if kd=0 then fZ (aP l) b else if kd=1∨kd=2 then eD (aP l) b (kd=1)else .done ⟨bW,false,0,1⟩:=rfl
 obtain⟨T,Za⟩:∃T,iO (aP l) ⟨kd,b⟩=T:=⟨_,rfl⟩
 rw[Za]at hT ⊢
 obtain⟨X,hX⟩:∃X,w.heap.size=X:=⟨_,rfl⟩
 have Qy:tb<X:=hX▸h.lt
 obtain⟨V1,hV1⟩:∃V,w.alloc (.cells (gm l) 23)=V:=⟨_,rfl⟩
 have s1:V1.heap.size=X+1:=by rw[←hV1,←hX];simp
 obtain⟨V2,hV2⟩:∃V,V1.alloc (.cells #[.int .i64 kd,.slice ea b.length ec] 67)=V:=⟨_,rfl⟩
 have s2:V2.heap.size=X+2:=by rw[←hV2];simp[s1]
 obtain⟨V3,IG⟩:∃V,V2.alloc (.cells #[.int .i64 0,.int .i32 0,.int .i64 0,.int .i64 0] 39)=V:=⟨_,rfl⟩
 have HX:=aC (IG▸(hV2▸(hV1▸(BN.fresh h ha T).new hX (.cells (gm l) 23)).new s1 (.cells #[.int .i64 kd,.slice ea b.length ec] 67)).new s2 (.cells #[.int .i64 0,.int .i32 0,.int .i64 0,.int .i64 0] 39))
 obtain⟨n0,n1,n2,n3,n4,n5,n6⟩:=iT HX.out.tail.tail.b0
 obtain⟨o0,o1⟩:=op2 HX.out.tail.b0
 have HB:=aC (hD.only HX.out.on.ta.2)
 have RZ:=aC h
 unfold Lg.val at c60 c61 ⊢
 clear h ha hw hwf hD Za
 by_cases h0:kd=0
 ·subst h0
  rw[if_pos rfl]at hT
  replace HX:=aC (HX.out.as hT)
  clear hT
  go_enter Tryz.func32,Tryz.ntmps32
  go_wp2_with (fail)
  refine(c60 _ _ HB.out HX.out.mg HX.out.on.le).mono ?_
  rintro e V ⟨⟨⟨sp,st,so,sz⟩,has,pos,ev⟩,rfl,hO⟩
  unfold Mq
  dsimp only
  obtain⟨hO2,hbx⟩:=HX.out.ZB hO
  have q1:=hbx (X+2,.cells #[.int .i64 0,.int .i32 0,.int .i64 0,.int .i64 0] 39) (List.mem_cons_self ..)
  obtain⟨z0,z1,z2,z3⟩:=dI q1
  obtain⟨r0,r1,r2,r3⟩:=eY q1
  have HO:=aC (aR hO2 q1)
  clear hO hO2 hbx q1
  go_wp2
  obtain⟨Z,hZ⟩:∃W,(((V.setCell ⟨X+2,0,none⟩ (.int .i64 sp)).setCell ⟨X+2,1,none⟩ (.int .i32 st)).setCell ⟨X+2,2,none⟩ (.int .i64 so)).setCell ⟨X+2,3,none⟩ (.int .i64 sz)=W:=⟨_,rfl⟩
  have h4:=dF HO.out.2 (.int .i64 sp) (.int .i32 st) (.int .i64 so) (.int .i64 sz)
  rw[hZ]at h4 ⊢
  obtain⟨k0,k1,k2,k3⟩:=dI h4.1
  refine bodyPost_ret (v :=.tuple #[.agg #[.int .i64 sp,.int .i32 st,.int .i64 so,.int .i64 sz],.bool has,.int .i64 pos,.int .i64 ev]) (by simp[results,Tryz.results32,go_sem,k0,k1,k2,k3]) rfl ⟨⟨⟨sp,st,so,sz⟩,has,pos,ev⟩,rfl,HO.out.1.put RZ.out HO.out.2 h4.2 (by omega) (by omega)⟩
 ·by_cases h1:kd=1
  ·subst h1
   rw[if_neg (by decide),if_pos (.inl rfl),decide_eq_true rfl]at hT
   replace HX:=aC (HX.out.as hT)
   clear hT
   go_enter Tryz.func32,Tryz.ntmps32
   go_wp2_with (fail)
   refine(c61 _ _ _ HB.out HX.out.mg HX.out.on.le).mono ?_
   rintro e V ⟨⟨⟨sp,st,so,sz⟩,has,pos,ev⟩,rfl,hO⟩
   unfold Mq
   dsimp only
   obtain⟨hO2,hbx⟩:=HX.out.ZB hO
   have q1:=hbx (X+2,.cells #[.int .i64 0,.int .i32 0,.int .i64 0,.int .i64 0] 39) (List.mem_cons_self ..)
   obtain⟨z0,z1,z2,z3⟩:=dI q1
   obtain⟨r0,r1,r2,r3⟩:=eY q1
   have HO:=aC (aR hO2 q1)
   clear hO hO2 hbx q1
   go_wp2
   obtain⟨Z,hZ⟩:∃W,(((V.setCell ⟨X+2,0,none⟩ (.int .i64 sp)).setCell ⟨X+2,1,none⟩ (.int .i32 st)).setCell ⟨X+2,2,none⟩ (.int .i64 so)).setCell ⟨X+2,3,none⟩ (.int .i64 sz)=W:=⟨_,rfl⟩
   have h4:=dF HO.out.2 (.int .i64 sp) (.int .i32 st) (.int .i64 so) (.int .i64 sz)
   rw[hZ]at h4 ⊢
   obtain⟨k0,k1,k2,k3⟩:=dI h4.1
   refine bodyPost_ret (v :=.tuple #[.agg #[.int .i64 sp,.int .i32 st,.int .i64 so,.int .i64 sz],.bool has,.int .i64 pos,.int .i64 ev]) (by simp[results,Tryz.results32,go_sem,k0,k1,k2,k3]) rfl ⟨⟨⟨sp,st,so,sz⟩,has,pos,ev⟩,rfl,HO.out.1.put RZ.out HO.out.2 h4.2 (by omega) (by omega)⟩
  ·by_cases h2:kd=2
   ·subst h2
    rw[if_neg (by decide),if_pos (.inr rfl),decide_eq_false (by decide)]at hT
    replace HX:=aC (HX.out.as hT)
    clear hT
    go_enter Tryz.func32,Tryz.ntmps32
    go_wp2_with (fail)
    refine(c61 _ _ _ HB.out HX.out.mg HX.out.on.le).mono ?_
    rintro e V ⟨⟨⟨sp,st,so,sz⟩,has,pos,ev⟩,rfl,hO⟩
    unfold Mq
    dsimp only
    obtain⟨hO2,hbx⟩:=HX.out.ZB hO
    have q1:=hbx (X+2,.cells #[.int .i64 0,.int .i32 0,.int .i64 0,.int .i64 0] 39) (List.mem_cons_self ..)
    obtain⟨z0,z1,z2,z3⟩:=dI q1
    obtain⟨r0,r1,r2,r3⟩:=eY q1
    have HO:=aC (aR hO2 q1)
    clear hO hO2 hbx q1
    go_wp2
    obtain⟨Z,hZ⟩:∃W,(((V.setCell ⟨X+2,0,none⟩ (.int .i64 sp)).setCell ⟨X+2,1,none⟩ (.int .i32 st)).setCell ⟨X+2,2,none⟩ (.int .i64 so)).setCell ⟨X+2,3,none⟩ (.int .i64 sz)=W:=⟨_,rfl⟩
    have h4:=dF HO.out.2 (.int .i64 sp) (.int .i32 st) (.int .i64 so) (.int .i64 sz)
    rw[hZ]at h4 ⊢
    obtain⟨k0,k1,k2,k3⟩:=dI h4.1
    refine bodyPost_ret (v :=.tuple #[.agg #[.int .i64 sp,.int .i32 st,.int .i64 so,.int .i64 sz],.bool has,.int .i64 pos,.int .i64 ev]) (by simp[results,Tryz.results32,go_sem,k0,k1,k2,k3]) rfl ⟨⟨⟨sp,st,so,sz⟩,has,pos,ev⟩,rfl,HO.out.1.put RZ.out HO.out.2 h4.2 (by omega) (by omega)⟩
   ·have w0:(kd==0)=false:=by simp[h0]
    have w1:(kd==1)=false:=by simp[h1]
    have w2:(kd==2)=false:=by simp[h2]
    rw[if_neg h0,if_neg (by omega)]at hT
    replace HX:=aC (HX.out.as hT)
    clear hT
    obtain⟨z0,z1,z2,z3⟩:=dI HX.out.b0
    obtain⟨r0,r1,r2,r3⟩:=eY HX.out.b0
    go_enter Tryz.func32,Tryz.ntmps32
    go_wp2
    obtain⟨Z,hZ⟩:∃W,(((V3.setCell ⟨X+2,0,none⟩ (.int .i64 0)).setCell ⟨X+2,1,none⟩ (.int .i32 0)).setCell ⟨X+2,2,none⟩ (.int .i64 0)).setCell ⟨X+2,3,none⟩ (.int .i64 0)=W:=⟨_,rfl⟩
    have h4:=dF HX.out.b0 (.int .i64 0) (.int .i32 0) (.int .i64 0) (.int .i64 0)
    rw[hZ]at h4 ⊢
    obtain⟨k0,k1,k2,k3⟩:=dI h4.1
    refine bodyPost_ret (v :=.tuple #[.agg #[.int .i64 0,.int .i32 0,.int .i64 0,.int .i64 0],.bool false,.int .i64 0,.int .i64 1]) (by simp[results,Tryz.results32,go_sem,k0,k1,k2,k3]) rfl ⟨⟨bW,false,0,1⟩,rfl,.inl ⟨by show(1:Int)≠10;omega,a,HX.out.only h4.2 (by omega)⟩⟩
end
theorem uN {A O O':Type} {p:Pr A O} {f:O→O'} {g:O→Pr A O'}:∀{l:List A} {p:Pr A O} {o:O},p.run l =.done o→(p.bind f g).run l=(g o).run (p.left l)∧(p.bind f g).left l=(g o).left (p.left l)
 | [],.done o,o',h=>by cases h;exact⟨rfl,rfl⟩
 | [],.ask o c k,o',h=>by cases h
 | x::l,.done o,o',h=>by
   have e:o=o':=by rw[Pr.gL]at h;injection h
   subst e
   exact⟨rfl,rfl⟩
 | x::l,.ask o c k,o',h=>uN (p:=k x) (l:=l) h
theorem xe {A O O':Type} {f:O→O'} {g:O→Pr A O'}:∀{l:List A} {p:Pr A O} {o:O} {c:Acc} {k:A→Pr A O},p.run l =.ask o c k→(∃K,(p.bind f g).run l =.ask (f o) c K)∧(p.bind f g).left l=[]
 | [],.done o,o',c,k,h=>by cases h
 | [],.ask o c k,o',c',k',h=>by cases h;exact⟨⟨_,rfl⟩,rfl⟩
 | x::l,.done o,o',c,k,h=>by rw[Pr.gL]at h;cases h
 | x::l,.ask o c k,o',c',k',h=>xe (p:=k x) (l:=l) h
theorem Ho {A O:Type} {l:List A} {p:Pr A O} {o:O} (h:p.run l =.done o) (hn:∀o,p ≠ .done o):(p.left l).length<l.length:=by
 cases p with
 | done o'=>exact absurd rfl (hn o')
 | ask o' c k =>
   cases l with
   | nil=>cases h
   | cons x l =>
     have:=Pr.Ka l (k x)
     show((k x).left l).length<_
     simp;omega
section
variable {w w':World} {tb:Nat} {ga:Option Addr} {cap:Nat} {L:List An} {a a':Nat} {p:Pr An Ot} {o:Ot}
theorem On.bind (f:Ot→rD) (g:Ot→Pr An rD) (h:On w w' tb ga cap L a p (.done o) a'):On w w' tb ga cap L a (p.bind f g) (g o) a':=by
 have h1:p.run (L.drop a) =.done o:=h.go.1.trans (Pr.gL _ _)
 have h2:p.left (L.drop a)=L.drop a':=h.go.2
 obtain⟨e1,e2⟩:=uN (p:=p) (f:=f) (g:=g) h1
 rw[h2]at e1 e2
 exact⟨h.le,⟨e1,e2⟩,h.ta⟩
theorem Off.bind (f:Ot→rD) (g:Ot→Pr An rD) (h:Off w w' tb ga cap L a p o):Off w w' tb ga cap L a (p.bind f g) (f o):=by
 obtain⟨c,K,h1,h2,h3⟩:=h.ex
 obtain⟨⟨K',e1⟩,e2⟩:=xe (f:=f) (g:=g) h1
 exact⟨c,K',e1,e2,h3⟩
theorem On.more (h:On w w' tb ga cap L a p (.done o) a') (hn:∀o,p ≠ .done o):a<a':=by
 have h1:p.run (L.drop a) =.done o:=h.go.1.trans (Pr.gL _ _)
 have h3:=Ho h1 hn
 rw[show p.left (L.drop a)=L.drop a' from h.go.2]at h3
 simp at h3
 have:=h.le
 omega
end
theorem Hw (l:cO) (o:gz) {w:Ot} (h:iO l o =.done w):¬(w.e=5∨w.e=6):=by
 have hd:∀{a:Ot},(Pr.done a:Pr An Ot) =.done w→a=w:=fun h=>by injection h
 unfold iO at h
 split at h
 ·unfold fZ at h
  split at h
  ·rw[←hd h];decide
  ·split at h
   ·rw[←hd h];decide
   ·cases h
 ·split at h
  ·unfold eD at h
   split at h
   ·rw[←hd h];decide
   ·split at h
    ·rw[←hd h];decide
    ·cases h
  ·rw[←hd h];decide
def za (s:ng):List Value:=[.int .i64 s.pos,.int .i64 s.e,.int .i64 s.tries,.int .i64 s.s.part,.int .i32 s.s.term,.int .i64 s.s.off,.int .i64 s.s.size,.bool s.has]
theorem Qw:(Tryz.prog.info? 78).map (fun i=>(i.zero,i.size,i.bytes))=some (some (.agg #[.int .i64 0,.int .i64 0,.int .i64 0,.int .i64 0,.int .i32 0,.int .i64 0,.int .i64 0,.bool false]),8,64):=by kernel_rfl
theorem p9 {w w':World} {S:Nat} {e:TypeId} {size n:Nat} {v:Value} {xs:List Value} (h:w.ownsRow S e size v n xs) (hk:∀g,v.ownBlock=some g→w'.heap[g]? = w.heap[g]?):w'.ownsRow S e size v n xs:=by
 refine⟨h.1,?_⟩
 rcases h.2 with h1|⟨g,cap,cur,rfl,hb,hg,r⟩
 ·exact .inl h1
 ·exact .inr ⟨g,cap,cur,rfl,hb,(hk g rfl).trans hg,r⟩
theorem uP {w w':World} {S tb:Nat} {e:TypeId} {size n:Nat} {v:Value} {xs:List Value} (h:w.ownsRow S e size v n xs) (ho:Only tb w w') (hS:tb<S):w'.ownsRow S e size v n xs :=
 p9 h fun g hg=>by have:=h.lt g hg;exact ho.block g this.2 (by omega)
theorem BN.grow {O:Type} {w D w1:World} {B:List (Nat×Obj)} {tb:Nat} {ga:Option Addr} {cap:Nat} {L:List An} {a a':Nat} {T K:Pr An O} (h:BN w D B tb ga cap L a T K a') {ob:Option Nat} (hg:D.grownBy w1 ob) (eu:∀g,ob=some g→w.heap.size≤g∧∀p∈B,p.1≠g):BN w w1 B tb ga cap L a T K a':=by
 have h2:=h.on.ta.2
 have hlt:=h.vT.lt
 have hbig:Only tb w w1:=⟨hg.os.trans h2.os,hg.tape.trans h2.tape,hg.output.trans h2.output,Nat.le_trans h2.size hg.size,fun b hb hne=>(hg.block b (Nat.lt_of_lt_of_le hb h2.size) fun e=>by have:=(eu b e.symm).1;omega).trans (h2.block b hb hne)⟩
 refine⟨fun p hp => ?_,h.far,h.vT,h.on.le,h.on.go,⟨?_,h.vT.row.only hbig,h.vT.len⟩,hbig⟩
 ·have hb:=h.box p hp
  exact(hg.block p.1 (Array.getElem?_eq_some_iff.1 hb).1 fun e=>(eu p.1 e.symm).2 p hp rfl).trans hb
 ·have hk:=h.on.ta.1.bare
  exact⟨none,0,0,(hg.block tb (Array.getElem?_eq_some_iff.1 hk).1 fun e=>by have:=(eu tb e.symm).1;omega).trans hk,trivial⟩
def YT (w w':World) (tb:Nat) (ga:Option Addr) (cap:Nat) (L:List An) (T:Pr An rD) (o:rD):Prop:=(∃a',On w w' tb ga cap L 0 T (.done o) a')∨Off w w' tb ga cap L 0 T o
def OpD (w:World) (tb:Nat) (la:Option Addr) (j:Nat) (o:gz):Prop:=∃g go ba bc,la=some ⟨g,go,none⟩∧g<w.heap.size∧g≠tb∧w.cell? ⟨g,go+2*j,none⟩=some (.int .i64 o.kind)∧w.cell? ⟨g,go+2*j+1,none⟩=some (.slice ba o.data.length bc)∧kS w tb ba bc o.data∧o.data.length≤300
structure Ve (w wr:World) (X:Nat) (l:Lg) (tb:Nat) (ga:Option Addr) (cap:Nat) (L:List An) (T:Pr An rD) (acts:List gz) (i:Nat) (tq n:Int) (out:List ng) (rv:Value) (B:List (Nat×Obj)):Prop where
 row:wr.ownsRow (X+2) 78 8 rv out.length (out.flatMap za)
 len:out.length≤i
 st:∃a',BN w wr B tb ga cap L 0 T (fq (aP l) (tq.toNat+(acts.length-i)) (acts.drop i) tq n out) a'∧n≤1+(a':Int)
theorem yV {w W2 w1:World} {Y X:Nat} {y1 y2 y3 ob:Obj} {tb:Nat} {ga:Option Addr} {cap:Nat} {L:List An} {T:Pr An rD} {ln:cO} {acts:List gz} {f i a':Nat} {tq:Int} {out:List ng} {k:Option Nat} (h:BN w W2 [(Y,y1),(X+1,y2),(X,y3)] tb ga cap L 0 T (fq ln f (acts.drop (i+1)) tq 1 out) a') (hg:(W2.alloc ob).grownBy w1 k) (hk:∀g,k=some g→X+2≤g) (hX:w.heap.size=X) (hf:tq.toNat+(acts.length-i)=f+1) (hi:i<acts.length):BN w w1 [(X+1,y2),(X,y3)] tb ga cap L 0 T (fq ln (tq.toNat+(acts.length-(i+1))) (acts.drop (i+1)) tq 1 out) a':=by
 rw[show tq.toNat+(acts.length-(i+1))=f by omega]
 refine(h.tail.below ((Below.refl _ _).alloc (Nat.le_refl _) ob)).grow hg fun g e => ?_
 have:=hk g e
 refine⟨by omega,fun p hp => ?_⟩
 rcases List.mem_cons.1 hp with rfl|hp
 ·show X+1≠g;omega
 ·rcases List.mem_cons.1 hp with rfl|hp
  ·show X≠g;omega
  ·cases hp
theorem BJ {ln:cO} {acts:List gz} {o:gz} {f i:Nat} {tq n:Int} {out:List ng} (hd:acts.drop i=o::acts.drop (i+1)) (hf:tq.toNat+(acts.length-i)=f+1) (ht:tq>0):fq ln f (o::acts.drop (i+1)) (tq-1) (n+1) out=fq ln ((tq-1).toNat+(acts.length-i)) (acts.drop i) (tq-1) (n+1) out:=by
 rw[hd,show(tq-1).toNat+(acts.length-i)=f by omega]
section
variable {tb:Nat} {ga:Option Addr} {cap:Nat} {L:List An}
theorem R7 (l:Lg) (hwf:l.wf) (hw:o8 l) (acts:List gz) (la:Option Addr) (lc:Nat) (tries:Int) (ht : -9223372036854775808≤tries∧tries<9223372036854775808) (hlen:acts.length≤12) (w:World) (hops:∀j o,acts[j]? = some o→OpD w tb la j o) (h:iE w tb ga cap L 0 none) :
 Calls Tryz.prog 8 #[.pointer (some ⟨tb,0,none⟩),l.val,.slice la acts.length lc,.int .i64 tries] w fun e w'=>∃(v:Value) (o:rD),e =.returned (.tuple #[v,.agg #[.int .i64 o.s.part,.int .i32 o.s.term,.int .i64 o.s.off,.int .i64 o.s.size],.bool o.has])∧w'.ownsRow w.heap.size 78 8 v o.sent.length (o.sent.flatMap za)∧YT w w' tb ga cap L (fq (aP l) ((max tries 0).toNat+acts.length) acts (max tries 0) 1 []) o:=by
 obtain⟨i0,Ob,Qt,Qs,Qr⟩:=info_parts Qw
 have c32:=fun(o:gz) hbl ea ec W (a':Nat) hD (h:iE W tb ga cap L a' none) (ha:a'≤L.length)=>V6 l hwf hw o hbl ea ec W hD h ha
 obtain⟨t0,ht0⟩:∃t,max tries 0=t:=⟨_,rfl⟩
 rw[ht0]
 have acE:0≤t0∧t0<9223372036854775808:=by omega
 obtain⟨T,hT⟩:∃T,fq (aP l) (t0.toNat+acts.length) acts t0 1 []=T:=⟨_,rfl⟩
 rw[hT]
 have hL:=h.len
 obtain⟨X,hX⟩:∃X,w.heap.size=X:=⟨_,rfl⟩
 have Qy:tb<X:=hX▸h.lt
 obtain⟨V1,hV1⟩:∃V,w.alloc (.cells (gm l) 23)=V:=⟨_,rfl⟩
 have s1:V1.heap.size=X+1:=by rw[←hV1,←hX];simp
 obtain⟨V2,hV2⟩:∃V,V1.alloc (.cells #[.int .i64 0,.int .i32 0,.int .i64 0,.int .i64 0] 39)=V:=⟨_,rfl⟩
 have s2:V2.heap.size=X+2:=by rw[←hV2];simp[s1]
 have HX:=aC (hV2▸(hV1▸(BN.fresh h (Nat.zero_le _) T).new hX (.cells (gm l) 23)).new s1 (.cells #[.int .i64 0,.int .i32 0,.int .i64 0,.int .i64 0] 39))
 have HO:=aC hops
 have HT:=aC hT
 unfold Lg.val at c32 ⊢
 clear h hw hwf hT hops
 go_enter Tryz.func8,Tryz.ntmps8
 go_wp2_with (fail)
 go_loopw [3,11,21] (fun y3 YV y21 wr=>∃(i:Nat) (tr tq:Int) (out:List ng),y21 =.int .i64 (i:Int)∧i≤acts.length∧y3 =.int .i64 tr∧(tr=tq∨(tr≤0∧tq=0))∧(0≤tq∧tq≤t0) ∧ -9223372036854775808≤tr∧Hid (Ve w wr X l tb ga cap L T acts i tq 1 out YV [(X+1,.cells #[.int .i64 0,.int .i32 0,.int .i64 0,.int .i64 0] 39),(X,.cells (gm l) 23)])) (fun _ _ y _=>(1000-intOf y).toNat)
 case atStart =>
  refine⟨0,tries,t0,[],rfl,Nat.zero_le _,rfl,by omega,by omega,ht.1,aC ⟨World.ownsRow_nil _ _ _ _,Nat.zero_le _,0,?_,by omega⟩⟩
  have e:fq (aP l) (t0.toNat+(acts.length-0)) (acts.drop 0) t0 1 []=T:=by rw[←HT.out];rfl
  rw[e]
  exact HX.out
 case round =>
  obtain⟨i,tr,tq,out,rfl,hi,rfl,htr,Vm,LA,HS⟩:=hrel
  by_cases hlt:i<acts.length
  ·obtain⟨o,ho⟩:∃o,acts[i]? = some o:=⟨acts[i],List.getElem?_eq_getElem hlt⟩
   obtain⟨g,go,ba,bc,rfl,hg,hgt,g0,g1,hD,hdl⟩:=HO.out i o ho
   obtain⟨a1,hB1,hn1⟩:=HS.out.st
   obtain⟨kd,hkd⟩:∃k,o.kind=k:=⟨_,rfl⟩
   obtain⟨Y,hY⟩:∃Y,wr.heap.size=Y:=⟨_,rfl⟩
   have gk:wr.heap[g]? = w.heap[g]? := hB1.on.ta.2.block g hg hgt
   have g0':wr.cell? ⟨g,go+i*2,none⟩=some (.int .i64 kd):=by rw[Nat.mul_comm i 2,←hkd];exact BA gk g0
   have g1':wr.cell? ⟨g,go+i*2+1,none⟩=some (.slice ba o.data.length bc):=by rw[Nat.mul_comm i 2];exact BA gk g1
   obtain⟨W1,hW1⟩:∃W1,wr.alloc (.cells #[.int .i64 kd,.slice ba o.data.length bc] 67)=W1:=⟨_,rfl⟩
   have H1:=aC (hW1▸hB1.new hY (.cells #[.int .i64 kd,.slice ba o.data.length bc] 67))
   have Vn:X+2≤Y:=by have:=(Array.getElem?_eq_some_iff.1 (hB1.box _ (List.mem_cons_self ..))).1;rw[hY]at this;exact this
   have HR1:=aC (show W1.ownsRow (X+2) 78 8 u11 out.length (out.flatMap za)from hW1▸HS.out.row.alloc _)
   have HL0:=aC HS.out.len
   have w1:((i:Int)==64)=false:=by simp;omega
   have hdrop:=aC (show acts.drop i=o::acts.drop (i+1)from by rw[List.drop_eq_getElem_cons hlt];congr 1;rw[List.getElem?_eq_getElem hlt]at ho;injection ho)
   have q1:IntKind.i64.wrap ((i:Int)+1)=(i:Int)+1:=by rw[IntKind.wrap_i64];omega
   have q2:(i:Int)<(acts.length:Int):=by omega
   have q3:(0:Int)≤(i:Int):=by omega
   have q4:IntKind.i64.wrap (i:Int)=(i:Int):=by rw[IntKind.wrap_i64];omega
   have HG:=aC (aR hn1 (aR hg (aR hgt hD)))
   clear hB1 gk g0 g1 HS hn1 hD
   go_wp2_with (fail)
   go_loopw [3,11,14] (fun y3 YV y14 wr2=>∃(tr tq n:Int),y3 =.int .i64 tr∧y14 =.int .i64 n∧(tr=tq∨(tr≤0∧tq=0))∧(0≤tq∧tq≤t0) ∧ -9223372036854775808≤tr∧1≤n∧Hid (Ve w wr2 X l tb ga cap L T acts i tq n out YV [(Y,.cells #[.int .i64 kd,.slice ba o.data.length bc] 67),(X+1,.cells #[.int .i64 0,.int .i32 0,.int .i64 0,.int .i64 0] 39),(X,.cells (gm l) 23)])) (fun y _ _ _=>(intOf y).toNat)
   case atStart=>exact⟨tr,tq,1,rfl,rfl,htr,Vm,LA,by omega,aC ⟨HR1.out,HL0.out,a1,H1.out,HG.out.1⟩⟩
   case round =>
    clear htr Vm LA H1 HR1 HL0
    obtain⟨tr,tq,n,rfl,rfl,htr,Vm,LA,hn,HS⟩:=hrel
    obtain⟨a2,hB2,hn2⟩:=HS.out.st
    obtain⟨f,hf⟩:∃f,tq.toNat+(acts.length-i)=f+1:=⟨tq.toNat+(acts.length-i)-1,by omega⟩
    have hwt:fq (aP l) (tq.toNat+(acts.length-i)) (acts.drop i) tq n out=(iO (aP l) o).bind (fun w=>⟨out,w.s,w.has⟩) (fun w=>if (w.e=5∨w.e=6)∧tq>0 then fq (aP l) f (o::acts.drop (i+1)) (tq-1) (n+1) out else fq (aP l) f (acts.drop (i+1)) tq 1 (out++[⟨w.pos,w.e,n,w.s,w.has⟩])):=by rw[hf,hdrop.out];rfl
    have H2:=aC (hB2.as hwt)
    have ha2:=hB2.on.le
    clear hB2 hwt
    obtain⟨n0,n1,n2,n3,n4,n5,n6⟩:=iT H2.out.tail.tail.b0
    obtain⟨o0,o1⟩:=op2 H2.out.b0
    have U4:=fun W hD h=>c32 o hdl ba bc W a2 hD h ha2
    rw[hkd]at U4
    go_wp2_with (fail)
    refine(U4 _ (HG.out.2.2.2.only H2.out.on.ta.2) H2.out.mg).mono ?_
    clear U4 n0 n1 n2 n3 n4 n5 n6 o0 o1
    rintro e V ⟨⟨⟨sp,st,so,sz⟩,has,pos,ev⟩,rfl,hO⟩
    unfold Mq
    dsimp only
    obtain⟨Z,hZ⟩:∃Z,V.heap.size=Z:=⟨_,rfl⟩
    obtain⟨W2,hW2⟩:∃W,V.alloc (.cells #[.int .i64 sp,.int .i32 st,.int .i64 so,.int .i64 sz] 39)=W:=⟨_,rfl⟩
    have Ua:Below V.heap.size V W2:=hW2▸(Below.refl _ _).alloc (Nat.le_refl _) _
    have hzb:W2.heap[Z]? = some (.cells #[.int .i64 sp,.int .i32 st,.int .i64 so,.int .i64 sz] 39):=hZ▸hW2▸aZ _ _
    obtain⟨z0,z1,z2,z3⟩:=dI hzb
    rcases hO with⟨hne,a3,hK⟩|⟨he,hK⟩
    ·dsimp only at hne
     have hK1:=aC hK.le
     have hK2:ev=5∨ev=6→n+1≤1+(a3:Int):=fun hh=>by
      have:=hK.more fun o' ho'=>Hw (aP l) o ho' (by rw[ho']at hK;have h1:=hK.go.1;rw[Pr.gL,Pr.gL]at h1;injection h1 with h1;rw[h1];exact hh)
      omega
     have H3:=aC ((H2.out.step (hK.bind (fun w=>⟨out,w.s,w.has⟩) (fun w=>if (w.e=5∨w.e=6)∧tq>0 then fq (aP l) f (o::acts.drop (i+1)) (tq-1) (n+1) out else fq (aP l) f (acts.drop (i+1)) tq 1 (out++[⟨w.pos,w.e,n,w.s,w.has⟩])))).below Ua)
     have HR3:=aC (show W2.ownsRow (X+2) 78 8 u11 out.length (out.flatMap za)from p9 (uP HS.out.row hK.ta.2 (by omega)) fun g hg=>Ua.block g (by have:=(uP HS.out.row hK.ta.2 (by omega)).lt g hg;exact this.2))
     have Cy:=aC (show X+2≤W2.heap.size from by have:=(Array.getElem?_eq_some_iff.1 H3.out.b0).1;omega)
     have v10:(ev==10)=false:=by simpa using hne
     clear hK Ua hzb H2 hne
     by_cases h5:ev=5
     ·subst h5
      by_cases ZQ:tr>0
      ·have FE:tq>0:=by omega
       have H4:=aC (H3.out.as (if_pos ⟨(.inl rfl),FE⟩))
       clear H3
       have HN:Hid (Ve w W2 X l tb ga cap L T acts i (tq-1) (n+1) out u11 [(Y,.cells #[.int .i64 kd,.slice ba o.data.length bc] 67),(X+1,.cells #[.int .i64 0,.int .i32 0,.int .i64 0,.int .i64 0] 39),(X,.cells (gm l) 23)]):=aC ⟨HR3.out,HS.out.len,_,H4.out.as (BJ hdrop.out hf FE),by have:=hK2 (.inl rfl);omega⟩
       go_wp2
       go_roundw
       case measure=>simp[intOf];omega
       case rel=>exact⟨tr-1,tq-1,n+1,by simp,by simp,by omega,by omega,by omega,by omega,HN⟩
      ·have NS:¬(((5:Int)=5∨(5:Int)=6)∧tq>0):=by omega
       have H4:=aC (H3.out.as (if_neg NS))
       clear H3
       go_wp2_with (first
        | (at_builtin;refine wpList_append_own _ rfl _ _ 37 rfl (X+2) 78 i0 _ 8 64 Tryz.underlying37 Ob Qt Qs Qr rfl (by decide) _ out.length _ rfl (HR3.out.alloc _) ⟨W2.heap.size,0,none⟩ 1 1 [.int .i64 pos,.int .i64 5,.int .i64 n,.int .i64 sp,.int .i32 st,.int .i64 so,.int .i64 sz,.bool has] rfl rfl ?ka1 ?ka2 ?ka3 ?ka4 ?ka5 ?_))
       try (case ka1 =>
        intro jj u hu
        have hr:=aZ W2 (.cells #[.int .i64 pos,.int .i64 5,.int .i64 n,.int .i64 sp,.int .i32 st,.int .i64 so,.int .i64 sz,.bool has] 78)
        rw[show(⟨W2.heap.size,0,none⟩:Addr).add jj=⟨W2.heap.size,jj,none⟩from by rw[Addr.add_lit,Nat.zero_add]]
        simp only[World.cell?,hr]
        rcases jj with _|_|_|_|_|_|_|_|jj<;>first|exact hu|(cases hu))
       case ka2=>first|exact⟨rfl,rfl,rfl,rfl,rfl,rfl,rfl,rfl⟩|(intro u hu;simp only[List.mem_cons,List.not_mem_nil,or_false]at hu;rcases hu with rfl|rfl|rfl|rfl|rfl|rfl|rfl|rfl<;>rfl)
       case ka3=>have:=HS.out.len;unfold maxLen;omega
       case ka4=>have:=HS.out.len;omega
       case ka5=>have:=Cy.out;simp;omega
       intro v' w1 hown' hgrow _
       have HN:Hid (Ve w w1 X l tb ga cap L T acts (i+1) tq 1 (out++[⟨pos,5,n,⟨sp,st,so,sz⟩,has⟩]) v' [(X+1,.cells #[.int .i64 0,.int .i32 0,.int .i64 0,.int .i64 0] 39),(X,.cells (gm l) 23)]):=aC ⟨by rw[List.flatMap_append,List.length_append];exact hown',by have:=HS.out.len;simp;omega,_,yV H4.out hgrow (fun g hg=>(HR3.out.lt g hg).1) hX hf hlt,by omega⟩
       clear hown' hgrow
       go_wp2
       go_roundw
       case measure=>simp[intOf];omega
       case rel=>exact⟨i+1,tr,tq,_,by simp,by omega,rfl,htr,Vm,LA,HN⟩
     ·have v5:(ev==5)=false:=by simpa using h5
      by_cases h6:ev=6
      ·subst h6
       by_cases ZQ:tr>0
       ·have FE:tq>0:=by omega
        have H4:=aC (H3.out.as (if_pos ⟨(.inr rfl),FE⟩))
        clear H3
        have HN:Hid (Ve w W2 X l tb ga cap L T acts i (tq-1) (n+1) out u11 [(Y,.cells #[.int .i64 kd,.slice ba o.data.length bc] 67),(X+1,.cells #[.int .i64 0,.int .i32 0,.int .i64 0,.int .i64 0] 39),(X,.cells (gm l) 23)]):=aC ⟨HR3.out,HS.out.len,_,H4.out.as (BJ hdrop.out hf FE),by have:=hK2 (.inr rfl);omega⟩
        go_wp2
        go_roundw
        case measure=>simp[intOf];omega
        case rel=>exact⟨tr-1,tq-1,n+1,by simp,by simp,by omega,by omega,by omega,by omega,HN⟩
       ·have NS:¬(((6:Int)=5∨(6:Int)=6)∧tq>0):=by omega
        have H4:=aC (H3.out.as (if_neg NS))
        clear H3
        go_wp2_with (first
         | (at_builtin;refine wpList_append_own _ rfl _ _ 37 rfl (X+2) 78 i0 _ 8 64 Tryz.underlying37 Ob Qt Qs Qr rfl (by decide) _ out.length _ rfl (HR3.out.alloc _) ⟨W2.heap.size,0,none⟩ 1 1 [.int .i64 pos,.int .i64 6,.int .i64 n,.int .i64 sp,.int .i32 st,.int .i64 so,.int .i64 sz,.bool has] rfl rfl ?kb1 ?Y3 ?ZI ?kb4 ?kb5 ?_))
        try (case kb1 =>
         intro jj u hu
         have hr:=aZ W2 (.cells #[.int .i64 pos,.int .i64 6,.int .i64 n,.int .i64 sp,.int .i32 st,.int .i64 so,.int .i64 sz,.bool has] 78)
         rw[show(⟨W2.heap.size,0,none⟩:Addr).add jj=⟨W2.heap.size,jj,none⟩from by rw[Addr.add_lit,Nat.zero_add]]
         simp only[World.cell?,hr]
         rcases jj with _|_|_|_|_|_|_|_|jj<;>first|exact hu|(cases hu))
        case Y3=>first|exact⟨rfl,rfl,rfl,rfl,rfl,rfl,rfl,rfl⟩|(intro u hu;simp only[List.mem_cons,List.not_mem_nil,or_false]at hu;rcases hu with rfl|rfl|rfl|rfl|rfl|rfl|rfl|rfl<;>rfl)
        case ZI=>have:=HS.out.len;unfold maxLen;omega
        case kb4=>have:=HS.out.len;omega
        case kb5=>have:=Cy.out;simp;omega
        intro v' w1 hown' hgrow _
        have HN:Hid (Ve w w1 X l tb ga cap L T acts (i+1) tq 1 (out++[⟨pos,6,n,⟨sp,st,so,sz⟩,has⟩]) v' [(X+1,.cells #[.int .i64 0,.int .i32 0,.int .i64 0,.int .i64 0] 39),(X,.cells (gm l) 23)]):=aC ⟨by rw[List.flatMap_append,List.length_append];exact hown',by have:=HS.out.len;simp;omega,_,yV H4.out hgrow (fun g hg=>(HR3.out.lt g hg).1) hX hf hlt,by omega⟩
        clear hown' hgrow
        go_wp2
        go_roundw
        case measure=>simp[intOf];omega
        case rel=>exact⟨i+1,tr,tq,_,by simp,by omega,rfl,htr,Vm,LA,HN⟩
      ·have v6:(ev==6)=false:=by simpa using h6
       have NS:¬((ev=5∨ev=6)∧tq>0):=by omega
       clear h5 h6
       have H4:=aC (H3.out.as (if_neg NS))
       clear H3
       go_wp2_with (first
        | (at_builtin;refine wpList_append_own _ rfl _ _ 37 rfl (X+2) 78 i0 _ 8 64 Tryz.underlying37 Ob Qt Qs Qr rfl (by decide) _ out.length _ rfl (HR3.out.alloc _) ⟨W2.heap.size,0,none⟩ 1 1 [.int .i64 pos,.int .i64 ev,.int .i64 n,.int .i64 sp,.int .i32 st,.int .i64 so,.int .i64 sz,.bool has] rfl rfl ?kc1 ?kc2 ?kc3 ?kc4 ?kc5 ?_))
       try (case kc1 =>
        intro jj u hu
        have hr:=aZ W2 (.cells #[.int .i64 pos,.int .i64 ev,.int .i64 n,.int .i64 sp,.int .i32 st,.int .i64 so,.int .i64 sz,.bool has] 78)
        rw[show(⟨W2.heap.size,0,none⟩:Addr).add jj=⟨W2.heap.size,jj,none⟩from by rw[Addr.add_lit,Nat.zero_add]]
        simp only[World.cell?,hr]
        rcases jj with _|_|_|_|_|_|_|_|jj<;>first|exact hu|(cases hu))
       case kc2=>first|exact⟨rfl,rfl,rfl,rfl,rfl,rfl,rfl,rfl⟩|(intro u hu;simp only[List.mem_cons,List.not_mem_nil,or_false]at hu;rcases hu with rfl|rfl|rfl|rfl|rfl|rfl|rfl|rfl<;>rfl)
       case kc3=>have:=HS.out.len;unfold maxLen;omega
       case kc4=>have:=HS.out.len;omega
       case kc5=>have:=Cy.out;simp;omega
       intro v' w1 hown' hgrow _
       have HN:Hid (Ve w w1 X l tb ga cap L T acts (i+1) tq 1 (out++[⟨pos,ev,n,⟨sp,st,so,sz⟩,has⟩]) v' [(X+1,.cells #[.int .i64 0,.int .i32 0,.int .i64 0,.int .i64 0] 39),(X,.cells (gm l) 23)]):=aC ⟨by rw[List.flatMap_append,List.length_append];exact hown',by have:=HS.out.len;simp;omega,_,yV H4.out hgrow (fun g hg=>(HR3.out.lt g hg).1) hX hf hlt,by omega⟩
       clear hown' hgrow
       go_wp2
       go_roundw
       case measure=>simp[intOf];omega
       case rel=>exact⟨i+1,tr,tq,_,by simp,by omega,rfl,htr,Vm,LA,HN⟩
    ·dsimp only at he
     subst he
     have hKb:=hK.bind (fun w=>⟨out,w.s,w.has⟩) (fun w=>if (w.e=5∨w.e=6)∧tq>0 then fq (aP l) f (o::acts.drop (i+1)) (tq-1) (n+1) out else fq (aP l) f (acts.drop (i+1)) tq 1 (out++[⟨w.pos,w.e,n,w.s,w.has⟩]))
     have q5:=H2.out.jg hKb (X+1,.cells #[.int .i64 0,.int .i32 0,.int .i64 0,.int .i64 0] 39) (List.mem_cons_of_mem _ (List.mem_cons_self ..))
     have q6:=(Ua.block (X+1) (Array.getElem?_eq_some_iff.1 q5).1).trans q5
     have HO2:=aC ((H2.out.off hKb).below Ua)
     have hrow:W2.ownsRow (X+2) 78 8 u11 out.length (out.flatMap za):=by
      obtain⟨c,K,-,-,h3⟩:=hK.ex
      exact p9 (uP HS.out.row h3.2 (by omega)) fun g hg=>Ua.block g (by have:=(uP HS.out.row h3.2 (by omega)).lt g hg;exact this.2)
     have HR3:=aC (aR hrow q6)
     have hZX:X+2≤Z:=by have:=(Array.getElem?_eq_some_iff.1 q5).1;have:=(Array.getElem?_eq_some_iff.1 hzb).1;have h7:=(Array.getElem?_eq_some_iff.1 (H2.out.jg hKb (Y,.cells #[.int .i64 kd,.slice ba o.data.length bc] 67) (List.mem_cons_self ..))).1;rw[hZ]at h7;omega
     obtain⟨r0,r1,r2,r3⟩:=eY q6
     obtain⟨x0,x1,x2,x3⟩:=dI q6
     clear hK hKb Ua q5 hrow hzb H2
     go_wp2_with (fail)
     go_region
     go_wp2_with (fail)
     obtain⟨W9,XG⟩:∃W,((((W2.setCell ⟨X+1,0,none⟩ (.int .i64 sp)).setCell ⟨X+1,1,none⟩ (.int .i32 st)).setCell ⟨X+1,2,none⟩ (.int .i64 so)).setCell ⟨X+1,3,none⟩ (.int .i64 sz)).drew=W:=⟨_,rfl⟩
     rw[XG]
     have h4:=dF HR3.out.2 (.int .i64 sp) (.int .i32 st) (.int .i64 so) (.int .i64 sz)
     have h5:W9.heap[X+1]? = some (.cells #[.int .i64 sp,.int .i32 st,.int .i64 so,.int .i64 sz] 39):=XG▸h4.1
     have h6:Only (X+1) W2 W9:=XG▸h4.2.trans (Only.of_below (Below.drew (Below.refl _ _)))
     obtain⟨k0,k1,k2,k3⟩:=dI h5
     have hrow:=p9 HR3.out.1 fun g hg=>h6.block g (HR3.out.1.lt g hg).2 (by have:=(HR3.out.1.lt g hg).1;omega)
     refine bodyPost_ret (v :=.tuple #[u11,.agg #[.int .i64 sp,.int .i32 st,.int .i64 so,.int .i64 sz],.bool has]) (by simp[results,Tryz.results8,go_sem,k0,k1,k2,k3]) rfl ⟨u11,⟨out,⟨sp,st,so,sz⟩,has⟩,rfl,hX▸zw hrow (by omega),.inr (HO2.out.put HR3.out.2 h6 (by omega) (by omega))⟩
  ·obtain rfl:i=acts.length:=by omega
   obtain⟨a1,hB1,hn1⟩:=HS.out.st
   have hdn:acts.drop acts.length=[]:=List.drop_length
   have hend:fq (aP l) (tq.toNat+(acts.length-acts.length)) (acts.drop acts.length) tq 1 out =.done ⟨out,bW,false⟩:=by
    rw[hdn]
    cases tq.toNat+(acts.length-acts.length)<;>rfl
   have H1:=aC (hB1.as hend)
   have HR3:=aC HS.out.row
   clear hB1 HS hn1 hend hdn
   obtain⟨r0,r1,r2,r3⟩:=eY H1.out.b0
   obtain⟨x0,x1,x2,x3⟩:=dI H1.out.b0
   go_wp2
   obtain⟨W9,XG⟩:∃W,(((wr.setCell ⟨X+1,0,none⟩ (.int .i64 0)).setCell ⟨X+1,1,none⟩ (.int .i32 0)).setCell ⟨X+1,2,none⟩ (.int .i64 0)).setCell ⟨X+1,3,none⟩ (.int .i64 0)=W:=⟨_,rfl⟩
   have h4:=dF H1.out.b0 (.int .i64 0) (.int .i32 0) (.int .i64 0) (.int .i64 0)
   rw[XG]at h4 ⊢
   obtain⟨k0,k1,k2,k3⟩:=dI h4.1
   have hrow:=p9 HR3.out fun g hg=>h4.2.block g (HR3.out.lt g hg).2 (by have:=(HR3.out.lt g hg).1;omega)
   refine bodyPost_ret (v :=.tuple #[u11,.agg #[.int .i64 0,.int .i32 0,.int .i64 0,.int .i64 0],.bool false]) (by simp[results,Tryz.results8,go_sem,k0,k1,k2,k3]) rfl ⟨u11,⟨out,bW,false⟩,rfl,hX▸zw hrow (by omega),.inl ⟨a1,H1.out.only h4.2 (by omega)⟩⟩
end
