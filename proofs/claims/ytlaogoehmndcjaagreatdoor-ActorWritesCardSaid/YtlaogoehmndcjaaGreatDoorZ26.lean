import Derived.Test.YtlaogoehmndcjaaGreatDoorZ23
import Derived.Test.YtlaogoehmndcjaaGreatDoorZ25
set_option linter.unusedSectionVars false
set_option maxRecDepth 1000000
set_option maxHeartbeats 3200000
set_option linter.unusedVariables false
set_option linter.unusedSimpArgs false
namespace Go.Proofs.YtlaogoehmndcjaaGreatDoor.Sy
open Go RowKit Lib Base Pr Ba
variable [Zn]
theorem fO {w:World} {b c:Nat} {t u:TypeId} {v0 v1 v2 v3 v4 v5 v6 x0 x1 x2 x3:Value} (h:w.heap[b]? = some (.cells #[v0,v1,v2,v3,v4,v5,v6] t (0,0))) (k:w.heap[c]? = some (.cells #[x0,x1,x2,x3] u (0,0))):w.cell? ⟨b,0,none⟩=some v0∧w.cell? ⟨b,1,none⟩=some v1∧w.cell? ⟨b,2,none⟩=some v2∧w.cell? ⟨b,3,none⟩=some v3∧w.cell? ⟨b,4,none⟩=some v4∧w.cell? ⟨b,5,none⟩=some v5∧w.cell? ⟨b,6,none⟩=some v6∧w.cell? ⟨c,0,none⟩=some x0∧w.cell? ⟨c,1,none⟩=some x1∧w.cell? ⟨c,2,none⟩=some x2∧w.cell? ⟨c,3,none⟩=some x3:=by
 refine⟨?_,?_,?_,?_,?_,?_,?_,?_,?_,?_,?_⟩<;>simp[World.cell?,h,k]
theorem GG.put {w wr wr':World} {tb:Nat} {ga:Option Addr} {cap:Nat} {L:List An} {a:Nat} {T:Pr An Ot} {o:Ot} (h:GG w wr tb ga cap L a T o) (vT:iE w tb ga cap L a none) {k:Nat} {t:TypeId} {x0 x1 x2 x3:Int} (hk:wr.heap[k]? = some (.cells #[.int .i64 x0,.int .i32 x1,.int .i64 x2,.int .i64 x3] t (0,0))) (ho:Only k wr wr') (hx:tb≠k) (hw:w.heap.size≤k):GG w wr' tb ga cap L a T o:=by
 rcases h with⟨h1,a',h2⟩|⟨h1,h2⟩
 ·exact .inl ⟨h1,a',(BN.mk (B:=[]) (fun p hp=>(by cases hp)) (fun p hp=>(by cases hp)) vT h2).only ho hw⟩
 ·exact .inr ⟨h1,h2.put hk ho hx hw⟩
section
variable {tb:Nat} {ga:Option Addr} {cap:Nat} {L:List An} {a:Nat}
theorem zy (l:Lg) (b:List Nat) (ev:Int) (hev:ev=1∨ev=4) (hT:fZ (aP l) b =.done ⟨bW,false,0,ev⟩) (pU:∀w,Calls Tryz.prog 104 #[l.val,.int .i64 (b.length:Int)] w fun e w'=>e =.returned (.tuple #[.int .i64 0,.int .i64 ev])∧Below w.heap.size w w') (ea:Option Addr) (ec:Nat) (w:World) (h:iE w tb ga cap L a none) (ha:a≤L.length) :
 Calls Tryz.prog 60 #[.pointer (some ⟨tb,0,none⟩),l.val,.slice ea b.length ec] w fun e w'=>∃o:Ot,e =.returned (Mq o)∧GG w w' tb ga cap L a (fZ (aP l) b) o:=by
 rw[hT]
 obtain⟨X,hX⟩:∃X,w.heap.size=X:=⟨_,rfl⟩
 obtain⟨V1,hV1⟩:∃V,w.alloc (.cells (gm l) 23)=V:=⟨_,rfl⟩
 have s1:V1.heap.size=X+1:=by rw[←hV1,←hX];simp
 obtain⟨V2,hV2⟩:∃V,V1.alloc (.cells #[.int .i64 0,.int .i32 0,.int .i64 0,.int .i64 0] 39)=V:=⟨_,rfl⟩
 have HX:=aC (hV2▸(hV1▸(BN.fresh h ha (Pr.done (⟨bW,false,0,ev⟩:Ot))).new hX (.cells (gm l) 23)).new s1 (.cells #[.int .i64 0,.int .i32 0,.int .i64 0,.int .i64 0] 39))
 obtain⟨n0,n1,n2,n3,n4,n5,n6⟩:=iT HX.out.tail.b0
 have w1:(ev != 0)=true:=by rcases hev with rfl|rfl<;>decide
 unfold Lg.val at pU ⊢
 clear h ha hT
 go_enter Tryz.func60,Tryz.ntmps60
 go_wp2_with (first|(go_at_call 104;refine(pU _).mono ?_;clear pU;rintro e GU ⟨rfl,hB⟩;replace HX:=aC (HX.out.below hB);clear hB;clear n0 n1 n2 n3 n4 n5 n6;obtain⟨z0,z1,z2,z3⟩:=dI HX.out.b0;obtain⟨r0,r1,r2,r3⟩:=eY HX.out.b0))
 obtain⟨Z,hZ⟩:∃W,(((GU.setCell ⟨X+1,0,none⟩ (.int .i64 (0))).setCell ⟨X+1,1,none⟩ (.int .i32 (0))).setCell ⟨X+1,2,none⟩ (.int .i64 (0))).setCell ⟨X+1,3,none⟩ (.int .i64 (0))=W:=⟨_,rfl⟩
 have h4:=dF (HX.out.b0) (.int .i64 (0)) (.int .i32 (0)) (.int .i64 (0)) (.int .i64 (0))
 rw[hZ]at h4 ⊢
 obtain⟨k0,k1,k2,k3⟩:=dI h4.1
 clear hZ z0 z1 z2 z3 r0 r1 r2 r3
 refine bodyPost_ret (v :=.tuple #[.agg #[.int .i64 (0),.int .i32 (0),.int .i64 (0),.int .i64 (0)],.bool false,.int .i64 0,.int .i64 ev]) (by simp[results,Tryz.results60,go_sem,k0,k1,k2,k3]) rfl (⟨⟨bW,false,0,ev⟩,rfl,.inl ⟨by rcases hev with rfl|rfl<;>decide,a,HX.out.only h4.2 (by omega)⟩⟩)
theorem Ll (l:Lg) (hl:l.ok) (hw:o8 l) (b:List Nat) (hbl:b.length≤300) (hbt:(b.length:Int)≤l.term/8) (ea:Option Addr) (ec:Nat) (w:World) (hD:kS w tb ea ec b) (h:iE w tb ga cap L a none) (ha:a≤L.length) :
 Calls Tryz.prog 60 #[.pointer (some ⟨tb,0,none⟩),l.val,.slice ea b.length ec] w fun e w'=>∃o:Ot,e =.returned (Mq o)∧GG w w' tb ga cap L a (fZ (aP l) b) o:=by
 have hb:=mY hl
 have pU:=fun W=>Ny l hl b.length hbt W
 have hnb:=Dp (aP l) ⟨hb.1,hb.2.1⟩ 40 b.length (by omega)
 have QA:=BP (aP l) b hl hbt
 obtain⟨nd,hnd⟩:∃n,bB (aP l) 40 b.length=n:=⟨_,rfl⟩
 rw[hnd]at pU hnb QA
 have c105:=fun W (a':Nat) (h:iE W tb ga cap L a' none) (ha:a'≤L.length)=>YO l hl hw nd ⟨by omega,by omega⟩ (kQ (aP l) b) W h ha
 have U6:=fun(cn:Int) hc W (a':Nat) hB (h:iE W tb ga cap L a' none) (ha:a'≤L.length)=>Q9 l hl hw b hbl hbt ea ec cn hc W hB h ha
 have c107:=fun s hs W (a':Nat) (h:iE W tb ga cap L a' none) (ha:a'≤L.length)=>Rk l hl hw s hs W h ha
 have L6:=fun s h1 h2 h3 W=>Yi l hl hw s h1 h2 h3 W
 obtain⟨T,hT⟩:∃T,fZ (aP l) b=T:=⟨_,rfl⟩
 rw[hT]at QA ⊢
 rw[←QA]at c105
 obtain⟨X,hX⟩:∃X,w.heap.size=X:=⟨_,rfl⟩
 have Qy:tb<X:=hX▸h.lt
 obtain⟨V1,hV1⟩:∃V,w.alloc (.cells (gm l) 23)=V:=⟨_,rfl⟩
 have s1:V1.heap.size=X+1:=by rw[←hV1,←hX];simp
 obtain⟨V2,hV2⟩:∃V,V1.alloc (.cells #[.int .i64 0,.int .i32 0,.int .i64 0,.int .i64 0] 39)=V:=⟨_,rfl⟩
 have HX:=aC (hV2▸(hV1▸(BN.fresh h ha T).new hX (.cells (gm l) 23)).new s1 (.cells #[.int .i64 0,.int .i32 0,.int .i64 0,.int .i64 0] 39))
 obtain⟨n0,n1,n2,n3,n4,n5,n6⟩:=iT HX.out.tail.b0
 have HB:=aC hD
 unfold Lg.val at pU c105 U6 c107 L6 ⊢
 have RZ:=aC h
 clear h ha hw hT hnd hl hD QA
 go_enter Tryz.func60,Tryz.ntmps60
 go_wp2_with (first|(go_at_call 104;refine(pU _).mono ?_;clear pU;rintro e GU ⟨rfl,hB⟩;replace HX:=aC (HX.out.below hB);clear hB;clear n0 n1 n2 n3 n4 n5 n6;obtain⟨n0,n1,n2,n3,n4,n5,n6⟩:=iT HX.out.tail.b0))
 refine(c105 _ _ HX.out.mg HX.out.on.le).mono ?_
 clear c105 n0 n1 n2 n3 n4 n5 n6
 rintro e V (⟨cn,a1,hc,rfl,hK⟩|⟨ev,a1,hev,rfl,hK⟩|⟨rfl,hK⟩)
 ·replace HX:=aC (HX.out.step hK)
  clear hK
  obtain⟨n0,n1,n2,n3,n4,n5,n6⟩:=iT HX.out.tail.b0
  go_wp2_with (fail)
  refine(U6 cn hc _ _ (HB.out.only HX.out.on.ta.2) HX.out.mg HX.out.on.le).mono ?_
  clear U6 n0 n1 n2 n3 n4 n5 n6
  rintro e V3 (⟨s,a2,hs,rfl,hK⟩|⟨s,a2,hs,rfl,hK⟩|⟨s,hs,rfl,hK⟩|⟨rfl,hK⟩)
  ·obtain⟨sp,st,so,sz⟩:=s
   dsimp only[Bd]
   obtain⟨Y,hY⟩:∃Y,V3.heap.size=Y:=⟨_,rfl⟩
   obtain⟨W1,hW1⟩:∃W,V3.alloc (.cells #[.int .i64 sp,.int .i32 st,.int .i64 so,.int .i64 sz] 39)=W:=⟨_,rfl⟩
   have H1:=aC (hW1▸(HX.out.step hK).new hY (.cells #[.int .i64 sp,.int .i32 st,.int .i64 so,.int .i64 sz] 39))
   have Vn:X+1<Y:=hY▸(Array.getElem?_eq_some_iff.1 (HX.out.step hK).b0).1
   clear hK
   obtain⟨n0,n1,n2,n3,n4,n5,n6⟩:=iT H1.out.tail.tail.b0
   obtain⟨y0,y1,y2,y3⟩:=dI H1.out.b0
   have Gj:∀V',BN w V' [(Y,.cells #[.int .i64 sp,.int .i32 st,.int .i64 so,.int .i64 sz] 39),(X+1,.cells #[.int .i64 0,.int .i32 0,.int .i64 0,.int .i64 0] 39),(X,.cells (gm l) 23)] tb ga cap L a T (dh (aP l) ⟨sp,st,so,sz⟩) a2→Calls Tryz.prog 107 #[.pointer (some ⟨tb,0,none⟩),.agg (gm l),.agg #[.int .i64 sp,.int .i32 st,.int .i64 so,.int .i64 sz]] V' fun e w'=>∃ev:Int,e =.returned (.int .i64 ev)∧GG w w' tb ga cap L a T ⟨⟨sp,st,so,sz⟩,true,0,ev⟩∧∀q∈[(Y,Obj.cells #[.int .i64 sp,.int .i32 st,.int .i64 so,.int .i64 sz] 39),(X+1,.cells #[.int .i64 0,.int .i32 0,.int .i64 0,.int .i64 0] 39),(X,.cells (gm l) 23)],w'.heap[q.1]? = some q.2:=fun V' hV'=>by
    refine(c107 ⟨sp,st,so,sz⟩ hs.tm V' _ hV'.mg hV'.on.le).mono ?_
    rintro e w' (⟨ev,a3,hev,rfl,hK⟩|⟨rfl,hK⟩)
    ·exact⟨ev,rfl,.inl ⟨by show ev≠10;omega,a3,(hV'.step hK).on⟩,(hV'.step hK).box⟩
    ·exact⟨10,rfl,.inr ⟨rfl,hV'.off hK⟩,hV'.jg hK⟩
   have pg:=aC (fO H1.out.tail.tail.b0 H1.out.b0)
   go_wp2_with (fail)
   first
   | (go_region_held (fun W'=>W'.cell? ⟨X,0,none⟩=some (.int .i64 l.base)∧W'.cell? ⟨X,1,none⟩=some (.int .i64 l.term)∧W'.cell? ⟨X,2,none⟩=some (.int .i64 l.aV)∧W'.cell? ⟨X,3,none⟩=some (.int .i64 l.subs)∧W'.cell? ⟨X,4,none⟩=some (.int .i32 l.bG)∧W'.cell? ⟨X,5,none⟩=some (.int .i32 l.dQ)∧W'.cell? ⟨X,6,none⟩=some (.int .i32 l.str)∧W'.cell? ⟨Y,0,none⟩=some (.int .i64 sp)∧W'.cell? ⟨Y,1,none⟩=some (.int .i32 st)∧W'.cell? ⟨Y,2,none⟩=some (.int .i64 so)∧W'.cell? ⟨Y,3,none⟩=some (.int .i64 sz))
       (first|exact ou.out|exact o9.out|exact pg.out)
       (first|(go_at_call 107;refine(Gj _ (H1.out.below (Below.drew (Below.refl _ W1)))).mono ?_;rintro e v107 ⟨ev,rfl,hO,hbx⟩;have q0:=hbx _ (List.mem_cons_self ..);have q1:=hbx _ (List.mem_cons_of_mem _ (List.mem_cons_self ..));have q2:=hbx _ (List.mem_cons_of_mem _ (List.mem_cons_of_mem _ (List.mem_cons_self ..)));have o9:=aC (fO q2 q0);obtain⟨r0,r1,r2,r3⟩:=eY q1;obtain⟨z0,z1,z2,z3⟩:=dI q1;have h4:=dF q1 (.int .i64 sp) (.int .i32 st) (.int .i64 so) (.int .i64 sz);obtain⟨Z,hZ⟩:∃W,((((v107.setCell ⟨X+1,0,none⟩ (.int .i64 sp)).setCell ⟨X+1,1,none⟩ (.int .i32 st)).setCell ⟨X+1,2,none⟩ (.int .i64 so)).setCell ⟨X+1,3,none⟩ (.int .i64 sz))=W:=⟨_,rfl⟩;rw[hZ]at h4;have ou:=aC (fO ((h4.2.block X (Array.getElem?_eq_some_iff.1 q2).1 (by omega)).trans q2) ((h4.2.block Y (Array.getElem?_eq_some_iff.1 q0).1 (by omega)).trans q0));have HO:=aC hO;have H4:=aC (aR h4 q1);clear hO hbx h4 q0 q1 q2)))|fail
   go_wp2
   obtain⟨k0,k1,k2,k3⟩:=dI H4.out.1.1
   refine bodyPost_ret (v :=.tuple #[.agg #[.int .i64 sp,.int .i32 st,.int .i64 so,.int .i64 sz],.bool true,.int .i64 0,.int .i64 ev]) (by simp[results,Tryz.results60,go_sem,k0,k1,k2,k3]) rfl ⟨⟨⟨sp,st,so,sz⟩,true,0,ev⟩,rfl,HO.out.put RZ.out H4.out.2 H4.out.1.2 (by omega) (by omega)⟩
  ·obtain⟨sp,st,so,sz⟩:=s
   dsimp only[Bd]
   obtain⟨Y,hY⟩:∃Y,V3.heap.size=Y:=⟨_,rfl⟩
   obtain⟨W1,hW1⟩:∃W,V3.alloc (.cells #[.int .i64 sp,.int .i32 st,.int .i64 so,.int .i64 sz] 39)=W:=⟨_,rfl⟩
   have H1:=aC (hW1▸(HX.out.step hK).new hY (.cells #[.int .i64 sp,.int .i32 st,.int .i64 so,.int .i64 sz] 39))
   have Vn:X+1<Y:=hY▸(Array.getElem?_eq_some_iff.1 (HX.out.step hK).b0).1
   clear hK
   obtain⟨n0,n1,n2,n3,n4,n5,n6⟩:=iT H1.out.tail.tail.b0
   obtain⟨y0,y1,y2,y3⟩:=dI H1.out.b0
   have xI:=fun W=>L6 ⟨sp,st,so,sz⟩ hs.tm hs.off hs.sz W
   obtain⟨pe,hpe⟩:∃q,fI (aP l) ⟨sp,st,so,sz⟩=q:=⟨_,rfl⟩
   rw[hpe]at xI H1
   clear hpe
   have pg:=aC (fO H1.out.tail.tail.b0 H1.out.b0)
   go_wp2_with (fail)
   first
   | (go_region_held (fun W'=>W'.cell? ⟨X,0,none⟩=some (.int .i64 l.base)∧W'.cell? ⟨X,1,none⟩=some (.int .i64 l.term)∧W'.cell? ⟨X,2,none⟩=some (.int .i64 l.aV)∧W'.cell? ⟨X,3,none⟩=some (.int .i64 l.subs)∧W'.cell? ⟨X,4,none⟩=some (.int .i32 l.bG)∧W'.cell? ⟨X,5,none⟩=some (.int .i32 l.dQ)∧W'.cell? ⟨X,6,none⟩=some (.int .i32 l.str)∧W'.cell? ⟨Y,0,none⟩=some (.int .i64 sp)∧W'.cell? ⟨Y,1,none⟩=some (.int .i32 st)∧W'.cell? ⟨Y,2,none⟩=some (.int .i64 so)∧W'.cell? ⟨Y,3,none⟩=some (.int .i64 sz))
       (first|exact ou.out|exact o9.out|exact pg.out)
       (first|(go_at_call 108;refine(xI _).mono ?_;rintro e MI ⟨rfl,RH⟩;have H8:=aC ((H1.out.below (Below.drew (Below.refl _ W1))).below RH);have o9:=aC (fO H8.out.tail.tail.b0 H8.out.b0);obtain⟨r0,r1,r2,r3⟩:=eY H8.out.tail.b0;obtain⟨z0,z1,z2,z3⟩:=dI H8.out.tail.b0;have h4:=dF H8.out.tail.b0 (.int .i64 sp) (.int .i32 st) (.int .i64 so) (.int .i64 sz);obtain⟨Z,hZ⟩:∃W,((((MI.setCell ⟨X+1,0,none⟩ (.int .i64 sp)).setCell ⟨X+1,1,none⟩ (.int .i32 st)).setCell ⟨X+1,2,none⟩ (.int .i64 so)).setCell ⟨X+1,3,none⟩ (.int .i64 sz))=W:=⟨_,rfl⟩;rw[hZ]at h4;have ou:=aC (fO ((h4.2.block X (Array.getElem?_eq_some_iff.1 H8.out.tail.tail.b0).1 (by omega)).trans H8.out.tail.tail.b0) ((h4.2.block Y (Array.getElem?_eq_some_iff.1 H8.out.b0).1 (by omega)).trans H8.out.b0));have H4:=aC h4;clear RH h4)))|fail
   go_wp2
   obtain⟨k0,k1,k2,k3⟩:=dI H4.out.1
   refine bodyPost_ret (v :=.tuple #[.agg #[.int .i64 sp,.int .i32 st,.int .i64 so,.int .i64 sz],.bool true,.int .i64 pe,.int .i64 0]) (by simp[results,Tryz.results60,go_sem,k0,k1,k2,k3]) rfl ⟨⟨⟨sp,st,so,sz⟩,true,pe,0⟩,rfl,.inl ⟨by show(0:Int)≠10;omega,a2,H8.out.only H4.out.2 (by omega)⟩⟩
  ·obtain⟨sp,st,so,sz⟩:=s;dsimp only[Bd]
   have jh:=aC (HX.out.jg hK)
   have HO:=aC (HX.out.off hK)
   obtain⟨Y,hY⟩:∃Y,V3.heap.size=Y:=⟨_,rfl⟩
   obtain⟨W1,hW1⟩:∃W,V3.alloc (.cells #[.int .i64 (sp),.int .i32 (st),.int .i64 (so),.int .i64 (sz)] 39)=W:=⟨_,rfl⟩
   have hb1:Below V3.heap.size V3 W1:=by rw[←hW1];exact(Below.refl _ _).alloc (Nat.le_refl _) _
   have ry:W1.heap[Y]? = some (.cells #[.int .i64 (sp),.int .i32 (st),.int .i64 (so),.int .i64 (sz)] 39):=by rw[←hW1,←hY];exact aZ _ _
   have q3:=jh.out (X+1,.cells #[.int .i64 0,.int .i32 0,.int .i64 0,.int .i64 0] 39) (List.mem_cons_self ..)
   have q1:=(hb1.block (X+1) (Array.getElem?_eq_some_iff.1 q3).1).trans q3
   replace HO:=aC (HO.out.below hb1)
   clear hK hb1 q3
   obtain⟨y0,y1,y2,y3⟩:=dI ry
   obtain⟨r0,r1,r2,r3⟩:=eY (q1)
   obtain⟨z0,z1,z2,z3⟩:=dI (q1)
   have HQ:=aC q1
   go_wp2
   obtain⟨Z,hZ⟩:∃W,(((W1.setCell ⟨X+1,0,none⟩ (.int .i64 (sp))).setCell ⟨X+1,1,none⟩ (.int .i32 (st))).setCell ⟨X+1,2,none⟩ (.int .i64 (so))).setCell ⟨X+1,3,none⟩ (.int .i64 (sz))=W:=⟨_,rfl⟩
   have h4:=dF (HQ.out) (.int .i64 (sp)) (.int .i32 (st)) (.int .i64 (so)) (.int .i64 (sz))
   rw[hZ]at h4 ⊢
   obtain⟨k0,k1,k2,k3⟩:=dI h4.1
   clear hZ z0 z1 z2 z3 r0 r1 r2 r3
   refine bodyPost_ret (v :=.tuple #[.agg #[.int .i64 (sp),.int .i32 (st),.int .i64 (so),.int .i64 (sz)],.bool true,.int .i64 0,.int .i64 10]) (by simp[results,Tryz.results60,go_sem,k0,k1,k2,k3]) rfl (⟨⟨⟨sp,st,so,sz⟩,true,0,10⟩,rfl,.inr ⟨rfl,HO.out.put HQ.out h4.2 (by omega) (by omega)⟩⟩)
  ·dsimp only[Bd,bW]
   have jh:=aC (HX.out.jg hK)
   have HO:=aC (HX.out.off hK)
   obtain⟨Y,hY⟩:∃Y,V3.heap.size=Y:=⟨_,rfl⟩
   obtain⟨W1,hW1⟩:∃W,V3.alloc (.cells #[.int .i64 (0),.int .i32 (0),.int .i64 (0),.int .i64 (0)] 39)=W:=⟨_,rfl⟩
   have hb1:Below V3.heap.size V3 W1:=by rw[←hW1];exact(Below.refl _ _).alloc (Nat.le_refl _) _
   have ry:W1.heap[Y]? = some (.cells #[.int .i64 0,.int .i32 0,.int .i64 0,.int .i64 0] 39):=by rw[←hW1,←hY];exact aZ _ _
   obtain⟨e0,e1,e2,e3⟩:=dI ry
   obtain⟨d0,d1,d2,d3⟩:=eY ry
   obtain⟨W2,hW2⟩:∃W,(((W1.setCell ⟨Y,0,none⟩ (.int .i64 0)).setCell ⟨Y,1,none⟩ (.int .i32 0)).setCell ⟨Y,2,none⟩ (.int .i64 0)).setCell ⟨Y,3,none⟩ (.int .i64 0)=W:=⟨_,rfl⟩
   have hs4:=dF ry (.int .i64 0) (.int .i32 0) (.int .i64 0) (.int .i64 0)
   rw[hW2]at hs4
   have Vn:X+1<Y:=hY▸(Array.getElem?_eq_some_iff.1 (jh.out (X+1,.cells #[.int .i64 0,.int .i32 0,.int .i64 0,.int .i64 0] 39) (List.mem_cons_self ..))).1
   have q3:=jh.out (X+1,.cells #[.int .i64 0,.int .i32 0,.int .i64 0,.int .i64 0] 39) (List.mem_cons_self ..)
   have q4:=(hb1.block (X+1) (Array.getElem?_eq_some_iff.1 q3).1).trans q3
   have q1:=(hs4.2.block (X+1) (Array.getElem?_eq_some_iff.1 q4).1 (by omega)).trans q4
   replace HO:=aC ((HO.out.below hb1).put ry hs4.2 (by omega) (by omega))
   obtain⟨y0,y1,y2,y3⟩:=dI hs4.1
   clear hK hb1 q3 q4 ry hs4
   obtain⟨r0,r1,r2,r3⟩:=eY (q1)
   obtain⟨z0,z1,z2,z3⟩:=dI (q1)
   have HQ:=aC q1
   go_wp2
   obtain⟨Z,hZ⟩:∃W,(((W2.setCell ⟨X+1,0,none⟩ (.int .i64 (0))).setCell ⟨X+1,1,none⟩ (.int .i32 (0))).setCell ⟨X+1,2,none⟩ (.int .i64 (0))).setCell ⟨X+1,3,none⟩ (.int .i64 (0))=W:=⟨_,rfl⟩
   have h4:=dF (HQ.out) (.int .i64 (0)) (.int .i32 (0)) (.int .i64 (0)) (.int .i64 (0))
   rw[hZ]at h4 ⊢
   obtain⟨k0,k1,k2,k3⟩:=dI h4.1
   clear hZ z0 z1 z2 z3 r0 r1 r2 r3
   refine bodyPost_ret (v :=.tuple #[.agg #[.int .i64 (0),.int .i32 (0),.int .i64 (0),.int .i64 (0)],.bool false,.int .i64 0,.int .i64 10]) (by simp[results,Tryz.results60,go_sem,k0,k1,k2,k3]) rfl (⟨⟨bW,false,0,10⟩,rfl,.inr ⟨rfl,HO.out.put HQ.out h4.2 (by omega) (by omega)⟩⟩)
 ·replace HX:=aC (HX.out.step hK)
  clear hK
  have w1:(ev != 0)=true:=by rcases hev with rfl|rfl|rfl<;>decide
  obtain⟨r0,r1,r2,r3⟩:=eY (HX.out.b0)
  obtain⟨z0,z1,z2,z3⟩:=dI (HX.out.b0)
  go_wp2
  obtain⟨Z,hZ⟩:∃W,(((V.setCell ⟨X+1,0,none⟩ (.int .i64 (0))).setCell ⟨X+1,1,none⟩ (.int .i32 (0))).setCell ⟨X+1,2,none⟩ (.int .i64 (0))).setCell ⟨X+1,3,none⟩ (.int .i64 (0))=W:=⟨_,rfl⟩
  have h4:=dF (HX.out.b0) (.int .i64 (0)) (.int .i32 (0)) (.int .i64 (0)) (.int .i64 (0))
  rw[hZ]at h4 ⊢
  obtain⟨k0,k1,k2,k3⟩:=dI h4.1
  clear hZ z0 z1 z2 z3 r0 r1 r2 r3
  refine bodyPost_ret (v :=.tuple #[.agg #[.int .i64 (0),.int .i32 (0),.int .i64 (0),.int .i64 (0)],.bool false,.int .i64 0,.int .i64 ev]) (by simp[results,Tryz.results60,go_sem,k0,k1,k2,k3]) rfl (⟨⟨bW,false,0,ev⟩,rfl,.inl ⟨by show ev≠10;omega,a1,HX.out.only h4.2 (by omega)⟩⟩)
 ·have jh:=aC (HX.out.jg hK)
  have HO:=aC (HX.out.off hK)
  clear hK
  have q1:=jh.out (X+1,.cells #[.int .i64 0,.int .i32 0,.int .i64 0,.int .i64 0] 39) (List.mem_cons_self ..)
  obtain⟨r0,r1,r2,r3⟩:=eY (q1)
  obtain⟨z0,z1,z2,z3⟩:=dI (q1)
  have HQ:=aC q1
  go_wp2
  obtain⟨Z,hZ⟩:∃W,(((V.setCell ⟨X+1,0,none⟩ (.int .i64 (0))).setCell ⟨X+1,1,none⟩ (.int .i32 (0))).setCell ⟨X+1,2,none⟩ (.int .i64 (0))).setCell ⟨X+1,3,none⟩ (.int .i64 (0))=W:=⟨_,rfl⟩
  have h4:=dF (HQ.out) (.int .i64 (0)) (.int .i32 (0)) (.int .i64 (0)) (.int .i64 (0))
  rw[hZ]at h4 ⊢
  obtain⟨k0,k1,k2,k3⟩:=dI h4.1
  clear hZ z0 z1 z2 z3 r0 r1 r2 r3
  refine bodyPost_ret (v :=.tuple #[.agg #[.int .i64 (0),.int .i32 (0),.int .i64 (0),.int .i64 (0)],.bool false,.int .i64 0,.int .i64 10]) (by simp[results,Tryz.results60,go_sem,k0,k1,k2,k3]) rfl (⟨⟨bW,false,0,10⟩,rfl,.inr ⟨rfl,HO.out.put HQ.out h4.2 (by omega) (by omega)⟩⟩)
end
theorem kS.cap {w:World} {tb:Nat} {ea:Option Addr} {ec:Nat} {b:List Nat} (h:kS w tb ea ec b):b.length≤ec∧ec≤9223372036854775807:=by
 rcases h.2 with⟨eb,eo,-,h1,h2⟩|⟨rfl,rfl⟩
 ·exact⟨h1,h2⟩
 ·exact⟨Nat.le_refl _,by omega⟩
section
variable {tb:Nat} {ga:Option Addr} {cap:Nat} {L:List An} {a:Nat}
theorem LZ (l:Lg) (hwf:l.wf) (hn:¬l.ok) (b:List Nat) (aW:Bool) (ea:Option Addr) (ec:Nat) (w:World) (h:iE w tb ga cap L a none) (ha:a≤L.length) :
 Calls Tryz.prog 61 #[.pointer (some ⟨tb,0,none⟩),l.val,.slice ea b.length ec,.bool aW] w fun e w'=>∃o:Ot,e =.returned (Mq o)∧GG w w' tb ga cap L a (eD (aP l) b aW) o:=by
 have pV:=fun W=>jc l hwf W
 rw[decide_eq_false hn]at pV
 have hT:eD (aP l) b aW =.done ⟨bW,false,0,1⟩:=by unfold eD;rw[if_pos (by exact hn)]
 rw[hT]
 obtain⟨T,hT'⟩:∃T,Pr.done (A:=An) (⟨bW,false,0,1⟩:Ot)=T:=⟨_,rfl⟩
 rw[hT']
 obtain⟨X,hX⟩:∃X,w.heap.size=X:=⟨_,rfl⟩
 have Qy:tb<X:=hX▸h.lt
 obtain⟨V1,hV1⟩:∃V,w.alloc (.cells (gm l) 23)=V:=⟨_,rfl⟩
 have s1:V1.heap.size=X+1:=by rw[←hV1,←hX];simp
 obtain⟨V2,hV2⟩:∃V,V1.alloc (.cells #[.int .i64 0,.int .i32 0,.int .i64 0,.int .i64 0] 39)=V:=⟨_,rfl⟩
 have s2:V2.heap.size=X+2:=by rw[←hV2];simp[s1]
 obtain⟨V3,IG⟩:∃V,V2.alloc (.cells #[.int .i64 0,.int .i32 0,.int .i64 0,.int .i64 0] 39)=V:=⟨_,rfl⟩
 have HX:=aC (IG▸(hV2▸(hV1▸(BN.fresh h ha T).new hX (.cells (gm l) 23)).new s1 (.cells #[.int .i64 0,.int .i32 0,.int .i64 0,.int .i64 0] 39)).new s2 (.cells #[.int .i64 0,.int .i32 0,.int .i64 0,.int .i64 0] 39))
 obtain⟨e0,e1,e2,e3⟩:=dI HX.out.b0
 obtain⟨d0,d1,d2,d3⟩:=eY HX.out.b0
 obtain⟨V4,GA⟩:∃W,(((V3.setCell ⟨X+2,0,none⟩ (.int .i64 0)).setCell ⟨X+2,1,none⟩ (.int .i32 0)).setCell ⟨X+2,2,none⟩ (.int .i64 0)).setCell ⟨X+2,3,none⟩ (.int .i64 0)=W:=⟨_,rfl⟩
 have hs4:=dF HX.out.b0 (.int .i64 0) (.int .i32 0) (.int .i64 0) (.int .i64 0)
 rw[GA]at hs4
 replace HX:=aC (HX.out.put (oH :=.cells #[.int .i64 0,.int .i32 0,.int .i64 0,.int .i64 0] 39) hs4.2 hs4.1 (by intro q hq;simp only[List.mem_cons,List.not_mem_nil,or_false]at hq;rcases hq with rfl|rfl<;>(dsimp only;omega)))
 obtain⟨n0,n1,n2,n3,n4,n5,n6⟩:=iT HX.out.tail.tail.b0
 clear hs4
 unfold Lg.val at pV ⊢
 clear h ha hT hwf hn
 go_enter Tryz.func61,Tryz.ntmps61
 go_wp2_with (first|(go_at_call 38;refine(pV _).mono ?_;clear pV;rintro e v38 ⟨rfl,hB⟩;replace HX:=aC (HX.out.below hB);clear hB;clear n0 n1 n2 n3 n4 n5 n6;obtain⟨n0,n1,n2,n3,n4,n5,n6⟩:=iT HX.out.tail.tail.b0;obtain⟨y0,y1,y2,y3⟩:=dI HX.out.b0;obtain⟨r0,r1,r2,r3⟩:=eY HX.out.tail.b0;obtain⟨z0,z1,z2,z3⟩:=dI HX.out.tail.b0))
 obtain⟨Z,hZ⟩:∃W,(((v38.setCell ⟨X+1,0,none⟩ (.int .i64 (0))).setCell ⟨X+1,1,none⟩ (.int .i32 (0))).setCell ⟨X+1,2,none⟩ (.int .i64 (0))).setCell ⟨X+1,3,none⟩ (.int .i64 (0))=W:=⟨_,rfl⟩
 have h4:=dF (HX.out.tail.b0) (.int .i64 (0)) (.int .i32 (0)) (.int .i64 (0)) (.int .i64 (0))
 rw[hZ]at h4 ⊢
 obtain⟨k0,k1,k2,k3⟩:=dI h4.1
 clear hZ z0 z1 z2 z3 r0 r1 r2 r3
 refine bodyPost_ret (v :=.tuple #[.agg #[.int .i64 (0),.int .i32 (0),.int .i64 (0),.int .i64 (0)],.bool false,.int .i64 0,.int .i64 1]) (by simp[results,Tryz.results61,go_sem,k0,k1,k2,k3]) rfl (⟨⟨bW,false,0,1⟩,rfl,.inl ⟨by show(1:Int)≠10;omega,a,by rw[hT'];exact HX.out.only h4.2 (by omega)⟩⟩)
theorem F6 (l:Lg) (hl:l.ok) (b:List Nat) (Ku:¬(b.length:Int)≤l.aV) (aW:Bool) (ea:Option Addr) (ec:Nat) (w:World) (h:iE w tb ga cap L a none) (ha:a≤L.length) :
 Calls Tryz.prog 61 #[.pointer (some ⟨tb,0,none⟩),l.val,.slice ea b.length ec,.bool aW] w fun e w'=>∃o:Ot,e =.returned (Mq o)∧GG w w' tb ga cap L a (eD (aP l) b aW) o:=by
 have pV:=fun W=>jc l hl.wf W
 rw[decide_eq_true hl]at pV
 have hT:eD (aP l) b aW =.done ⟨bW,false,0,4⟩:=by unfold eD;rw[if_neg (by intro hh;exact hh hl),if_pos (by show(b.length:Int)>l.aV;omega)]
 rw[hT]
 obtain⟨T,hT'⟩:∃T,Pr.done (A:=An) (⟨bW,false,0,4⟩:Ot)=T:=⟨_,rfl⟩
 rw[hT']
 have aab:(b.length:Int)>l.aV:=by omega
 obtain⟨X,hX⟩:∃X,w.heap.size=X:=⟨_,rfl⟩
 have Qy:tb<X:=hX▸h.lt
 obtain⟨V1,hV1⟩:∃V,w.alloc (.cells (gm l) 23)=V:=⟨_,rfl⟩
 have s1:V1.heap.size=X+1:=by rw[←hV1,←hX];simp
 obtain⟨V2,hV2⟩:∃V,V1.alloc (.cells #[.int .i64 0,.int .i32 0,.int .i64 0,.int .i64 0] 39)=V:=⟨_,rfl⟩
 have s2:V2.heap.size=X+2:=by rw[←hV2];simp[s1]
 obtain⟨V3,IG⟩:∃V,V2.alloc (.cells #[.int .i64 0,.int .i32 0,.int .i64 0,.int .i64 0] 39)=V:=⟨_,rfl⟩
 have HX:=aC (IG▸(hV2▸(hV1▸(BN.fresh h ha T).new hX (.cells (gm l) 23)).new s1 (.cells #[.int .i64 0,.int .i32 0,.int .i64 0,.int .i64 0] 39)).new s2 (.cells #[.int .i64 0,.int .i32 0,.int .i64 0,.int .i64 0] 39))
 obtain⟨e0,e1,e2,e3⟩:=dI HX.out.b0
 obtain⟨d0,d1,d2,d3⟩:=eY HX.out.b0
 obtain⟨V4,GA⟩:∃W,(((V3.setCell ⟨X+2,0,none⟩ (.int .i64 0)).setCell ⟨X+2,1,none⟩ (.int .i32 0)).setCell ⟨X+2,2,none⟩ (.int .i64 0)).setCell ⟨X+2,3,none⟩ (.int .i64 0)=W:=⟨_,rfl⟩
 have hs4:=dF HX.out.b0 (.int .i64 0) (.int .i32 0) (.int .i64 0) (.int .i64 0)
 rw[GA]at hs4
 replace HX:=aC (HX.out.put (oH :=.cells #[.int .i64 0,.int .i32 0,.int .i64 0,.int .i64 0] 39) hs4.2 hs4.1 (by intro q hq;simp only[List.mem_cons,List.not_mem_nil,or_false]at hq;rcases hq with rfl|rfl<;>(dsimp only;omega)))
 obtain⟨n0,n1,n2,n3,n4,n5,n6⟩:=iT HX.out.tail.tail.b0
 clear hs4
 unfold Lg.val at pV ⊢
 clear h ha hT hl
 go_enter Tryz.func61,Tryz.ntmps61
 go_wp2_with (first|(go_at_call 38;refine(pV _).mono ?_;clear pV;rintro e v38 ⟨rfl,hB⟩;replace HX:=aC (HX.out.below hB);clear hB;clear n0 n1 n2 n3 n4 n5 n6;obtain⟨n0,n1,n2,n3,n4,n5,n6⟩:=iT HX.out.tail.tail.b0;obtain⟨y0,y1,y2,y3⟩:=dI HX.out.b0;obtain⟨r0,r1,r2,r3⟩:=eY HX.out.tail.b0;obtain⟨z0,z1,z2,z3⟩:=dI HX.out.tail.b0))
 obtain⟨Z,hZ⟩:∃W,(((v38.setCell ⟨X+1,0,none⟩ (.int .i64 (0))).setCell ⟨X+1,1,none⟩ (.int .i32 (0))).setCell ⟨X+1,2,none⟩ (.int .i64 (0))).setCell ⟨X+1,3,none⟩ (.int .i64 (0))=W:=⟨_,rfl⟩
 have h4:=dF (HX.out.tail.b0) (.int .i64 (0)) (.int .i32 (0)) (.int .i64 (0)) (.int .i64 (0))
 rw[hZ]at h4 ⊢
 obtain⟨k0,k1,k2,k3⟩:=dI h4.1
 clear hZ z0 z1 z2 z3 r0 r1 r2 r3
 refine bodyPost_ret (v :=.tuple #[.agg #[.int .i64 (0),.int .i32 (0),.int .i64 (0),.int .i64 (0)],.bool false,.int .i64 0,.int .i64 4]) (by simp[results,Tryz.results61,go_sem,k0,k1,k2,k3]) rfl (⟨⟨bW,false,0,4⟩,rfl,.inl ⟨by show(4:Int)≠10;omega,a,by rw[hT'];exact HX.out.only h4.2 (by omega)⟩⟩)
end
