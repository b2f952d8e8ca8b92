import Derived.Test.YtlaogoehmndcjaaGreatDoorZ26
set_option linter.unusedSectionVars false
set_option maxRecDepth 1000000
set_option maxHeartbeats 3200000
set_option linter.unusedVariables false
set_option linter.unusedSimpArgs false
namespace Go.Proofs.YtlaogoehmndcjaaGreatDoor.Sy
open Go RowKit Lib Base Pr Ba
variable [Zn]
section
variable {tb:Nat} {ga:Option Addr} {cap:Nat} {L:List An} {a:Nat}
theorem LY (l:Lg) (hl:l.ok) (hw:o8 l) (b:List Nat) (hbl:b.length≤300) (Ku:(b.length:Int)≤l.aV) (aW:Bool) (ea:Option Addr) (ec:Nat) (w:World) (hD:kS w tb ea ec b) (h:iE w tb ga cap L a none) (ha:a≤L.length) :
 Calls Tryz.prog 61 #[.pointer (some ⟨tb,0,none⟩),l.val,.slice ea b.length ec,.bool aW] w fun e w'=>∃o:Ot,e =.returned (Mq o)∧GG w w' tb ga cap L a (eD (aP l) b aW) o:=by
 have hb:=mY hl
 have pV:=fun W=>jc l hl.wf W
 rw[decide_eq_true hl]at pV
 have c109:=fun W=>zY (b.length:Int) (by omega) W
 have hcl:=Cj (aP l) b aW hl Ku
 have IB:=DR (n:=(b.length:Int)) (by omega)
 have Ol:∀c,BG (aP l) b aW c =.ask fF (rO (l.base+3*l.term+8*(c%3)) (aU b.length)) fun raw=>AU (aP l) b aW (c%3) raw.v:=fun _=>rfl
 have hCK:∀part raw,AU (aP l) b aW part raw=if (jC part (aU b.length) raw).off+(jC part (aU b.length) raw).size>l.term then eO (aP l) (jC part (aU b.length) raw) (dh (aP l) (jC part (aU b.length) raw))else Ch (aP l) b aW (jC part (aU b.length) raw):=fun _ _=>rfl
 obtain⟨nd,hnd⟩:∃n,aU (b.length:Int)=n:=⟨_,rfl⟩
 rw[hnd]at c109 IB hcl
 simp only[hnd]at Ol hCK
 have c105:=fun W (a':Nat) (h:iE W tb ga cap L a' none) (ha:a'≤L.length)=>YO l hl hw nd ⟨by omega,by omega⟩ (BG (aP l) b aW) W h ha
 have c70:=fun p h0 h1 W=>uD l hl p h0 h1 W
 have x9:=fun p h0 h1 W=>p8 l hl p h0 h1 W
 have c107:=fun s hs W (a':Nat) (h:iE W tb ga cap L a' none) (ha:a'≤L.length)=>Rk l hl hw s hs W h ha
 have L6:=fun s h1 h2 h3 W=>Yi l hl hw s h1 h2 h3 W
 obtain⟨T,hT⟩:∃T,eD (aP l) b aW=T:=⟨_,rfl⟩
 rw[hT]at hcl ⊢
 rw[←hcl]at c105
 have aab:¬(b.length:Int)>l.aV:=by omega
 have u1:IntKind.u64.wrap nd=nd:=by rw[IntKind.wrap_u64];omega
 have RZ:=aC h
 obtain⟨X,hX⟩:∃X,w.heap.size=X:=⟨_,rfl⟩
 have Qy:tb<X:=hX▸h.lt
 obtain⟨V1,hV1⟩:∃V,w.alloc (.cells (gm l) 23)=V:=⟨_,rfl⟩
 have s1:V1.heap.size=X+1:=by rw[←hV1,←hX];simp
 obtain⟨V2,hV2⟩:∃V,V1.alloc (.cells #[.int .i64 0,.int .i32 0,.int .i64 0,.int .i64 0] 39)=V:=⟨_,rfl⟩
 have s2:V2.heap.size=X+2:=by rw[←hV2];simp[s1]
 obtain⟨V3,IG⟩:∃V,V2.alloc (.cells #[.int .i64 0,.int .i32 0,.int .i64 0,.int .i64 0] 39)=V:=⟨_,rfl⟩
 have HX:=aC (IG▸(hV2▸(hV1▸(BN.fresh h ha T).new hX (.cells (gm l) 23)).new s1 (.cells #[.int .i64 0,.int .i32 0,.int .i64 0,.int .i64 0] 39)).new s2 (.cells #[.int .i64 0,.int .i32 0,.int .i64 0,.int .i64 0] 39))
 obtain⟨e0,e1,e2,e3⟩:=dI HX.out.b0
 obtain⟨d0,d1,d2,d3⟩:=eY HX.out.b0
 obtain⟨V4,GA⟩:∃W,(((V3.setCell ⟨X+2,0,none⟩ (.int .i64 0)).setCell ⟨X+2,1,none⟩ (.int .i32 0)).setCell ⟨X+2,2,none⟩ (.int .i64 0)).setCell ⟨X+2,3,none⟩ (.int .i64 0)=W:=⟨_,rfl⟩
 have hs4:=dF HX.out.b0 (.int .i64 0) (.int .i32 0) (.int .i64 0) (.int .i64 0)
 rw[GA]at hs4
 replace HX:=aC (HX.out.put (oH :=.cells #[.int .i64 0,.int .i32 0,.int .i64 0,.int .i64 0] 39) hs4.2 hs4.1 (by intro q hq;simp only[List.mem_cons,List.not_mem_nil,or_false]at hq;rcases hq with rfl|rfl<;>(dsimp only;omega)))
 obtain⟨n0,n1,n2,n3,n4,n5,n6⟩:=iT HX.out.tail.tail.b0
 clear hs4
 have HB:=aC hD
 have HP:=aC (aR hl hw)
 have HA:=aC (aR Ol hCK)
 unfold Lg.val at pV c105 x9 c70 c107 L6 ⊢
 clear h ha hw hT hnd hl hD hcl Ol hCK e0 e1 e2 e3 d0 d1 d2 d3
 obtain⟨e0,e1,e2,e3⟩:=dI (show V3.heap[X+2]? = some (.cells #[.int .i64 0,.int .i32 0,.int .i64 0,.int .i64 0] 39)from IG▸s2▸aZ _ _)
 obtain⟨d0,d1,d2,d3⟩:=eY (show V3.heap[X+2]? = some (.cells #[.int .i64 0,.int .i32 0,.int .i64 0,.int .i64 0] 39)from IG▸s2▸aZ _ _)
 go_enter Tryz.func61,Tryz.ntmps61
 go_wp2_with (first|(go_at_call 38;refine(pV _).mono ?_;clear pV;rintro e v38 ⟨rfl,hB⟩;replace HX:=aC (HX.out.below hB);clear hB;clear n0 n1 n2 n3 n4 n5 n6;obtain⟨n0,n1,n2,n3,n4,n5,n6⟩:=iT HX.out.tail.tail.b0)|(go_at_call 109;refine(c109 _).mono ?_;clear c109;rintro e v109 ⟨rfl,hw'⟩;subst v109))
 refine(c105 _ _ HX.out.mg HX.out.on.le).mono ?_
 clear c105 n0 n1 n2 n3 n4 n5 n6 GA IG hV2 hV1 e0 e1 e2 e3 d0 d1 d2 d3 s1 s2
 rintro e V (⟨cn,a1,hc,rfl,hK⟩|⟨ev,a1,hev,rfl,hK⟩|⟨rfl,hK⟩)
 ·obtain⟨p,hp⟩:∃p,cn%3=p:=⟨_,rfl⟩
  have hp0:0≤p∧p<3:=by omega
  replace c70:=fun W=>c70 p hp0.1 hp0.2 W
  replace x9:=fun W=>x9 p hp0.1 hp0.2 W
  obtain⟨tl,htl⟩:∃t,l.base+3*l.term+8*p=t:=⟨_,rfl⟩
  obtain⟨pt,hpt⟩:∃t,l.base+l.term*p=t:=⟨_,rfl⟩
  have acH:0≤pt∧pt≤200000:=by
   rw[←hpt]
   have:p=0∨p=1∨p=2:=by omega
   rcases this with e|e|e<;>subst e<;>omega
  rw[htl]at c70
  rw[hpt]at x9
  have e9:cn.tmod 3=p:=by rw[Int.tmod_eq_emod_of_nonneg (by omega)];exact hp
  have e10:IntKind.i64.wrap p=p:=by rw[IntKind.wrap_i64];omega
  have e11:IntKind.u32.wrap p=p:=by rw[IntKind.wrap_u32];omega
  have hadd:=HA.out.1 cn
  rw[hp,htl]at hadd
  replace HX:=aC ((HX.out.step hK).as hadd)
  have HPT:=aC hpt
  clear hK hadd hp htl hpt
  obtain⟨n0,n1,n2,n3,n4,n5,n6⟩:=iT HX.out.tail.tail.b0
  go_wp2_with (first|(go_at_call 70;refine(c70 _).mono ?_;clear c70;rintro e v70 ⟨rfl,hB⟩;replace HX:=aC (HX.out.below hB);clear hB;clear n0 n1 n2 n3 n4 n5 n6))
  refine(Vd tl nd HX.out.mg HX.out.on.le fF (fun raw=>AU (aP l) b aW p raw.v)).mono ?_
  rintro e V5 (⟨z,hz,rfl,hK⟩|⟨rfl,hK⟩)
  ·obtain⟨zv,hzv⟩:∃v,z.v=v:=⟨_,rfl⟩
   rw[hzv]at hz hK ⊢
   clear hzv
   have nW:=fun W=>uA zv hz W
   have jK:=HA.out.2 p zv
   have hsl:jC p nd zv=⟨p,bF (zv/4294967296),zv%4294967296,nd⟩:=rfl
   obtain⟨tm,Cb⟩:∃v,bF (zv/4294967296)=v:=⟨_,rfl⟩
   obtain⟨of,hof⟩:∃v,zv%4294967296=v:=⟨_,rfl⟩
   have rG : -2147483648≤tm∧tm<2147483648:=Cb▸uH _
   have IA:0≤of∧of<4294967296:=by omega
   rw[Cb,hof]at nW hsl
   rw[hsl]at jK
   dsimp only at jK
   replace HX:=aC (HX.out.step hK)
   have yI:MC ⟨p,tm,of,nd⟩:=⟨rG,IA,⟨by show 0≤nd;omega,by show nd≤100000;omega⟩⟩
   clear Cb hof hsl hz hK
   have u5:IntKind.i64.wrap of=of:=by rw[IntKind.wrap_i64];omega
   have u6:IntKind.i64.wrap (of+nd)=of+nd:=by rw[IntKind.wrap_i64];omega
   have u10:IntKind.i64.wrap (pt+of)=pt+of:=by rw[IntKind.wrap_i64];omega
   obtain⟨oi,hoi⟩:∃o,IntKind.i32.wrap of=o:=⟨_,rfl⟩
   have Iz:of<2147483648→oi=of:=fun hh=>by rw[←hoi,IntKind.wrap_i32];omega
   obtain⟨Y,hY⟩:∃Y,V5.heap.size=Y:=⟨_,rfl⟩
   obtain⟨W1,hW1⟩:∃W,V5.alloc (.cells #[.int .i64 p,.int .i32 tm,.int .i64 of,.int .i64 nd] 39)=W:=⟨_,rfl⟩
   have t1:W1.heap.size=Y+1:=by rw[←hW1,←hY];simp
   obtain⟨W2,hW2⟩:∃W,W1.alloc (.cells #[.int .i32 0,.int .u8 0,.int .u8 0,.int .u16 0,.int .i32 oi,.int .i32 l.dQ,.int .i32 l.str,.int .i32 tm,.int .u64 0] 160)=W:=⟨_,rfl⟩
   have H1:=aC (hW1▸HX.out.new hY (.cells #[.int .i64 p,.int .i32 tm,.int .i64 of,.int .i64 nd] 39))
   have H2:=aC (hW2▸H1.out.new t1 (.cells #[.int .i32 0,.int .u8 0,.int .u8 0,.int .u16 0,.int .i32 oi,.int .i32 l.dQ,.int .i32 l.str,.int .i32 tm,.int .u64 0] 160))
   have Vn:X+3≤Y:=by have h1:=(Array.getElem?_eq_some_iff.1 HX.out.b0).1;rw[hY]at h1;exact h1
   have z8:W2.frozen? ⟨Y+1,8,none⟩=false:=by simp[World.frozen?,H2.out.b0]
   have z9:W2.cell? ⟨Y+1,8,none⟩=some (.int .u64 0):=by simp[World.cell?,H2.out.b0]
   obtain⟨W3,hW3⟩:∃W,W2.setCell ⟨Y+1,8,none⟩ (.int .u64 0)=W:=⟨_,rfl⟩
   have H3:=aC (H2.out.put (Only.set W2 8 (.int .u64 0)) (iw H2.out.b0 8 (.int .u64 0)) (by intro q hq;simp only[List.mem_cons,List.not_mem_nil,or_false]at hq;rcases hq with rfl|rfl|rfl|rfl<;>(dsimp only;omega)))
   rw[hW3]at H3
   obtain⟨l0,l1,l2,l3,l4,l5,l6⟩:=iT H1.out.tail.tail.tail.b0
   obtain⟨b0,b1,b2,b3,b4,b5,b6⟩:=iT H3.out.tail.tail.tail.tail.b0
   by_cases hbig:of+nd>l.term
   ·rw[if_pos hbig]at jK
    by_cases hlo:of<l.term
    ·obtain rfl:oi=of:=Iz (by omega)
     have v8:IntKind.i64.wrap (l.term-oi)=l.term-oi:=by rw[IntKind.wrap_i64];omega
     have v9:IntKind.i32.wrap (l.term-oi)=l.term-oi:=by rw[IntKind.wrap_i32];omega
     have hpe:eO (aP l) ⟨p,tm,oi,nd⟩ (dh (aP l) ⟨p,tm,oi,nd⟩)=frameT (aP l) (aS ⟨p,tm,oi,nd⟩) (pt+oi) (l.term-oi) 0 0 oi tm [] (dh (aP l) ⟨p,tm,oi,nd⟩):=by
      unfold eO
      rw[if_pos (show(⟨p,tm,oi,nd⟩:jU).off<(aP l).term from hlo),←HPT.out]
      rfl
     replace H3:=aC (H3.out.as (jK.trans hpe))
     go_wp2_with (first|(go_at_call 71;refine(nW _).mono ?_;clear nW;rintro e v71 ⟨rfl,hw'⟩;subst v71)|(go_at_call 69;refine(x9 _).mono ?_;clear x9;rintro e v69 ⟨rfl,hB⟩;have H4:=aC (H3.out.below hB);clear hB;clear b0 b1 b2 b3 b4 b5 b6;obtain⟨b0,b1,b2,b3,b4,b5,b6⟩:=iT H4.out.tail.tail.tail.tail.b0;obtain⟨m0,m1,m2,m3⟩:=dI H4.out.tail.b0;obtain⟨f0,f1,f2,f3,f4,f5,f6,f7,f8⟩:=Be H4.out.b0;obtain⟨g0,g2,g3,g4⟩:=tL H4.out.b0))
     obtain⟨V9,Ub⟩:∃W,v69.setCell ⟨Y+1,0,none⟩ (.int .i32 (l.term-oi))=W:=⟨_,rfl⟩
     rw[Ub]
     have H5:=aC (H4.out.put (oH :=.cells (l9 l (l.term-oi) 0 0 oi tm) 160) (Only.set v69 0 (.int .i32 (l.term-oi))) (iw H4.out.b0 0 (.int .i32 (l.term-oi))) (by intro q hq;simp only[List.mem_cons,List.not_mem_nil,or_false]at hq;rcases hq with rfl|rfl|rfl|rfl<;>(dsimp only;omega)))
     rw[Ub]at H5
     clear hpe jK Ub H4 H3 H2 H1 hW3 hW2 hW1 z8 z9 l0 l1 l2 l3 l4 l5 l6 b0 b1 b2 b3 b4 b5 b6 m0 m1 m2 m3 f0 f1 f2 f3 f4 f5 f6 f7 f8 g0 g2 g3 g4
     refine(qx (aS ⟨p,tm,oi,nd⟩) (dh (aP l) ⟨p,tm,oi,nd⟩) l HP.out.2 (pt+oi) (l.term-oi) 0 0 oi tm (by omega) (by omega) (by omega) (by omega) (by omega) rG [] (by simp) none 0 (by simp) V9 ⟨rfl,fun j x hj=>by cases hj⟩ H5.out.mg H5.out.on.le).mono ?_
     rintro e j3 (⟨a2,rfl,hK⟩|⟨rfl,hK⟩)
     ·have H6:=aC (H5.out.step hK)
      clear hK H5
      go_wp2_with (fail)
      obtain⟨n0,n1,n2,n3,n4,n5,n6⟩:=iT H6.out.tail.tail.tail.tail.b0
      obtain⟨y0,y1,y2,y3⟩:=dI H6.out.tail.b0
      have Gj:∀V',BN w V' [(Y+1,.cells (l9 l (l.term-oi) 0 0 oi tm) 160),(Y,.cells #[.int .i64 p,.int .i32 tm,.int .i64 oi,.int .i64 nd] 39),(X+2,.cells #[.int .i64 0,.int .i32 0,.int .i64 0,.int .i64 0] 39),(X+1,.cells #[.int .i64 0,.int .i32 0,.int .i64 0,.int .i64 0] 39),(X,.cells (gm l) 23)] tb ga cap L a T (dh (aP l) ⟨p,tm,oi,nd⟩) a2→Calls Tryz.prog 107 #[.pointer (some ⟨tb,0,none⟩),.agg (gm l),.agg #[.int .i64 p,.int .i32 tm,.int .i64 oi,.int .i64 nd]] V' fun e w'=>∃ev:Int,e =.returned (.int .i64 ev)∧GG w w' tb ga cap L a T ⟨⟨p,tm,oi,nd⟩,true,0,ev⟩∧∀q∈([(Y+1,.cells (l9 l (l.term-oi) 0 0 oi tm) 160),(Y,.cells #[.int .i64 p,.int .i32 tm,.int .i64 oi,.int .i64 nd] 39),(X+2,.cells #[.int .i64 0,.int .i32 0,.int .i64 0,.int .i64 0] 39),(X+1,.cells #[.int .i64 0,.int .i32 0,.int .i64 0,.int .i64 0] 39),(X,.cells (gm l) 23)]:List (Nat×Obj)),w'.heap[q.1]? = some q.2:=fun V' hV'=>by
       refine(c107 ⟨p,tm,oi,nd⟩ yI.tm V' _ hV'.mg hV'.on.le).mono ?_
       rintro e w' (⟨ev,a3,hev,rfl,hK⟩|⟨rfl,hK⟩)
       ·exact⟨ev,rfl,.inl ⟨by show ev≠10;omega,a3,(hV'.step hK).on⟩,(hV'.step hK).box⟩
       ·exact⟨10,rfl,.inr ⟨rfl,hV'.off hK⟩,hV'.jg hK⟩
      have pg:=aC (fO H6.out.tail.tail.tail.tail.b0 H6.out.tail.b0)
      first
      | (go_region_held (fun W'=>W'.cell? ⟨X,0,none⟩=some (.int .i64 l.base)∧W'.cell? ⟨X,1,none⟩=some (.int .i64 l.term)∧W'.cell? ⟨X,2,none⟩=some (.int .i64 l.aV)∧W'.cell? ⟨X,3,none⟩=some (.int .i64 l.subs)∧W'.cell? ⟨X,4,none⟩=some (.int .i32 l.bG)∧W'.cell? ⟨X,5,none⟩=some (.int .i32 l.dQ)∧W'.cell? ⟨X,6,none⟩=some (.int .i32 l.str)∧W'.cell? ⟨Y,0,none⟩=some (.int .i64 p)∧W'.cell? ⟨Y,1,none⟩=some (.int .i32 tm)∧W'.cell? ⟨Y,2,none⟩=some (.int .i64 oi)∧W'.cell? ⟨Y,3,none⟩=some (.int .i64 nd))
          (first|exact ou.out|exact o9.out|exact pg.out)
          (first|(go_at_call 107;refine(Gj _ (H6.out.below (Below.drew (Below.refl _ j3)))).mono ?_;rintro e v107 ⟨ev,rfl,hO,hbx⟩;have q0:=hbx (Y,.cells #[.int .i64 p,.int .i32 tm,.int .i64 oi,.int .i64 nd] 39) (List.mem_cons_of_mem _ (List.mem_cons_self ..));have q1:=hbx (X+1,.cells #[.int .i64 0,.int .i32 0,.int .i64 0,.int .i64 0] 39) (List.mem_cons_of_mem _ (List.mem_cons_of_mem _ (List.mem_cons_of_mem _ (List.mem_cons_self ..))));have q2:=hbx (X,.cells (gm l) 23) (List.mem_cons_of_mem _ (List.mem_cons_of_mem _ (List.mem_cons_of_mem _ (List.mem_cons_of_mem _ (List.mem_cons_self ..)))));have o9:=aC (fO q2 q0);obtain⟨r0,r1,r2,r3⟩:=eY q1;obtain⟨z0,z1,z2,z3⟩:=dI q1;have h4:=dF q1 (.int .i64 p) (.int .i32 tm) (.int .i64 oi) (.int .i64 nd);obtain⟨Z,hZ⟩:∃W,(((v107.setCell ⟨X+1,0,none⟩ (.int .i64 p)).setCell ⟨X+1,1,none⟩ (.int .i32 tm)).setCell ⟨X+1,2,none⟩ (.int .i64 oi)).setCell ⟨X+1,3,none⟩ (.int .i64 nd)=W:=⟨_,rfl⟩;rw[hZ]at h4;have ou:=aC (fO ((h4.2.block X (Array.getElem?_eq_some_iff.1 q2).1 (by omega)).trans q2) ((h4.2.block Y (Array.getElem?_eq_some_iff.1 q0).1 (by omega)).trans q0));have HO:=aC hO;have H9:=aC (aR h4 q1);clear hO hbx h4 q0 q1 q2)))|fail
      go_wp2
      obtain⟨k0,k1,k2,k3⟩:=dI H9.out.1.1
      refine bodyPost_ret (v :=.tuple #[.agg #[.int .i64 p,.int .i32 tm,.int .i64 oi,.int .i64 nd],.bool true,.int .i64 0,.int .i64 ev]) (by simp[results,Tryz.results61,go_sem,k0,k1,k2,k3]) rfl ⟨⟨⟨p,tm,oi,nd⟩,true,0,ev⟩,rfl,HO.out.put RZ.out H9.out.2 H9.out.1.2 (by omega) (by omega)⟩
     ·skip
      have jh:=aC (H5.out.jg hK)
      have HO:=aC (H5.out.off hK)
      clear hK
      have q1:=jh.out (X+1,.cells #[.int .i64 0,.int .i32 0,.int .i64 0,.int .i64 0] 39) (List.mem_cons_of_mem _ (List.mem_cons_of_mem _ (List.mem_cons_of_mem _ (List.mem_cons_self ..))))
      have q0:=jh.out (Y,.cells #[.int .i64 p,.int .i32 tm,.int .i64 oi,.int .i64 nd] 39) (List.mem_cons_of_mem _ (List.mem_cons_self ..))
      obtain⟨y0,y1,y2,y3⟩:=dI q0
      obtain⟨r0,r1,r2,r3⟩:=eY (q1)
      obtain⟨z0,z1,z2,z3⟩:=dI (q1)
      have HQ:=aC q1
      clear q0
      go_wp2
      obtain⟨Z,hZ⟩:∃W,(((j3.setCell ⟨X+1,0,none⟩ (.int .i64 (p))).setCell ⟨X+1,1,none⟩ (.int .i32 (tm))).setCell ⟨X+1,2,none⟩ (.int .i64 (oi))).setCell ⟨X+1,3,none⟩ (.int .i64 (nd))=W:=⟨_,rfl⟩
      have h4:=dF (HQ.out) (.int .i64 (p)) (.int .i32 (tm)) (.int .i64 (oi)) (.int .i64 (nd))
      rw[hZ]at h4 ⊢
      obtain⟨k0,k1,k2,k3⟩:=dI h4.1
      clear hZ z0 z1 z2 z3 r0 r1 r2 r3
      refine bodyPost_ret (v :=.tuple #[.agg #[.int .i64 (p),.int .i32 (tm),.int .i64 (oi),.int .i64 (nd)],.bool true,.int .i64 0,.int .i64 10]) (by simp[results,Tryz.results61,go_sem,k0,k1,k2,k3]) rfl (⟨⟨⟨p,tm,oi,nd⟩,true,0,10⟩,rfl,.inr ⟨rfl,HO.out.put HQ.out h4.2 (by omega) (by omega)⟩⟩)
    ·have hpe:eO (aP l) ⟨p,tm,of,nd⟩ (dh (aP l) ⟨p,tm,of,nd⟩)=dh (aP l) ⟨p,tm,of,nd⟩:=by
      unfold eO
      rw[if_neg (show ¬(⟨p,tm,of,nd⟩:jU).off<(aP l).term from hlo)]
     replace H3:=aC (H3.out.as (jK.trans hpe))
     go_wp2_with (first|(go_at_call 71;refine(nW _).mono ?_;clear nW;rintro e v71 ⟨rfl,hw'⟩;subst v71)|(go_at_call 69;refine(x9 _).mono ?_;clear x9;rintro e v69 ⟨rfl,hB⟩;have H4:=aC (H3.out.below hB);clear hB;clear b0 b1 b2 b3 b4 b5 b6;obtain⟨b0,b1,b2,b3,b4,b5,b6⟩:=iT H4.out.tail.tail.tail.tail.b0;obtain⟨m0,m1,m2,m3⟩:=dI H4.out.tail.b0;obtain⟨f0,f1,f2,f3,f4,f5,f6,f7,f8⟩:=Be H4.out.b0;obtain⟨g0,g2,g3,g4⟩:=tL H4.out.b0))
     obtain⟨a2,ha2⟩:∃k,a1+1=k:=⟨_,rfl⟩
     rw[ha2]at H4
     clear hpe jK H3 H2 H1 hW3 hW2 hW1 z8 z9 l0 l1 l2 l3 l4 l5 l6 b0 b1 b2 b3 b4 b5 b6 m0 m1 m2 m3 f0 f1 f2 f3 f4 f5 f6 f7 f8 g0 g2 g3 g4
     obtain⟨n0,n1,n2,n3,n4,n5,n6⟩:=iT H4.out.tail.tail.tail.tail.b0
     obtain⟨y0,y1,y2,y3⟩:=dI H4.out.tail.b0
     have Gj:∀V',BN w V' [(Y+1,.cells #[.int .i32 0,.int .u8 0,.int .u8 0,.int .u16 0,.int .i32 oi,.int .i32 l.dQ,.int .i32 l.str,.int .i32 tm,.int .u64 0] 160),(Y,.cells #[.int .i64 p,.int .i32 tm,.int .i64 of,.int .i64 nd] 39),(X+2,.cells #[.int .i64 0,.int .i32 0,.int .i64 0,.int .i64 0] 39),(X+1,.cells #[.int .i64 0,.int .i32 0,.int .i64 0,.int .i64 0] 39),(X,.cells (gm l) 23)] tb ga cap L a T (dh (aP l) ⟨p,tm,of,nd⟩) a2→Calls Tryz.prog 107 #[.pointer (some ⟨tb,0,none⟩),.agg (gm l),.agg #[.int .i64 p,.int .i32 tm,.int .i64 of,.int .i64 nd]] V' fun e w'=>∃ev:Int,e =.returned (.int .i64 ev)∧GG w w' tb ga cap L a T ⟨⟨p,tm,of,nd⟩,true,0,ev⟩∧∀q∈([(Y+1,.cells #[.int .i32 0,.int .u8 0,.int .u8 0,.int .u16 0,.int .i32 oi,.int .i32 l.dQ,.int .i32 l.str,.int .i32 tm,.int .u64 0] 160),(Y,.cells #[.int .i64 p,.int .i32 tm,.int .i64 of,.int .i64 nd] 39),(X+2,.cells #[.int .i64 0,.int .i32 0,.int .i64 0,.int .i64 0] 39),(X+1,.cells #[.int .i64 0,.int .i32 0,.int .i64 0,.int .i64 0] 39),(X,.cells (gm l) 23)]:List (Nat×Obj)),w'.heap[q.1]? = some q.2:=fun V' hV'=>by
      refine(c107 ⟨p,tm,of,nd⟩ yI.tm V' _ hV'.mg hV'.on.le).mono ?_
      rintro e w' (⟨ev,a3,hev,rfl,hK⟩|⟨rfl,hK⟩)
      ·exact⟨ev,rfl,.inl ⟨by show ev≠10;omega,a3,(hV'.step hK).on⟩,(hV'.step hK).box⟩
      ·exact⟨10,rfl,.inr ⟨rfl,hV'.off hK⟩,hV'.jg hK⟩
     have pg:=aC (fO H4.out.tail.tail.tail.tail.b0 H4.out.tail.b0)
     first
     | (go_region_held (fun W'=>W'.cell? ⟨X,0,none⟩=some (.int .i64 l.base)∧W'.cell? ⟨X,1,none⟩=some (.int .i64 l.term)∧W'.cell? ⟨X,2,none⟩=some (.int .i64 l.aV)∧W'.cell? ⟨X,3,none⟩=some (.int .i64 l.subs)∧W'.cell? ⟨X,4,none⟩=some (.int .i32 l.bG)∧W'.cell? ⟨X,5,none⟩=some (.int .i32 l.dQ)∧W'.cell? ⟨X,6,none⟩=some (.int .i32 l.str)∧W'.cell? ⟨Y,0,none⟩=some (.int .i64 p)∧W'.cell? ⟨Y,1,none⟩=some (.int .i32 tm)∧W'.cell? ⟨Y,2,none⟩=some (.int .i64 of)∧W'.cell? ⟨Y,3,none⟩=some (.int .i64 nd))
         (first|exact ou.out|exact o9.out|exact pg.out)
         (first|(go_at_call 107;refine(Gj _ (H4.out.below (Below.drew (Below.refl _ v69)))).mono ?_;rintro e v107 ⟨ev,rfl,hO,hbx⟩;have q0:=hbx (Y,.cells #[.int .i64 p,.int .i32 tm,.int .i64 of,.int .i64 nd] 39) (List.mem_cons_of_mem _ (List.mem_cons_self ..));have q1:=hbx (X+1,.cells #[.int .i64 0,.int .i32 0,.int .i64 0,.int .i64 0] 39) (List.mem_cons_of_mem _ (List.mem_cons_of_mem _ (List.mem_cons_of_mem _ (List.mem_cons_self ..))));have q2:=hbx (X,.cells (gm l) 23) (List.mem_cons_of_mem _ (List.mem_cons_of_mem _ (List.mem_cons_of_mem _ (List.mem_cons_of_mem _ (List.mem_cons_self ..)))));have o9:=aC (fO q2 q0);obtain⟨r0,r1,r2,r3⟩:=eY q1;obtain⟨z0,z1,z2,z3⟩:=dI q1;have h4:=dF q1 (.int .i64 p) (.int .i32 tm) (.int .i64 of) (.int .i64 nd);obtain⟨Z,hZ⟩:∃W,(((v107.setCell ⟨X+1,0,none⟩ (.int .i64 p)).setCell ⟨X+1,1,none⟩ (.int .i32 tm)).setCell ⟨X+1,2,none⟩ (.int .i64 of)).setCell ⟨X+1,3,none⟩ (.int .i64 nd)=W:=⟨_,rfl⟩;rw[hZ]at h4;have ou:=aC (fO ((h4.2.block X (Array.getElem?_eq_some_iff.1 q2).1 (by omega)).trans q2) ((h4.2.block Y (Array.getElem?_eq_some_iff.1 q0).1 (by omega)).trans q0));have HO:=aC hO;have H9:=aC (aR h4 q1);clear hO hbx h4 q0 q1 q2)))|fail
     go_wp2
     obtain⟨k0,k1,k2,k3⟩:=dI H9.out.1.1
     refine bodyPost_ret (v :=.tuple #[.agg #[.int .i64 p,.int .i32 tm,.int .i64 of,.int .i64 nd],.bool true,.int .i64 0,.int .i64 ev]) (by simp[results,Tryz.results61,go_sem,k0,k1,k2,k3]) rfl ⟨⟨⟨p,tm,of,nd⟩,true,0,ev⟩,rfl,HO.out.put RZ.out H9.out.2 H9.out.1.2 (by omega) (by omega)⟩
   ·rw[if_neg hbig]at jK
    obtain rfl:oi=of:=Iz (by omega)
    have hlt:oi≤8192:=by omega
    have v8:IntKind.i64.wrap (32+(b.length:Int))=32+(b.length:Int):=by rw[IntKind.wrap_i64];omega
    have v9:IntKind.i32.wrap (32+(b.length:Int))=32+(b.length:Int):=by rw[IntKind.wrap_i32];omega
    have v10:IntKind.i64.wrap (pt+oi+32)=pt+oi+32:=by rw[IntKind.wrap_i64];omega
    have v11:IntKind.i64.wrap (pt+oi+4)=pt+oi+4:=by rw[IntKind.wrap_i64];omega
    have v12:IntKind.u64.wrap (32+(b.length:Int))=32+(b.length:Int):=by rw[IntKind.wrap_u64];omega
    obtain⟨FN,hFN⟩:∃q,Pr.done (A:=An) (⟨⟨p,tm,oi,nd⟩,true,fI (aP l) ⟨p,tm,oi,nd⟩,0⟩:Ot)=q:=⟨_,rfl⟩
    have hdc:Ch (aP l) b aW ⟨p,tm,oi,nd⟩=nM (aP l) (aS ⟨p,tm,oi,nd⟩) (pt+oi) (32+(b.length:Int)) 192 1 oi tm (inT (aS ⟨p,tm,oi,nd⟩) (xW aW (aS ⟨p,tm,oi,nd⟩) (pt+oi) (32+(b.length:Int)) FN) 200 (pt+oi+32) b):=by
     rw[←HPT.out,←hFN]
     rfl
    replace H3:=aC (H3.out.as (jK.trans hdc))
    go_wp2_with (first|(go_at_call 71;refine(nW _).mono ?_;clear nW;rintro e v71 ⟨rfl,hw'⟩;subst v71)|(go_at_call 69;refine(x9 _).mono ?_;clear x9;rintro e v69 ⟨rfl,hB⟩;have H4:=aC (H3.out.below hB);clear hB;clear b0 b1 b2 b3 b4 b5 b6;obtain⟨b0,b1,b2,b3,b4,b5,b6⟩:=iT H4.out.tail.tail.tail.tail.b0;obtain⟨m0,m1,m2,m3⟩:=dI H4.out.tail.b0;obtain⟨f0,f1,f2,f3,f4,f5,f6,f7,f8⟩:=Be H4.out.b0;obtain⟨g0,g2,g3,g4⟩:=tL H4.out.b0))
    obtain⟨V9,Ub⟩:∃W,((v69.setCell ⟨Y+1,3,none⟩ (.int .u16 1)).setCell ⟨Y+1,2,none⟩ (.int .u8 192)).setCell ⟨Y+1,0,none⟩ (.int .i32 (32+(b.length:Int)))=W:=⟨_,rfl⟩
    rw[Ub]
    have H5:=aC (H4.out.put (oH :=.cells (l9 l (32+(b.length:Int)) 192 1 oi tm) 160) (((Only.set v69 3 (.int .u16 1)).trans (Only.set _ 2 (.int .u8 192))).trans (Only.set _ 0 (.int .i32 (32+(b.length:Int))))) (iw (iw (iw H4.out.b0 3 (.int .u16 1)) 2 (.int .u8 192)) 0 (.int .i32 (32+(b.length:Int)))) (by intro q hq;simp only[List.mem_cons,List.not_mem_nil,or_false]at hq;rcases hq with rfl|rfl|rfl|rfl<;>(dsimp only;omega)))
    rw[Ub]at H5
    clear hdc jK Ub H4 H3 H2 H1 hW3 hW2 hW1 z8 z9 l0 l1 l2 l3 l4 l5 l6 b0 b1 b2 b3 b4 b5 b6 m0 m1 m2 m3 f0 f1 f2 f3 f4 f5 f6 f7 f8 g0 g2 g3 g4
    refine(headD (aS ⟨p,tm,oi,nd⟩) (inT (aS ⟨p,tm,oi,nd⟩) (xW aW (aS ⟨p,tm,oi,nd⟩) (pt+oi) (32+(b.length:Int)) FN) 200 (pt+oi+32) b) l HP.out.2 (pt+oi) (32+(b.length:Int)) 192 1 oi tm (by omega) (by omega) (by omega) (by omega) (by omega) rG V9 H5.out.mg H5.out.on.le).mono ?_
    rintro e VG (⟨a3,rfl,hK⟩|⟨rfl,hK⟩)
    ·have H6:=aC (H5.out.step hK)
     clear hK H5
     go_wp2_with (fail)
     refine(ain (aS ⟨p,tm,oi,nd⟩) (xW aW (aS ⟨p,tm,oi,nd⟩) (pt+oi) (32+(b.length:Int)) FN) b (by omega) (pt+oi+32) (by omega) ea ec HB.out.cap H6.out.mg H6.out.on.le (HB.out.1.only H6.out.on.ta.2)).mono ?_
     rintro e VF (⟨a4,rfl,hK⟩|⟨rfl,hK⟩)
     ·have H7:=aC (H6.out.step hK)
      clear hK H6
      have f0:=(Be H7.out.b0).1
      cases aW with
      | true =>
        go_wp2_with (fail)
        refine(qK (pt+oi) 4 (32+(b.length:Int)) H7.out.mg H7.out.on.le (aS ⟨p,tm,oi,nd⟩) FN).mono ?_
        rintro e v76 (⟨rfl,hK⟩|⟨rfl,hK⟩)
        ·have Mj:=aC ((H7.out.step hK).as hFN.symm)
         clear hK H7 f0
         obtain⟨n0,n1,n2,n3,n4,n5,n6⟩:=iT Mj.out.tail.tail.tail.tail.b0
         obtain⟨y0,y1,y2,y3⟩:=dI Mj.out.tail.b0
         have xI:=fun W=>L6 ⟨p,tm,oi,nd⟩ yI.tm yI.off yI.sz W
         obtain⟨pe,hpe⟩:∃q,fI (aP l) ⟨p,tm,oi,nd⟩=q:=⟨_,rfl⟩
         rw[hpe]at xI Mj
         clear hpe
         have pg:=aC (fO Mj.out.tail.tail.tail.tail.b0 Mj.out.tail.b0)
         go_wp2_with (fail)
         first
         | (go_region_held (fun W'=>W'.cell? ⟨X,0,none⟩=some (.int .i64 l.base)∧W'.cell? ⟨X,1,none⟩=some (.int .i64 l.term)∧W'.cell? ⟨X,2,none⟩=some (.int .i64 l.aV)∧W'.cell? ⟨X,3,none⟩=some (.int .i64 l.subs)∧W'.cell? ⟨X,4,none⟩=some (.int .i32 l.bG)∧W'.cell? ⟨X,5,none⟩=some (.int .i32 l.dQ)∧W'.cell? ⟨X,6,none⟩=some (.int .i32 l.str)∧W'.cell? ⟨Y,0,none⟩=some (.int .i64 p)∧W'.cell? ⟨Y,1,none⟩=some (.int .i32 tm)∧W'.cell? ⟨Y,2,none⟩=some (.int .i64 oi)∧W'.cell? ⟨Y,3,none⟩=some (.int .i64 nd))
             (first|exact ou.out|exact o9.out|exact pg.out)
             (first|(go_at_call 108;refine(xI _).mono ?_;rintro e MI ⟨rfl,RH⟩;have H8:=aC ((Mj.out.below (Below.drew (Below.refl _ v76))).below RH);have o9:=aC (fO H8.out.tail.tail.tail.tail.b0 H8.out.tail.b0);obtain⟨r0,r1,r2,r3⟩:=eY H8.out.tail.tail.tail.b0;obtain⟨z0,z1,z2,z3⟩:=dI H8.out.tail.tail.tail.b0;have h4:=dF H8.out.tail.tail.tail.b0 (.int .i64 p) (.int .i32 tm) (.int .i64 oi) (.int .i64 nd);obtain⟨Z,hZ⟩:∃W,(((MI.setCell ⟨X+1,0,none⟩ (.int .i64 p)).setCell ⟨X+1,1,none⟩ (.int .i32 tm)).setCell ⟨X+1,2,none⟩ (.int .i64 oi)).setCell ⟨X+1,3,none⟩ (.int .i64 nd)=W:=⟨_,rfl⟩;rw[hZ]at h4;have ou:=aC (fO ((h4.2.block X (Array.getElem?_eq_some_iff.1 H8.out.tail.tail.tail.tail.b0).1 (by omega)).trans H8.out.tail.tail.tail.tail.b0) ((h4.2.block Y (Array.getElem?_eq_some_iff.1 H8.out.tail.b0).1 (by omega)).trans H8.out.tail.b0));have H9:=aC h4;clear RH h4)))|fail
         go_wp2
         obtain⟨k0,k1,k2,k3⟩:=dI H9.out.1
         refine bodyPost_ret (v :=.tuple #[.agg #[.int .i64 p,.int .i32 tm,.int .i64 oi,.int .i64 nd],.bool true,.int .i64 pe,.int .i64 0]) (by simp[results,Tryz.results61,go_sem,k0,k1,k2,k3]) rfl ⟨⟨⟨p,tm,oi,nd⟩,true,pe,0⟩,rfl,.inl ⟨by show(0:Int)≠10;omega,_,H8.out.only H9.out.2 (by omega)⟩⟩
        ·skip
         have jh:=aC (H7.out.jg hK)
         have HO:=aC (H7.out.off hK)
         clear hK
         have q1:=jh.out (X+1,.cells #[.int .i64 0,.int .i32 0,.int .i64 0,.int .i64 0] 39) (List.mem_cons_of_mem _ (List.mem_cons_of_mem _ (List.mem_cons_of_mem _ (List.mem_cons_self ..))))
         have q0:=jh.out (Y,.cells #[.int .i64 p,.int .i32 tm,.int .i64 oi,.int .i64 nd] 39) (List.mem_cons_of_mem _ (List.mem_cons_self ..))
         obtain⟨y0,y1,y2,y3⟩:=dI q0
         obtain⟨r0,r1,r2,r3⟩:=eY (q1)
         obtain⟨z0,z1,z2,z3⟩:=dI (q1)
         have HQ:=aC q1
         clear q0
         go_wp2
         obtain⟨Z,hZ⟩:∃W,(((v76.setCell ⟨X+1,0,none⟩ (.int .i64 (p))).setCell ⟨X+1,1,none⟩ (.int .i32 (tm))).setCell ⟨X+1,2,none⟩ (.int .i64 (oi))).setCell ⟨X+1,3,none⟩ (.int .i64 (nd))=W:=⟨_,rfl⟩
         have h4:=dF (HQ.out) (.int .i64 (p)) (.int .i32 (tm)) (.int .i64 (oi)) (.int .i64 (nd))
         rw[hZ]at h4 ⊢
         obtain⟨k0,k1,k2,k3⟩:=dI h4.1
         clear hZ z0 z1 z2 z3 r0 r1 r2 r3
         refine bodyPost_ret (v :=.tuple #[.agg #[.int .i64 (p),.int .i32 (tm),.int .i64 (oi),.int .i64 (nd)],.bool true,.int .i64 0,.int .i64 10]) (by simp[results,Tryz.results61,go_sem,k0,k1,k2,k3]) rfl (⟨⟨⟨p,tm,oi,nd⟩,true,0,10⟩,rfl,.inr ⟨rfl,HO.out.put HQ.out h4.2 (by omega) (by omega)⟩⟩)
      | false =>
        go_wp2_with (fail)
        refine(qK (pt+oi+4) 4 49152 H7.out.mg H7.out.on.le (aS ⟨p,tm,oi,nd⟩) (FS (aS ⟨p,tm,oi,nd⟩) (pt+oi) (32+(b.length:Int)) FN)).mono ?_
        rintro e Zt (⟨rfl,hK⟩|⟨rfl,hK⟩)
        ·replace H7:=aC (H7.out.step hK)
         clear hK f0
         have f0:=(Be H7.out.b0).1
         go_wp2_with (fail)
         refine(qK (pt+oi) 4 (32+(b.length:Int)) H7.out.mg H7.out.on.le (aS ⟨p,tm,oi,nd⟩) FN).mono ?_
         rintro e v76 (⟨rfl,hK⟩|⟨rfl,hK⟩)
         ·have Mj:=aC ((H7.out.step hK).as hFN.symm)
          clear hK H7 f0
          obtain⟨n0,n1,n2,n3,n4,n5,n6⟩:=iT Mj.out.tail.tail.tail.tail.b0
          obtain⟨y0,y1,y2,y3⟩:=dI Mj.out.tail.b0
          have xI:=fun W=>L6 ⟨p,tm,oi,nd⟩ yI.tm yI.off yI.sz W
          obtain⟨pe,hpe⟩:∃q,fI (aP l) ⟨p,tm,oi,nd⟩=q:=⟨_,rfl⟩
          rw[hpe]at xI Mj
          clear hpe
          have pg:=aC (fO Mj.out.tail.tail.tail.tail.b0 Mj.out.tail.b0)
          go_wp2_with (fail)
          first
          | (go_region_held (fun W'=>W'.cell? ⟨X,0,none⟩=some (.int .i64 l.base)∧W'.cell? ⟨X,1,none⟩=some (.int .i64 l.term)∧W'.cell? ⟨X,2,none⟩=some (.int .i64 l.aV)∧W'.cell? ⟨X,3,none⟩=some (.int .i64 l.subs)∧W'.cell? ⟨X,4,none⟩=some (.int .i32 l.bG)∧W'.cell? ⟨X,5,none⟩=some (.int .i32 l.dQ)∧W'.cell? ⟨X,6,none⟩=some (.int .i32 l.str)∧W'.cell? ⟨Y,0,none⟩=some (.int .i64 p)∧W'.cell? ⟨Y,1,none⟩=some (.int .i32 tm)∧W'.cell? ⟨Y,2,none⟩=some (.int .i64 oi)∧W'.cell? ⟨Y,3,none⟩=some (.int .i64 nd))
              (first|exact ou.out|exact o9.out|exact pg.out)
              (first|(go_at_call 108;refine(xI _).mono ?_;rintro e MI ⟨rfl,RH⟩;have H8:=aC ((Mj.out.below (Below.drew (Below.refl _ v76))).below RH);have o9:=aC (fO H8.out.tail.tail.tail.tail.b0 H8.out.tail.b0);obtain⟨r0,r1,r2,r3⟩:=eY H8.out.tail.tail.tail.b0;obtain⟨z0,z1,z2,z3⟩:=dI H8.out.tail.tail.tail.b0;have h4:=dF H8.out.tail.tail.tail.b0 (.int .i64 p) (.int .i32 tm) (.int .i64 oi) (.int .i64 nd);obtain⟨Z,hZ⟩:∃W,(((MI.setCell ⟨X+1,0,none⟩ (.int .i64 p)).setCell ⟨X+1,1,none⟩ (.int .i32 tm)).setCell ⟨X+1,2,none⟩ (.int .i64 oi)).setCell ⟨X+1,3,none⟩ (.int .i64 nd)=W:=⟨_,rfl⟩;rw[hZ]at h4;have ou:=aC (fO ((h4.2.block X (Array.getElem?_eq_some_iff.1 H8.out.tail.tail.tail.tail.b0).1 (by omega)).trans H8.out.tail.tail.tail.tail.b0) ((h4.2.block Y (Array.getElem?_eq_some_iff.1 H8.out.tail.b0).1 (by omega)).trans H8.out.tail.b0));have H9:=aC h4;clear RH h4)))|fail
          go_wp2
          obtain⟨k0,k1,k2,k3⟩:=dI H9.out.1
          refine bodyPost_ret (v :=.tuple #[.agg #[.int .i64 p,.int .i32 tm,.int .i64 oi,.int .i64 nd],.bool true,.int .i64 pe,.int .i64 0]) (by simp[results,Tryz.results61,go_sem,k0,k1,k2,k3]) rfl ⟨⟨⟨p,tm,oi,nd⟩,true,pe,0⟩,rfl,.inl ⟨by show(0:Int)≠10;omega,_,H8.out.only H9.out.2 (by omega)⟩⟩
         ·skip
          have jh:=aC (H7.out.jg hK)
          have HO:=aC (H7.out.off hK)
          clear hK
          have q1:=jh.out (X+1,.cells #[.int .i64 0,.int .i32 0,.int .i64 0,.int .i64 0] 39) (List.mem_cons_of_mem _ (List.mem_cons_of_mem _ (List.mem_cons_of_mem _ (List.mem_cons_self ..))))
          have q0:=jh.out (Y,.cells #[.int .i64 p,.int .i32 tm,.int .i64 oi,.int .i64 nd] 39) (List.mem_cons_of_mem _ (List.mem_cons_self ..))
          obtain⟨y0,y1,y2,y3⟩:=dI q0
          obtain⟨r0,r1,r2,r3⟩:=eY (q1)
          obtain⟨z0,z1,z2,z3⟩:=dI (q1)
          have HQ:=aC q1
          clear q0
          go_wp2
          obtain⟨Z,hZ⟩:∃W,(((v76.setCell ⟨X+1,0,none⟩ (.int .i64 (p))).setCell ⟨X+1,1,none⟩ (.int .i32 (tm))).setCell ⟨X+1,2,none⟩ (.int .i64 (oi))).setCell ⟨X+1,3,none⟩ (.int .i64 (nd))=W:=⟨_,rfl⟩
          have h4:=dF (HQ.out) (.int .i64 (p)) (.int .i32 (tm)) (.int .i64 (oi)) (.int .i64 (nd))
          rw[hZ]at h4 ⊢
          obtain⟨k0,k1,k2,k3⟩:=dI h4.1
          clear hZ z0 z1 z2 z3 r0 r1 r2 r3
          refine bodyPost_ret (v :=.tuple #[.agg #[.int .i64 (p),.int .i32 (tm),.int .i64 (oi),.int .i64 (nd)],.bool true,.int .i64 0,.int .i64 10]) (by simp[results,Tryz.results61,go_sem,k0,k1,k2,k3]) rfl (⟨⟨⟨p,tm,oi,nd⟩,true,0,10⟩,rfl,.inr ⟨rfl,HO.out.put HQ.out h4.2 (by omega) (by omega)⟩⟩)
        ·skip
         have jh:=aC (H7.out.jg hK)
         have HO:=aC (H7.out.off hK)
         clear hK
         have q1:=jh.out (X+1,.cells #[.int .i64 0,.int .i32 0,.int .i64 0,.int .i64 0] 39) (List.mem_cons_of_mem _ (List.mem_cons_of_mem _ (List.mem_cons_of_mem _ (List.mem_cons_self ..))))
         have q0:=jh.out (Y,.cells #[.int .i64 p,.int .i32 tm,.int .i64 oi,.int .i64 nd] 39) (List.mem_cons_of_mem _ (List.mem_cons_self ..))
         obtain⟨y0,y1,y2,y3⟩:=dI q0
         obtain⟨r0,r1,r2,r3⟩:=eY (q1)
         obtain⟨z0,z1,z2,z3⟩:=dI (q1)
         have HQ:=aC q1
         clear q0
         go_wp2
         obtain⟨Z,hZ⟩:∃W,(((Zt.setCell ⟨X+1,0,none⟩ (.int .i64 (p))).setCell ⟨X+1,1,none⟩ (.int .i32 (tm))).setCell ⟨X+1,2,none⟩ (.int .i64 (oi))).setCell ⟨X+1,3,none⟩ (.int .i64 (nd))=W:=⟨_,rfl⟩
         have h4:=dF (HQ.out) (.int .i64 (p)) (.int .i32 (tm)) (.int .i64 (oi)) (.int .i64 (nd))
         rw[hZ]at h4 ⊢
         obtain⟨k0,k1,k2,k3⟩:=dI h4.1
         clear hZ z0 z1 z2 z3 r0 r1 r2 r3
         refine bodyPost_ret (v :=.tuple #[.agg #[.int .i64 (p),.int .i32 (tm),.int .i64 (oi),.int .i64 (nd)],.bool true,.int .i64 0,.int .i64 10]) (by simp[results,Tryz.results61,go_sem,k0,k1,k2,k3]) rfl (⟨⟨⟨p,tm,oi,nd⟩,true,0,10⟩,rfl,.inr ⟨rfl,HO.out.put HQ.out h4.2 (by omega) (by omega)⟩⟩)
     ·cases aW with
      | true =>
        have jh:=aC (H6.out.jg hK)
        have HO:=aC (H6.out.off hK)
        clear hK
        have q1:=jh.out (X+1,.cells #[.int .i64 0,.int .i32 0,.int .i64 0,.int .i64 0] 39) (List.mem_cons_of_mem _ (List.mem_cons_of_mem _ (List.mem_cons_of_mem _ (List.mem_cons_self ..))))
        have q0:=jh.out (Y,.cells #[.int .i64 p,.int .i32 tm,.int .i64 oi,.int .i64 nd] 39) (List.mem_cons_of_mem _ (List.mem_cons_self ..))
        obtain⟨y0,y1,y2,y3⟩:=dI q0
        obtain⟨r0,r1,r2,r3⟩:=eY (q1)
        obtain⟨z0,z1,z2,z3⟩:=dI (q1)
        have HQ:=aC q1
        clear q0
        go_wp2
        obtain⟨Z,hZ⟩:∃W,(((VF.setCell ⟨X+1,0,none⟩ (.int .i64 (p))).setCell ⟨X+1,1,none⟩ (.int .i32 (tm))).setCell ⟨X+1,2,none⟩ (.int .i64 (oi))).setCell ⟨X+1,3,none⟩ (.int .i64 (nd))=W:=⟨_,rfl⟩
        have h4:=dF (HQ.out) (.int .i64 (p)) (.int .i32 (tm)) (.int .i64 (oi)) (.int .i64 (nd))
        rw[hZ]at h4 ⊢
        obtain⟨k0,k1,k2,k3⟩:=dI h4.1
        clear hZ z0 z1 z2 z3 r0 r1 r2 r3
        refine bodyPost_ret (v :=.tuple #[.agg #[.int .i64 (p),.int .i32 (tm),.int .i64 (oi),.int .i64 (nd)],.bool true,.int .i64 0,.int .i64 10]) (by simp[results,Tryz.results61,go_sem,k0,k1,k2,k3]) rfl (⟨⟨⟨p,tm,oi,nd⟩,true,0,10⟩,rfl,.inr ⟨rfl,HO.out.put HQ.out h4.2 (by omega) (by omega)⟩⟩)
      | false =>
        have jh:=aC (H6.out.jg hK)
        have HO:=aC (H6.out.off hK)
        clear hK
        have q1:=jh.out (X+1,.cells #[.int .i64 0,.int .i32 0,.int .i64 0,.int .i64 0] 39) (List.mem_cons_of_mem _ (List.mem_cons_of_mem _ (List.mem_cons_of_mem _ (List.mem_cons_self ..))))
        have q0:=jh.out (Y,.cells #[.int .i64 p,.int .i32 tm,.int .i64 oi,.int .i64 nd] 39) (List.mem_cons_of_mem _ (List.mem_cons_self ..))
        obtain⟨y0,y1,y2,y3⟩:=dI q0
        obtain⟨r0,r1,r2,r3⟩:=eY (q1)
        obtain⟨z0,z1,z2,z3⟩:=dI (q1)
        have HQ:=aC q1
        clear q0
        go_wp2
        obtain⟨Z,hZ⟩:∃W,(((VF.setCell ⟨X+1,0,none⟩ (.int .i64 (p))).setCell ⟨X+1,1,none⟩ (.int .i32 (tm))).setCell ⟨X+1,2,none⟩ (.int .i64 (oi))).setCell ⟨X+1,3,none⟩ (.int .i64 (nd))=W:=⟨_,rfl⟩
        have h4:=dF (HQ.out) (.int .i64 (p)) (.int .i32 (tm)) (.int .i64 (oi)) (.int .i64 (nd))
        rw[hZ]at h4 ⊢
        obtain⟨k0,k1,k2,k3⟩:=dI h4.1
        clear hZ z0 z1 z2 z3 r0 r1 r2 r3
        refine bodyPost_ret (v :=.tuple #[.agg #[.int .i64 (p),.int .i32 (tm),.int .i64 (oi),.int .i64 (nd)],.bool true,.int .i64 0,.int .i64 10]) (by simp[results,Tryz.results61,go_sem,k0,k1,k2,k3]) rfl (⟨⟨⟨p,tm,oi,nd⟩,true,0,10⟩,rfl,.inr ⟨rfl,HO.out.put HQ.out h4.2 (by omega) (by omega)⟩⟩)
    ·cases aW with
     | true =>
       have jh:=aC (H5.out.jg hK)
       have HO:=aC (H5.out.off hK)
       clear hK
       have q1:=jh.out (X+1,.cells #[.int .i64 0,.int .i32 0,.int .i64 0,.int .i64 0] 39) (List.mem_cons_of_mem _ (List.mem_cons_of_mem _ (List.mem_cons_of_mem _ (List.mem_cons_self ..))))
       have q0:=jh.out (Y,.cells #[.int .i64 p,.int .i32 tm,.int .i64 oi,.int .i64 nd] 39) (List.mem_cons_of_mem _ (List.mem_cons_self ..))
       obtain⟨y0,y1,y2,y3⟩:=dI q0
       obtain⟨r0,r1,r2,r3⟩:=eY (q1)
       obtain⟨z0,z1,z2,z3⟩:=dI (q1)
       have HQ:=aC q1
       clear q0
       go_wp2
       obtain⟨Z,hZ⟩:∃W,(((VG.setCell ⟨X+1,0,none⟩ (.int .i64 (p))).setCell ⟨X+1,1,none⟩ (.int .i32 (tm))).setCell ⟨X+1,2,none⟩ (.int .i64 (oi))).setCell ⟨X+1,3,none⟩ (.int .i64 (nd))=W:=⟨_,rfl⟩
       have h4:=dF (HQ.out) (.int .i64 (p)) (.int .i32 (tm)) (.int .i64 (oi)) (.int .i64 (nd))
       rw[hZ]at h4 ⊢
       obtain⟨k0,k1,k2,k3⟩:=dI h4.1
       clear hZ z0 z1 z2 z3 r0 r1 r2 r3
       refine bodyPost_ret (v :=.tuple #[.agg #[.int .i64 (p),.int .i32 (tm),.int .i64 (oi),.int .i64 (nd)],.bool true,.int .i64 0,.int .i64 10]) (by simp[results,Tryz.results61,go_sem,k0,k1,k2,k3]) rfl (⟨⟨⟨p,tm,oi,nd⟩,true,0,10⟩,rfl,.inr ⟨rfl,HO.out.put HQ.out h4.2 (by omega) (by omega)⟩⟩)
     | false =>
       have jh:=aC (H5.out.jg hK)
       have HO:=aC (H5.out.off hK)
       clear hK
       have q1:=jh.out (X+1,.cells #[.int .i64 0,.int .i32 0,.int .i64 0,.int .i64 0] 39) (List.mem_cons_of_mem _ (List.mem_cons_of_mem _ (List.mem_cons_of_mem _ (List.mem_cons_self ..))))
       have q0:=jh.out (Y,.cells #[.int .i64 p,.int .i32 tm,.int .i64 oi,.int .i64 nd] 39) (List.mem_cons_of_mem _ (List.mem_cons_self ..))
       obtain⟨y0,y1,y2,y3⟩:=dI q0
       obtain⟨r0,r1,r2,r3⟩:=eY (q1)
       obtain⟨z0,z1,z2,z3⟩:=dI (q1)
       have HQ:=aC q1
       clear q0
       go_wp2
       obtain⟨Z,hZ⟩:∃W,(((VG.setCell ⟨X+1,0,none⟩ (.int .i64 (p))).setCell ⟨X+1,1,none⟩ (.int .i32 (tm))).setCell ⟨X+1,2,none⟩ (.int .i64 (oi))).setCell ⟨X+1,3,none⟩ (.int .i64 (nd))=W:=⟨_,rfl⟩
       have h4:=dF (HQ.out) (.int .i64 (p)) (.int .i32 (tm)) (.int .i64 (oi)) (.int .i64 (nd))
       rw[hZ]at h4 ⊢
       obtain⟨k0,k1,k2,k3⟩:=dI h4.1
       clear hZ z0 z1 z2 z3 r0 r1 r2 r3
       refine bodyPost_ret (v :=.tuple #[.agg #[.int .i64 (p),.int .i32 (tm),.int .i64 (oi),.int .i64 (nd)],.bool true,.int .i64 0,.int .i64 10]) (by simp[results,Tryz.results61,go_sem,k0,k1,k2,k3]) rfl (⟨⟨⟨p,tm,oi,nd⟩,true,0,10⟩,rfl,.inr ⟨rfl,HO.out.put HQ.out h4.2 (by omega) (by omega)⟩⟩)
  ·have jh:=aC (HX.out.jg hK)
   have HO:=aC (HX.out.off hK)
   clear hK
   have q1:=jh.out (X+1,.cells #[.int .i64 0,.int .i32 0,.int .i64 0,.int .i64 0] 39) (List.mem_cons_of_mem _ (List.mem_cons_self ..))
   have q0:=jh.out (X+2,.cells #[.int .i64 0,.int .i32 0,.int .i64 0,.int .i64 0] 39) (List.mem_cons_self ..)
   obtain⟨y0,y1,y2,y3⟩:=dI q0
   obtain⟨r0,r1,r2,r3⟩:=eY (q1)
   obtain⟨z0,z1,z2,z3⟩:=dI (q1)
   have HQ:=aC q1
   clear q0
   go_wp2
   obtain⟨Z,hZ⟩:∃W,(((V5.setCell ⟨X+1,0,none⟩ (.int .i64 (0))).setCell ⟨X+1,1,none⟩ (.int .i32 (0))).setCell ⟨X+1,2,none⟩ (.int .i64 (0))).setCell ⟨X+1,3,none⟩ (.int .i64 (0))=W:=⟨_,rfl⟩
   have h4:=dF (HQ.out) (.int .i64 (0)) (.int .i32 (0)) (.int .i64 (0)) (.int .i64 (0))
   rw[hZ]at h4 ⊢
   obtain⟨k0,k1,k2,k3⟩:=dI h4.1
   clear hZ z0 z1 z2 z3 r0 r1 r2 r3
   refine bodyPost_ret (v :=.tuple #[.agg #[.int .i64 (0),.int .i32 (0),.int .i64 (0),.int .i64 (0)],.bool false,.int .i64 0,.int .i64 10]) (by simp[results,Tryz.results61,go_sem,k0,k1,k2,k3]) rfl (⟨⟨bW,false,0,10⟩,rfl,.inr ⟨rfl,HO.out.put HQ.out h4.2 (by omega) (by omega)⟩⟩)
 ·replace HX:=aC (HX.out.step hK)
  clear hK
  have w1:(ev != 0)=true:=by rcases hev with rfl|rfl|rfl<;>decide
  obtain⟨y0,y1,y2,y3⟩:=dI HX.out.b0
  obtain⟨r0,r1,r2,r3⟩:=eY (HX.out.tail.b0)
  obtain⟨z0,z1,z2,z3⟩:=dI (HX.out.tail.b0)
  go_wp2
  obtain⟨Z,hZ⟩:∃W,(((V.setCell ⟨X+1,0,none⟩ (.int .i64 (0))).setCell ⟨X+1,1,none⟩ (.int .i32 (0))).setCell ⟨X+1,2,none⟩ (.int .i64 (0))).setCell ⟨X+1,3,none⟩ (.int .i64 (0))=W:=⟨_,rfl⟩
  have h4:=dF (HX.out.tail.b0) (.int .i64 (0)) (.int .i32 (0)) (.int .i64 (0)) (.int .i64 (0))
  rw[hZ]at h4 ⊢
  obtain⟨k0,k1,k2,k3⟩:=dI h4.1
  clear hZ z0 z1 z2 z3 r0 r1 r2 r3
  refine bodyPost_ret (v :=.tuple #[.agg #[.int .i64 (0),.int .i32 (0),.int .i64 (0),.int .i64 (0)],.bool false,.int .i64 0,.int .i64 ev]) (by simp[results,Tryz.results61,go_sem,k0,k1,k2,k3]) rfl (⟨⟨bW,false,0,ev⟩,rfl,.inl ⟨by show ev≠10;omega,a1,HX.out.only h4.2 (by omega)⟩⟩)
 ·have jh:=aC (HX.out.jg hK)
  have HO:=aC (HX.out.off hK)
  clear hK
  have q1:=jh.out (X+1,.cells #[.int .i64 0,.int .i32 0,.int .i64 0,.int .i64 0] 39) (List.mem_cons_of_mem _ (List.mem_cons_self ..))
  have q0:=jh.out (X+2,.cells #[.int .i64 0,.int .i32 0,.int .i64 0,.int .i64 0] 39) (List.mem_cons_self ..)
  obtain⟨y0,y1,y2,y3⟩:=dI q0
  obtain⟨r0,r1,r2,r3⟩:=eY (q1)
  obtain⟨z0,z1,z2,z3⟩:=dI (q1)
  have HQ:=aC q1
  clear q0
  go_wp2
  obtain⟨Z,hZ⟩:∃W,(((V.setCell ⟨X+1,0,none⟩ (.int .i64 (0))).setCell ⟨X+1,1,none⟩ (.int .i32 (0))).setCell ⟨X+1,2,none⟩ (.int .i64 (0))).setCell ⟨X+1,3,none⟩ (.int .i64 (0))=W:=⟨_,rfl⟩
  have h4:=dF (HQ.out) (.int .i64 (0)) (.int .i32 (0)) (.int .i64 (0)) (.int .i64 (0))
  rw[hZ]at h4 ⊢
  obtain⟨k0,k1,k2,k3⟩:=dI h4.1
  clear hZ z0 z1 z2 z3 r0 r1 r2 r3
  refine bodyPost_ret (v :=.tuple #[.agg #[.int .i64 (0),.int .i32 (0),.int .i64 (0),.int .i64 (0)],.bool false,.int .i64 0,.int .i64 10]) (by simp[results,Tryz.results61,go_sem,k0,k1,k2,k3]) rfl (⟨⟨bW,false,0,10⟩,rfl,.inr ⟨rfl,HO.out.put HQ.out h4.2 (by omega) (by omega)⟩⟩)
end
