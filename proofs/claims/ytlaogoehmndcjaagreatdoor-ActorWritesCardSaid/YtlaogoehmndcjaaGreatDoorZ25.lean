import Derived.Test.YtlaogoehmndcjaaGreatDoorZ24
set_option linter.unusedSectionVars false
set_option maxRecDepth 1000000
set_option maxHeartbeats 3200000
set_option linter.unusedVariables false
set_option linter.unusedSimpArgs false
namespace Go.Proofs.YtlaogoehmndcjaaGreatDoor.Sy
open Go RowKit Lib Base Pr Ba
variable [Zn]
section
variable {tb:Nat} {ga:Option Addr} {cap:Nat} {L:List An} {a:Nat}
theorem Ej (ea:Option Addr) (l:Lg) (hl:l.ok) (hw:o8 l) (cn:Int) (hc:0≤cn∧cn<2147483648) (w:World) (h:iE w tb ga cap L a none) (ha:a≤L.length) :
 Calls Tryz.prog 106 #[.pointer (some ⟨tb,0,none⟩),l.val,.int .u32 cn,.slice ea 0 0] w fun e w'=>(∃(s:jU) (a':Nat),MC s∧e =.returned (.tuple #[.agg (Bd s),.bool true,.bool true,.int .i64 0])∧On w w' tb ga cap L a (kQ (aP l) [] cn) (dh (aP l) s) a')∨(∃(s:jU) (a':Nat),MC s∧e =.returned (.tuple #[.agg (Bd s),.bool true,.bool false,.int .i64 0])∧On w w' tb ga cap L a (kQ (aP l) [] cn) (.done ⟨s,true,fI (aP l) s,0⟩) a')∨(∃s:jU,MC s∧e =.returned (.tuple #[.agg (Bd s),.bool true,.bool false,.int .i64 10])∧Off w w' tb ga cap L a (kQ (aP l) [] cn) (aS s))∨(e =.returned (.tuple #[.agg (Bd bW),.bool false,.bool false,.int .i64 10])∧Off w w' tb ga cap L a (kQ (aP l) [] cn) fF):=by
 have hb:=mY hl
 have pU:=fun W=>(Ny l hl 0 (by omega) W:Calls Tryz.prog 104 #[l.val,.int .i64 0] W _)
 have hnb:=Dp (aP l) ⟨hb.1,hb.2.1⟩ 40 ((0:Nat):Int) (by omega)
 obtain⟨p,hp⟩:∃p,cn%3=p:=⟨_,rfl⟩
 have hp0:0≤p∧p<3:=by omega
 have c70:=fun W=>uD l hl p hp0.1 hp0.2 W
 have hadd:kQ (aP l) [] cn =.ask fF (rO (l.base+3*l.term+8*(cn%3)) (bB (aP l) 40 ((0:Nat):Int))) fun raw=>rM (aP l) [] (bB (aP l) 40 ((0:Nat):Int)) (cn%3) raw.v:=rfl
 obtain⟨nd,hnd⟩:∃n,bB (aP l) 40 ((0:Nat):Int)=n:=⟨_,rfl⟩
 have Xm:=aC hnd
 rw[hnd]at pU hnb hadd
 rw[hp]at hadd
 obtain⟨tl,htl⟩:∃t,l.base+3*l.term+8*p=t:=⟨_,rfl⟩
 rw[htl]at c70 hadd
 have IB:0≤nd∧nd≤100000:=by omega
 obtain⟨T,hT⟩:∃T,kQ (aP l) [] cn=T:=⟨_,rfl⟩
 rw[hT]at hadd ⊢
 have e9:cn.tmod 3=p:=by rw[Int.tmod_eq_emod_of_nonneg (by omega)];exact hp
 have e10:IntKind.i64.wrap p=p:=by rw[IntKind.wrap_i64];omega
 have e11:IntKind.u32.wrap p=p:=by rw[IntKind.wrap_u32];omega
 have e12:IntKind.u64.wrap nd=nd:=by rw[IntKind.wrap_u64];omega
 obtain⟨X,hX⟩:∃X,w.heap.size=X:=⟨_,rfl⟩
 obtain⟨V1,hV1⟩:∃V,w.alloc (.cells (gm l) 23)=V:=⟨_,rfl⟩
 have s1:V1.heap.size=X+1:=by rw[←hV1,←hX];simp
 obtain⟨V2,hV2⟩:∃V,V1.alloc (.cells #[.int .i64 0,.int .i32 0,.int .i64 0,.int .i64 0] 39)=V:=⟨_,rfl⟩
 have HX:=aC (hV2▸(hV1▸((BN.fresh h ha T).as hadd).new hX (.cells (gm l) 23)).new s1 (.cells #[.int .i64 0,.int .i32 0,.int .i64 0,.int .i64 0] 39))
 obtain⟨n0,n1,n2,n3,n4,n5,n6⟩:=iT HX.out.tail.b0
 have x9:=fun W=>p8 l hl p hp0.1 hp0.2 W
 unfold Lg.val at c70 pU x9 ⊢
 have HP:=aC (aR hl (aR hw True.intro))
 clear h ha hw htl hT hp hadd hnd hl
 go_enter Tryz.func106,Tryz.ntmps106
 go_wp2_with (first|(go_at_call 104;refine(pU _).mono ?_;clear pU;rintro e GU ⟨rfl,hB⟩;replace HX:=aC (HX.out.below hB);clear hB;clear n0 n1 n2 n3 n4 n5 n6;obtain⟨n0,n1,n2,n3,n4,n5,n6⟩:=iT HX.out.tail.b0)|(go_at_call 70;refine(c70 _).mono ?_;clear c70;rintro e v70 ⟨rfl,hB⟩;replace HX:=aC (HX.out.below hB);clear hB;clear n0 n1 n2 n3 n4 n5 n6))
 refine(Vd tl nd HX.out.mg HX.out.on.le fF (fun raw=>rM (aP l) [] nd p raw.v)).mono ?_
 rintro e V (⟨z,hz,rfl,hK⟩|⟨rfl,hK⟩)
 ·obtain⟨zv,hzv⟩:∃v,z.v=v:=⟨_,rfl⟩
  rw[hzv]at hz hK ⊢
  clear hzv
  replace HX:=aC (HX.out.step hK)
  clear hK
  have nW:=fun W=>uA zv hz W
  obtain⟨tm,Cb⟩:∃v,bF (zv/4294967296)=v:=⟨_,rfl⟩
  obtain⟨of,hof⟩:∃v,zv%4294967296=v:=⟨_,rfl⟩
  have rG : -2147483648≤tm∧tm<2147483648:=Cb▸uH _
  have IA:0≤of∧of<4294967296:=by omega
  rw[Cb,hof]at nW
  have hsl:jC p nd zv=⟨p,tm,of,nd⟩:=by unfold jC;rw[Cb,hof]
  have jK:rM (aP l) [] nd p zv=if of+nd>l.term then eO (aP l) ⟨p,tm,of,nd⟩ (dh (aP l) ⟨p,tm,of,nd⟩)else framesT (aP l) ⟨p,tm,of,nd⟩ 40 true of []:=by unfold rM;rw[hsl];rfl
  clear Cb hof hsl hz
  have yI:MC ⟨p,tm,of,nd⟩:=⟨rG,IA,IB⟩
  have Qy:tb<X:=hX▸HX.out.vT.lt
  have u5:IntKind.i64.wrap of=of:=by rw[IntKind.wrap_i64];omega
  have u6:IntKind.i64.wrap (of+nd)=of+nd:=by rw[IntKind.wrap_i64];omega
  obtain⟨Y,hY⟩:∃Y,V.heap.size=Y:=⟨_,rfl⟩
  obtain⟨W1,hW1⟩:∃W,V.alloc (.cells #[.int .i64 p,.int .i32 tm,.int .i64 of,.int .i64 nd] 39)=W:=⟨_,rfl⟩
  have t1:W1.heap.size=Y+1:=by rw[←hW1,←hY];simp
  obtain⟨W2,hW2⟩:∃W,W1.alloc (.cells #[.int .i32 0,.int .u8 0,.int .u8 0,.int .u16 0,.int .i32 0,.int .i32 l.dQ,.int .i32 l.str,.int .i32 tm,.int .u64 0] 160)=W:=⟨_,rfl⟩
  have t2:W2.heap.size=Y+2:=by rw[←hW2];simp[t1]
  have H1:=aC (hW1▸HX.out.new hY (.cells #[.int .i64 p,.int .i32 tm,.int .i64 of,.int .i64 nd] 39))
  have H2:=aC (hW2▸H1.out.new t1 (.cells #[.int .i32 0,.int .u8 0,.int .u8 0,.int .u16 0,.int .i32 0,.int .i32 l.dQ,.int .i32 l.str,.int .i32 tm,.int .u64 0] 160))
  have Vn:X+2≤Y:=by have h1:=HX.out.box _ (List.mem_cons_self ..);have:=(Array.getElem?_eq_some_iff.1 h1).1;rw[hY]at this;exact this
  obtain⟨n0,n1,n2,n3,n4,n5,n6⟩:=iT HX.out.tail.b0
  obtain⟨a0,a1,a2,a3,a4,a5,a6⟩:=iT H1.out.tail.tail.b0
  have z8:W2.frozen? ⟨Y+1,8,none⟩=false:=by simp[World.frozen?,H2.out.b0]
  have z9:W2.cell? ⟨Y+1,8,none⟩=some (.int .u64 0):=by simp[World.cell?,H2.out.b0]
  obtain⟨W3,hW3⟩:∃W,W2.setCell ⟨Y+1,8,none⟩ (.int .u64 0)=W:=⟨_,rfl⟩
  have H3:=aC (H2.out.put (Only.set W2 8 (.int .u64 0)) (iw H2.out.b0 8 (.int .u64 0)) (by intro q hq;simp only[List.mem_cons,List.not_mem_nil,or_false]at hq;rcases hq with rfl|rfl|rfl<;>(dsimp only;omega)))
  rw[hW3]at H3
  obtain⟨b0,b1,b2,b3,b4,b5,b6⟩:=iT H3.out.tail.tail.tail.b0
  obtain⟨m0,m1,m2,m3⟩:=dI H3.out.tail.b0
  obtain⟨f0,f1,f2,f3,f4,f5,f6,f7,f8⟩:=Be H3.out.b0
  obtain⟨g0,g2,g3,g4⟩:=tL H3.out.b0
  obtain⟨r0,r1,r2,r3⟩:=eY H3.out.tail.tail.b0
  by_cases hbig:of+nd>l.term
  ·rw[if_pos hbig]at jK
   by_cases hlo:of<l.term
   ·have u7:IntKind.i32.wrap of=of:=by rw[IntKind.wrap_i32];omega
    have u8:IntKind.i64.wrap (l.term-of)=l.term-of:=by rw[IntKind.wrap_i64];omega
    have u9:IntKind.i32.wrap (l.term-of)=l.term-of:=by rw[IntKind.wrap_i32];omega
    go_wp2_with (first|(go_at_call 71;refine(nW _).mono ?_;clear nW;rintro e v71 ⟨rfl,hw'⟩;subst v71))
    go_region
    go_wp2_with (fail)
    obtain⟨V4,GA⟩:∃W,(((W3.setCell ⟨Y+1,3,none⟩ (.int .u16 0)).setCell ⟨Y+1,4,none⟩ (.int .i32 of)).setCell ⟨Y+1,0,none⟩ (.int .i32 (l.term-of))).drew=W:=⟨_,rfl⟩
    rw[GA]
    have H4:=aC (H3.out.put (wr':=V4) (oH :=.cells (l9 l (l.term-of) 0 0 of tm) 160) (GA▸(((Only.set W3 3 (.int .u16 0)).trans (Only.set _ 4 (.int .i32 of))).trans (Only.set _ 0 (.int .i32 (l.term-of)))).trans (Only.of_below (Below.drew (Below.refl _ _)))) (GA▸iw (iw (iw H3.out.b0 3 (.int .u16 0)) 4 (.int .i32 of)) 0 (.int .i32 (l.term-of))) (by intro q hq;simp only[List.mem_cons,List.not_mem_nil,or_false]at hq;rcases hq with rfl|rfl|rfl<;>(dsimp only;omega)))
    clear b0 b1 b2 b3 b4 b5 b6 m0 m1 m2 m3 f0 f1 f2 f3 f4 f5 f6 f7 f8 g0 g2 g3 g4 r0 r1 r2 r3 n0 n1 n2 n3 n4 n5 n6 a0 a1 a2 a3 a4 a5 a6 GA hW3 hW2 hW1 z8 z9 H3 H2 H1 HX
    obtain⟨b0,b1,b2,b3,b4,b5,b6⟩:=iT H4.out.tail.tail.tail.b0
    obtain⟨f0,f1,f2,f3,f4,f5,f6,f7,f8⟩:=Be H4.out.b0
    have hpt:0≤l.base+l.term*p∧l.base+l.term*p≤200000:=by
     have:p=0∨p=1∨p=2:=by omega
     rcases this with e|e|e<;>subst e<;>omega
    obtain⟨pt,wF⟩:∃t,l.base+l.term*p=t:=⟨_,rfl⟩
    rw[wF]at x9 hpt
    have u10:IntKind.i64.wrap (pt+of)=pt+of:=by rw[IntKind.wrap_i64];omega
    have cF:∀V',BN w V' [(Y+1,.cells (l9 l (l.term-of) 0 0 of tm) 160),(Y,.cells #[.int .i64 p,.int .i32 tm,.int .i64 of,.int .i64 nd] 39),(X+1,.cells #[.int .i64 0,.int .i32 0,.int .i64 0,.int .i64 0] 39),(X,.cells (gm l) 23)] tb ga cap L a T (rM (aP l) [] nd p zv) (a+1)→Calls Tryz.prog 111 #[.pointer (some ⟨tb,0,none⟩),.agg (gm l),.int .i64 (pt+of),.agg (l9 l (l.term-of) 0 0 of tm),.slice none 0 0] V' fun e w'=>∃bb:Bool,e =.returned (.bool bb)∧R3 V' w' tb ga cap L (a+1) (rM (aP l) [] nd p zv) (dh (aP l) ⟨p,tm,of,nd⟩) (aS ⟨p,tm,of,nd⟩) bb:=fun V' hV'=>by
     have hpe:eO (aP l) ⟨p,tm,of,nd⟩ (dh (aP l) ⟨p,tm,of,nd⟩)=frameT (aP l) (aS ⟨p,tm,of,nd⟩) (pt+of) (l.term-of) 0 0 of tm [] (dh (aP l) ⟨p,tm,of,nd⟩):=by
      unfold eO
      rw[if_pos (show(⟨p,tm,of,nd⟩:jU).off<(aP l).term from hlo)]
      subst pt
      rfl
     rw[jK,hpe]
     refine(qx (aS ⟨p,tm,of,nd⟩) (dh (aP l) ⟨p,tm,of,nd⟩) l HP.out.2.1 (pt+of) (l.term-of) 0 0 of tm (by omega) (by omega) (by omega) (by omega) (by omega) rG [] (by simp) none 0 (by simp) V' ⟨rfl,fun j x hj=>by cases hj⟩ hV'.mg hV'.on.le).mono ?_
     rintro e w' (⟨a',rfl,hK⟩|⟨rfl,hK⟩)
     ·exact⟨true,rfl,.inl ⟨rfl,a',hK⟩⟩
     ·exact⟨false,rfl,.inr ⟨rfl,hK⟩⟩
    have HR:=aC jK
    clear jK
    have pg:=aC (aR b0 (aR b1 (aR b2 (aR b3 (aR b4 (aR b5 (aR b6 (aR f0 (aR f1 (aR f2 (aR f3 (aR f4 (aR f5 (aR f6 (aR f7 f8)))))))))))))))
    first
    | (go_region_held (fun W'=>W'.cell? ⟨X,0,none⟩=some (.int .i64 l.base)∧W'.cell? ⟨X,1,none⟩=some (.int .i64 l.term)∧W'.cell? ⟨X,2,none⟩=some (.int .i64 l.aV)∧W'.cell? ⟨X,3,none⟩=some (.int .i64 l.subs)∧W'.cell? ⟨X,4,none⟩=some (.int .i32 l.bG)∧W'.cell? ⟨X,5,none⟩=some (.int .i32 l.dQ)∧W'.cell? ⟨X,6,none⟩=some (.int .i32 l.str)∧W'.cell? ⟨Y+1,0,none⟩=some (.int .i32 (l.term-of))∧W'.cell? ⟨Y+1,1,none⟩=some (.int .u8 0)∧W'.cell? ⟨Y+1,2,none⟩=some (.int .u8 0)∧W'.cell? ⟨Y+1,3,none⟩=some (.int .u16 0)∧W'.cell? ⟨Y+1,4,none⟩=some (.int .i32 of)∧W'.cell? ⟨Y+1,5,none⟩=some (.int .i32 l.dQ)∧W'.cell? ⟨Y+1,6,none⟩=some (.int .i32 l.str)∧W'.cell? ⟨Y+1,7,none⟩=some (.int .i32 tm)∧W'.cell? ⟨Y+1,8,none⟩=some (.int .u64 0))
        (first|exact ou.out|exact o9.out|exact pg.out)
        (first
        | (go_at_call 69;refine(x9 _).mono ?_;rintro e v69 ⟨rfl,kL⟩;have H5:=aC ((H4.out.below (Below.drew (Below.refl _ V4))).below kL);clear kL;have o9:=aC (fD H5.out.tail.tail.tail.b0 H5.out.b0))
        | (go_at_call 111;refine(cF _ H5.out).mono ?_;rintro e j3 ⟨bb,rfl,hF⟩;have HF:=aC hF;have ou:=aC (fD (H5.out.vN hF _ (List.mem_cons_of_mem _ (List.mem_cons_of_mem _ (List.mem_cons_of_mem _ (List.mem_cons_self ..))))) (H5.out.vN hF _ (List.mem_cons_self ..)));clear hF)))|fail
    rcases HF.out with⟨rfl,a2,hK⟩|⟨rfl,hK⟩
    ·have H6:=aC (H5.out.step hK)
     clear hK HF pg o9 ou H4 H5
     obtain⟨m0,m1,m2,m3⟩:=dI H6.out.tail.b0
     obtain⟨r0,r1,r2,r3⟩:=eY (H6.out.tail.tail.b0)
     obtain⟨z0,z1,z2,z3⟩:=dI (H6.out.tail.tail.b0)
     go_wp2
     obtain⟨Z,hZ⟩:∃W,(((j3.setCell ⟨X+1,0,none⟩ (.int .i64 (p))).setCell ⟨X+1,1,none⟩ (.int .i32 (tm))).setCell ⟨X+1,2,none⟩ (.int .i64 (of))).setCell ⟨X+1,3,none⟩ (.int .i64 (nd))=W:=⟨_,rfl⟩
     have h4:=dF (H6.out.tail.tail.b0) (.int .i64 (p)) (.int .i32 (tm)) (.int .i64 (of)) (.int .i64 (nd))
     rw[hZ]at h4 ⊢
     obtain⟨k0,k1,k2,k3⟩:=dI h4.1
     clear hZ z0 z1 z2 z3 r0 r1 r2 r3
     refine bodyPost_ret (v :=.tuple #[.agg #[.int .i64 (p),.int .i32 (tm),.int .i64 (of),.int .i64 (nd)],.bool true,.bool true,.int .i64 0]) (by simp[results,Tryz.results106,go_sem,k0,k1,k2,k3]) rfl (.inl ⟨⟨p,tm,of,nd⟩,a2,yI,rfl,H6.out.only h4.2 (by omega)⟩)
    ·have jh:=aC (H5.out.jg hK)
     have HO:=aC (H5.out.off hK)
     clear hK HF pg o9 ou H4 H5
     have q1:=jh.out (X+1,.cells #[.int .i64 0,.int .i32 0,.int .i64 0,.int .i64 0] 39) (List.mem_cons_of_mem _ (List.mem_cons_of_mem _ (List.mem_cons_self ..)))
     have q0:=jh.out (Y,.cells #[.int .i64 p,.int .i32 tm,.int .i64 of,.int .i64 nd] 39) (List.mem_cons_of_mem _ (List.mem_cons_self ..))
     obtain⟨m0,m1,m2,m3⟩:=dI q0
     obtain⟨r0,r1,r2,r3⟩:=eY (q1)
     obtain⟨z0,z1,z2,z3⟩:=dI (q1)
     have HQ:=aC q1
     clear q0
     go_wp2
     obtain⟨Z,hZ⟩:∃W,(((j3.setCell ⟨X+1,0,none⟩ (.int .i64 (p))).setCell ⟨X+1,1,none⟩ (.int .i32 (tm))).setCell ⟨X+1,2,none⟩ (.int .i64 (of))).setCell ⟨X+1,3,none⟩ (.int .i64 (nd))=W:=⟨_,rfl⟩
     have h4:=dF (HQ.out) (.int .i64 (p)) (.int .i32 (tm)) (.int .i64 (of)) (.int .i64 (nd))
     rw[hZ]at h4 ⊢
     obtain⟨k0,k1,k2,k3⟩:=dI h4.1
     clear hZ z0 z1 z2 z3 r0 r1 r2 r3
     refine bodyPost_ret (v :=.tuple #[.agg #[.int .i64 (p),.int .i32 (tm),.int .i64 (of),.int .i64 (nd)],.bool true,.bool false,.int .i64 10]) (by simp[results,Tryz.results106,go_sem,k0,k1,k2,k3]) rfl (.inr (.inr (.inl ⟨⟨p,tm,of,nd⟩,yI,rfl,HO.out.put HQ.out h4.2 (by omega) (by omega)⟩)))
   ·have hpe:eO (aP l) ⟨p,tm,of,nd⟩ (dh (aP l) ⟨p,tm,of,nd⟩)=dh (aP l) ⟨p,tm,of,nd⟩:=by
     unfold eO
     rw[if_neg (show ¬(⟨p,tm,of,nd⟩:jU).off<(aP l).term from hlo)]
    have H6:=aC (H3.out.as (jK.trans hpe))
    obtain⟨r0,r1,r2,r3⟩:=eY (H6.out.tail.tail.b0)
    obtain⟨z0,z1,z2,z3⟩:=dI (H6.out.tail.tail.b0)
    go_wp2_with (first|(go_at_call 71;refine(nW _).mono ?_;clear nW;rintro e v71 ⟨rfl,hw'⟩;subst v71))
    obtain⟨Z,hZ⟩:∃W,(((W3.setCell ⟨X+1,0,none⟩ (.int .i64 (p))).setCell ⟨X+1,1,none⟩ (.int .i32 (tm))).setCell ⟨X+1,2,none⟩ (.int .i64 (of))).setCell ⟨X+1,3,none⟩ (.int .i64 (nd))=W:=⟨_,rfl⟩
    have h4:=dF (H6.out.tail.tail.b0) (.int .i64 (p)) (.int .i32 (tm)) (.int .i64 (of)) (.int .i64 (nd))
    rw[hZ]at h4 ⊢
    obtain⟨k0,k1,k2,k3⟩:=dI h4.1
    clear hZ z0 z1 z2 z3 r0 r1 r2 r3
    refine bodyPost_ret (v :=.tuple #[.agg #[.int .i64 (p),.int .i32 (tm),.int .i64 (of),.int .i64 (nd)],.bool true,.bool true,.int .i64 0]) (by simp[results,Tryz.results106,go_sem,k0,k1,k2,k3]) rfl (.inl ⟨⟨p,tm,of,nd⟩,_,yI,rfl,H6.out.only h4.2 (by omega)⟩)
  ·rw[if_neg hbig]at jK
   have c160:∀W,Calls Tryz.prog 160 #[l.val,.int .i64 0] W _:=fun W=>OJ l HP.out.1 0 (by omega) W
   unfold Lg.val at c160
   obtain⟨pt,wF⟩:∃t,l.base+l.term*p=t:=⟨_,rfl⟩
   have hpt:0≤pt∧pt≤200000:=by
    rw[←wF]
    have:p=0∨p=1∨p=2:=by omega
    rcases this with e|e|e<;>subst e<;>omega
   rw[wF]at x9
   have HST:=aC (show framesT (aP l) ⟨p,tm,of,nd⟩ 40 true of []=frameT (aP l) (aS ⟨p,tm,of,nd⟩) (pt+of) 32 192 1 of tm [] (.done ⟨⟨p,tm,of,nd⟩,true,fI (aP l) ⟨p,tm,of,nd⟩,0⟩)from by
    rw[framesT,if_pos (by show((0:Nat):Int)≤l.aV;omega),←wF]
    rfl)
   have acJ:of≤8192:=by omega
   clear wF
   go_wp2_with (first|(go_at_call 71;refine(nW _).mono ?_;clear nW;rintro e v71 ⟨rfl,hw'⟩;subst v71)|(go_at_call 160;refine(c160 _).mono ?_;clear c160;rintro e v160 ⟨v,j,r,rfl,hn,hr0,hr1,hj0,hown,hB⟩;obtain⟨va,vc,rfl⟩:=iC hown;have HC:=aC (aR hn (aR hr0 (aR hr1 (aR hj0 (aR hown hB)))));clear hn hr0 hr1 hj0 hown hB))
   clear n0 n1 n2 n3 n4 n5 n6 a0 a1 a2 a3 a4 a5 a6 b0 b1 b2 b3 b4 b5 b6 m0 m1 m2 m3 f0 f1 f2 f3 f4 f5 f6 f7 f8 g0 g2 g3 g4 r0 r1 r2 r3 z8 z9
   obtain⟨hn,hr0,hr1,hj0,hown,FQ⟩:=HC.out
   have QC:32*(j:Int)≤l.aV*(j:Int):=Int.mul_le_mul_of_nonneg_right hb.1 (by omega)
   have Z5:j=0:=by omega
   subst Z5
   have ZU:r=0:=by simp at hn;omega
   subst ZU
   replace H3:=aC ((H3.out.as jK).below FQ)
   have HE:=aC hown
   clear hn hr0 hr1 hj0 hown FQ HC hW3 hW2 hW1 hV1 hV2 t1 t2 s1 H1 H2 HX hnb hc IB jK QC
   go_loopw [3,18,116] (fun y3 Zq R6 wr=>∃(i:Nat),R6 =.int .i64 (i:Int)∧i≤1∧(i=0→y3 =.slice ea 0 0∧Zq =.int .u32 of∧wr=v160)∧Hid (∃(c0 c2 c3 c4:Int) (a':Nat),BN w wr [(Y+1,.cells #[.int .i32 c0,.int .u8 0,.int .u8 c2,.int .u16 c3,.int .i32 c4,.int .i32 l.dQ,.int .i32 l.str,.int .i32 tm,.int .u64 0] 160),(Y,.cells #[.int .i64 p,.int .i32 tm,.int .i64 of,.int .i64 nd] 39),(X+1,.cells #[.int .i64 0,.int .i32 0,.int .i64 0,.int .i64 0] 39),(X,.cells (gm l) 23)] tb ga cap L a T (if i=0 then framesT (aP l) ⟨p,tm,of,nd⟩ 40 true of []else .done ⟨⟨p,tm,of,nd⟩,true,fI (aP l) ⟨p,tm,of,nd⟩,0⟩) a')) (fun _ _ y _=>(2-intOf y).toNat)
   case atStart=>exact⟨0,rfl,by omega,fun _=>⟨by simp,by simp,rfl⟩,aC ⟨0,0,0,0,_,H3.out⟩⟩
   case round =>
    obtain⟨i,rfl,hij,hy3,H⟩:=hrel
    have hi2:i=0∨i=1:=by omega
    rcases hi2 with rfl|rfl
    ·obtain⟨rfl,rfl,rfl⟩:=hy3 rfl
     obtain⟨c0,c2,c3,c4,a',Mi⟩:=H.out
     rw[if_pos rfl]at Mi
     have H4:=aC Mi
     clear Mi H hy3
     obtain⟨g,gc,e,hg0,hg1,hgc,hcl⟩:=mq HE.out (IZ (show 0<0+1 by omega))
     injection e with e1 e2 e3
     subst e1 e3
     rw[Nat.zero_add,if_neg (by omega)]at hcl
     have c109:∀W,Calls Tryz.prog 109 #[.int .i64 0] W _:=fun W=>zY 0 (by omega) W
     rw[show aU 0=32 from rfl]at c109
     have v5:IntKind.i32.wrap of=of:=by rw[IntKind.wrap_i32];omega
     have v8:IntKind.i64.wrap of=of:=by rw[IntKind.wrap_i64];omega
     have v9:IntKind.i64.wrap (pt+of)=pt+of:=by rw[IntKind.wrap_i64];omega
     have v11:IntKind.u32.wrap (of+32)=of+32:=by rw[IntKind.wrap_u32];omega
     obtain⟨f0,f1,f2,f3,f4,f5,f6,f7,f8⟩:=Be H4.out.b0
     obtain⟨g0,g2,g3,g4⟩:=tL H4.out.b0
     obtain⟨Gv,Uc⟩:∃W,(((wr.setCell ⟨Y+1,3,none⟩ (.int .u16 1)).setCell ⟨Y+1,4,none⟩ (.int .i32 of)).setCell ⟨Y+1,0,none⟩ (.int .i32 32)).setCell ⟨Y+1,2,none⟩ (.int .u8 0)=W:=⟨_,rfl⟩
     have BI:=aC ((((Only.set wr 3 (.int .u16 1)).trans (Only.set _ 4 (.int .i32 of))).trans (Only.set _ 0 (.int .i32 32))).trans (Only.set (tb:=Y+1) _ 2 (.int .u8 0)))
     have EB:=aC (H4.out.put (oH :=.cells (l9 l 32 0 1 of tm) 160) BI.out (iw (iw (iw (iw H4.out.b0 3 (.int .u16 1)) 4 (.int .i32 of)) 0 (.int .i32 32)) 2 (.int .u8 0)) (by intro q hq;simp only[List.mem_cons,List.not_mem_nil,or_false]at hq;rcases hq with rfl|rfl|rfl<;>(dsimp only;omega)))
     rw[Uc]at EB BI
     obtain⟨VC,VB,VA,Vz,Vy,Vx,Vv,Vu,Vt⟩:=Be EB.out.b0
     obtain⟨Vs,Vr,Vq,Vp⟩:=tL EB.out.b0
     obtain⟨MB,FP⟩:∃W,Gv.setCell ⟨Y+1,2,none⟩ (.int .u8 128)=W:=⟨_,rfl⟩
     have EA:=aC (EB.out.put (oH :=.cells (l9 l 32 128 1 of tm) 160) (Only.set Gv 2 (.int .u8 128)) (iw EB.out.b0 2 (.int .u8 128)) (by intro q hq;simp only[List.mem_cons,List.not_mem_nil,or_false]at hq;rcases hq with rfl|rfl|rfl<;>(dsimp only;omega)))
     rw[FP]at EA
     obtain⟨Yg,Ye,Yc,Ya,X8,X6,X4,X0,XY⟩:=Be EA.out.b0
     obtain⟨XW,XU,XR,XP⟩:=tL EA.out.b0
     obtain⟨KN,FO⟩:∃W,MB.setCell ⟨Y+1,2,none⟩ (.int .u8 192)=W:=⟨_,rfl⟩
     have A8:=aC (EA.out.put (oH :=.cells (l9 l 32 192 1 of tm) 160) (Only.set MB 2 (.int .u8 192)) (iw EA.out.b0 2 (.int .u8 192)) (by intro q hq;simp only[List.mem_cons,List.not_mem_nil,or_false]at hq;rcases hq with rfl|rfl|rfl<;>(dsimp only;omega)))
     rw[FO]at A8
     obtain⟨Yf,Yd,Yb,X9,X7,X5,X3,XZ,XX⟩:=Be A8.out.b0
     obtain⟨XV,XT,XQ,XO⟩:=tL A8.out.b0
     have Cz:=aC (show Only (Y+1) wr KN from(BI.out.trans (FP▸Only.set Gv 2 (.int .u8 128))).trans (FO▸Only.set MB 2 (.int .u8 192)))
     obtain⟨b0,b1,b2,b3,b4,b5,b6⟩:=iT A8.out.tail.tail.tail.b0
     go_wp2_with (fail)
     clear f0 f1 f2 f3 f4 f5 f6 f7 f8 g0 g2 g3 g4
     clear VC VB VA Vz Vy Vx Vv Vu Vt Vs Vr Vq Vp
     clear Yg Ye Yc Ya X8 X6 X4 X0 XY XW XU XR XP
     have cF:∀V',BN w V' [(Y+1,.cells (l9 l 32 192 1 of tm) 160),(Y,.cells #[.int .i64 p,.int .i32 tm,.int .i64 of,.int .i64 nd] 39),(X+1,.cells #[.int .i64 0,.int .i32 0,.int .i64 0,.int .i64 0] 39),(X,.cells (gm l) 23)] tb ga cap L a T (framesT (aP l) ⟨p,tm,of,nd⟩ 40 true of []) a'→Calls Tryz.prog 111 #[.pointer (some ⟨tb,0,none⟩),.agg (gm l),.int .i64 (pt+of),.agg (l9 l 32 192 1 of tm),.slice ea 0 0] V' fun e w'=>∃bb:Bool,e =.returned (.bool bb)∧R3 V' w' tb ga cap L a' (framesT (aP l) ⟨p,tm,of,nd⟩ 40 true of []) (.done ⟨⟨p,tm,of,nd⟩,true,fI (aP l) ⟨p,tm,of,nd⟩,0⟩) (aS ⟨p,tm,of,nd⟩) bb:=fun V' hV'=>by
      rw[HST.out]
      refine(qx (aS ⟨p,tm,of,nd⟩) (.done ⟨⟨p,tm,of,nd⟩,true,fI (aP l) ⟨p,tm,of,nd⟩,0⟩) l HP.out.2.1 (pt+of) 32 192 1 of tm (by omega) (by omega) (by omega) (by omega) (by omega) rG [] (by simp) ea 0 (by simp) V' ⟨rfl,fun j x hj=>by cases hj⟩ hV'.mg hV'.on.le).mono ?_
      rintro e w' (⟨a2,rfl,hK⟩|⟨rfl,hK⟩)
      ·exact⟨true,rfl,.inl ⟨rfl,a2,hK⟩⟩
      ·exact⟨false,rfl,.inr ⟨rfl,hK⟩⟩
     have pg:=aC (fD A8.out.tail.tail.tail.b0 A8.out.b0)
     first
     | (go_region_held (fun W'=>W'.cell? ⟨X,0,none⟩=some (.int .i64 l.base)∧W'.cell? ⟨X,1,none⟩=some (.int .i64 l.term)∧W'.cell? ⟨X,2,none⟩=some (.int .i64 l.aV)∧W'.cell? ⟨X,3,none⟩=some (.int .i64 l.subs)∧W'.cell? ⟨X,4,none⟩=some (.int .i32 l.bG)∧W'.cell? ⟨X,5,none⟩=some (.int .i32 l.dQ)∧W'.cell? ⟨X,6,none⟩=some (.int .i32 l.str)∧W'.cell? ⟨Y+1,0,none⟩=some (.int .i32 32)∧W'.cell? ⟨Y+1,1,none⟩=some (.int .u8 0)∧W'.cell? ⟨Y+1,2,none⟩=some (.int .u8 192)∧W'.cell? ⟨Y+1,3,none⟩=some (.int .u16 1)∧W'.cell? ⟨Y+1,4,none⟩=some (.int .i32 of)∧W'.cell? ⟨Y+1,5,none⟩=some (.int .i32 l.dQ)∧W'.cell? ⟨Y+1,6,none⟩=some (.int .i32 l.str)∧W'.cell? ⟨Y+1,7,none⟩=some (.int .i32 tm)∧W'.cell? ⟨Y+1,8,none⟩=some (.int .u64 0))
         (first|exact ou.out|exact o9.out|exact pg.out)
         (first
         | (go_at_call 69;refine(x9 _).mono ?_;rintro e v69 ⟨rfl,kL⟩;have H5:=aC ((A8.out.below (Below.drew (Below.refl _ KN))).below kL);have GI:=aC ((Below.drew (Below.refl KN.heap.size KN)).trans kL);clear kL;have o9:=aC (fD H5.out.tail.tail.tail.b0 H5.out.b0))
         | (go_at_call 111;refine(cF _ H5.out).mono ?_;rintro e j3 ⟨bb,rfl,hF⟩;have HF:=aC hF;have ou:=aC (fD (H5.out.vN hF _ (List.mem_cons_of_mem _ (List.mem_cons_of_mem _ (List.mem_cons_of_mem _ (List.mem_cons_self ..))))) (H5.out.vN hF _ (List.mem_cons_self ..)));clear hF)))|fail
     clear b0 b1 b2 b3 b4 b5 b6
     clear Yf Yd Yb X9 X7 X5 X3 XZ XX XV XT XQ XO
     rcases HF.out with⟨rfl,a2,hK⟩|⟨rfl,hK⟩
     ·have H6:=aC (H5.out.step hK)
      clear hK HF pg o9 ou H5 cF
      go_wp2_with (first|(go_at_call 109;refine(c109 _).mono ?_;clear c109;rintro e CF ⟨rfl,hw'⟩;subst CF))
      go_roundw
      case measure=>simp[intOf]
      case rel =>
       repeat apply Exists.intro
       refine⟨?_,rfl⟩
       exact⟨1,by simp,by omega,fun h=>absurd h (by omega),aC ⟨32,192,1,of,a2,H6.out⟩⟩
     ·have jh:=aC (H5.out.jg hK)
      have HO:=aC (H5.out.off hK)
      clear hK HF pg o9 ou H5 cF
      have q1:=jh.out (X+1,.cells #[.int .i64 0,.int .i32 0,.int .i64 0,.int .i64 0] 39) (List.mem_cons_of_mem _ (List.mem_cons_of_mem _ (List.mem_cons_self ..)))
      have q0:=jh.out (Y,.cells #[.int .i64 p,.int .i32 tm,.int .i64 of,.int .i64 nd] 39) (List.mem_cons_of_mem _ (List.mem_cons_self ..))
      obtain⟨m0,m1,m2,m3⟩:=dI q0
      obtain⟨r0,r1,r2,r3⟩:=eY (q1)
      obtain⟨z0,z1,z2,z3⟩:=dI (q1)
      have HQ:=aC q1
      clear q0
      go_wp2
      obtain⟨Z,hZ⟩:∃W,(((j3.setCell ⟨X+1,0,none⟩ (.int .i64 (p))).setCell ⟨X+1,1,none⟩ (.int .i32 (tm))).setCell ⟨X+1,2,none⟩ (.int .i64 (of))).setCell ⟨X+1,3,none⟩ (.int .i64 (nd))=W:=⟨_,rfl⟩
      have h4:=dF (HQ.out) (.int .i64 (p)) (.int .i32 (tm)) (.int .i64 (of)) (.int .i64 (nd))
      rw[hZ]at h4 ⊢
      obtain⟨k0,k1,k2,k3⟩:=dI h4.1
      clear hZ z0 z1 z2 z3 r0 r1 r2 r3
      refine bodyPost_ret (v :=.tuple #[.agg #[.int .i64 (p),.int .i32 (tm),.int .i64 (of),.int .i64 (nd)],.bool true,.bool false,.int .i64 10]) (by simp[results,Tryz.results106,go_sem,k0,k1,k2,k3]) rfl (.inr (.inr (.inl ⟨⟨p,tm,of,nd⟩,yI,rfl,HO.out.put HQ.out h4.2 (by omega) (by omega)⟩)))
    ·obtain⟨c0,c2,c3,c4,a',Mi⟩:=H.out
     rw[if_neg (by omega)]at Mi
     have H6:=aC Mi
     clear Mi H hy3
     obtain⟨m0,m1,m2,m3⟩:=dI H6.out.tail.b0
     obtain⟨r0,r1,r2,r3⟩:=eY (H6.out.tail.tail.b0)
     obtain⟨z0,z1,z2,z3⟩:=dI (H6.out.tail.tail.b0)
     go_wp2
     obtain⟨Z,hZ⟩:∃W,(((wr.setCell ⟨X+1,0,none⟩ (.int .i64 (p))).setCell ⟨X+1,1,none⟩ (.int .i32 (tm))).setCell ⟨X+1,2,none⟩ (.int .i64 (of))).setCell ⟨X+1,3,none⟩ (.int .i64 (nd))=W:=⟨_,rfl⟩
     have h4:=dF (H6.out.tail.tail.b0) (.int .i64 (p)) (.int .i32 (tm)) (.int .i64 (of)) (.int .i64 (nd))
     rw[hZ]at h4 ⊢
     obtain⟨k0,k1,k2,k3⟩:=dI h4.1
     clear hZ z0 z1 z2 z3 r0 r1 r2 r3
     refine bodyPost_ret (v :=.tuple #[.agg #[.int .i64 (p),.int .i32 (tm),.int .i64 (of),.int .i64 (nd)],.bool true,.bool false,.int .i64 0]) (by simp[results,Tryz.results106,go_sem,k0,k1,k2,k3]) rfl (.inr (.inl (by first|exact⟨⟨p,tm,of,nd⟩,a',yI,rfl,H6.out.only h4.2 (by omega)⟩|exact⟨⟨p,tm,of,nd⟩,yI,rfl,a',H6.out.only h4.2 (by omega)⟩)))
 ·have jh:=aC (HX.out.jg hK)
  have HO:=aC (HX.out.off hK)
  clear hK
  have q1:=jh.out (X+1,.cells #[.int .i64 0,.int .i32 0,.int .i64 0,.int .i64 0] 39) (List.mem_cons_self ..)
  have Qy:tb<X:=hX▸HX.out.vT.lt
  obtain⟨r0,r1,r2,r3⟩:=eY (q1)
  obtain⟨z0,z1,z2,z3⟩:=dI (q1)
  have HQ:=aC q1
  go_wp2
  obtain⟨Z,hZ⟩:∃W,(((V.setCell ⟨X+1,0,none⟩ (.int .i64 (0))).setCell ⟨X+1,1,none⟩ (.int .i32 (0))).setCell ⟨X+1,2,none⟩ (.int .i64 (0))).setCell ⟨X+1,3,none⟩ (.int .i64 (0))=W:=⟨_,rfl⟩
  have h4:=dF (HQ.out) (.int .i64 (0)) (.int .i32 (0)) (.int .i64 (0)) (.int .i64 (0))
  rw[hZ]at h4 ⊢
  obtain⟨k0,k1,k2,k3⟩:=dI h4.1
  clear hZ z0 z1 z2 z3 r0 r1 r2 r3
  refine bodyPost_ret (v :=.tuple #[.agg #[.int .i64 (0),.int .i32 (0),.int .i64 (0),.int .i64 (0)],.bool false,.bool false,.int .i64 10]) (by simp[results,Tryz.results106,go_sem,k0,k1,k2,k3]) rfl (.inr (.inr (.inr ⟨rfl,HO.out.put HQ.out h4.2 (by omega) (by omega)⟩)))
theorem Q9 (l:Lg) (hl:l.ok) (hw:o8 l) (b:List Nat) (hbl:b.length≤300) (hbt:(b.length:Int)≤l.term/8) (ea:Option Addr) (ec:Nat) (cn:Int) (hc:0≤cn∧cn<2147483648) (w:World) (hD:kS w tb ea ec b) (h:iE w tb ga cap L a none) (ha:a≤L.length) :
 Calls Tryz.prog 106 #[.pointer (some ⟨tb,0,none⟩),l.val,.int .u32 cn,.slice ea b.length ec] w fun e w'=>(∃(s:jU) (a':Nat),MC s∧e =.returned (.tuple #[.agg (Bd s),.bool true,.bool true,.int .i64 0])∧On w w' tb ga cap L a (kQ (aP l) b cn) (dh (aP l) s) a')∨(∃(s:jU) (a':Nat),MC s∧e =.returned (.tuple #[.agg (Bd s),.bool true,.bool false,.int .i64 0])∧On w w' tb ga cap L a (kQ (aP l) b cn) (.done ⟨s,true,fI (aP l) s,0⟩) a')∨(∃s:jU,MC s∧e =.returned (.tuple #[.agg (Bd s),.bool true,.bool false,.int .i64 10])∧Off w w' tb ga cap L a (kQ (aP l) b cn) (aS s))∨(e =.returned (.tuple #[.agg (Bd bW),.bool false,.bool false,.int .i64 10])∧Off w w' tb ga cap L a (kQ (aP l) b cn) fF):=by
 rcases hD.2 with⟨eb,eo,rfl,h1,h2⟩|⟨rfl,rfl⟩
 ·exact Ei l hl hw b hbl hbt eb eo ec ⟨h1,h2⟩ cn hc w hD.1 h ha
 ·exact Ej ea l hl hw cn hc w h ha
end
