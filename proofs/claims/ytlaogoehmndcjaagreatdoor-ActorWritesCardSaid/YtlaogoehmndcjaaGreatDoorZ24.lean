import Derived.Test.YtlaogoehmndcjaaGreatDoorZ23
set_option linter.unusedSectionVars false
set_option maxRecDepth 1000000
set_option maxHeartbeats 3200000
set_option linter.unusedVariables false
set_option linter.unusedSimpArgs false
namespace Go.Proofs.YtlaogoehmndcjaaGreatDoor.Sy
open Go RowKit Lib Base Pr Ba
variable [Zn]
structure MC (s:jU):Prop where
 tm : -2147483648≤s.term∧s.term<2147483648
 off:0≤s.off∧s.off<4294967296
 sz:0≤s.size∧s.size≤100000
theorem Dp (l:cO) (hm:32≤l.aV∧l.aV≤1024):∀(f:Nat) (n:Int),0≤n∧n≤1024→32≤bB l f n∧bB l f n≤1056*((f:Int)+1)
 | 0,n,h=>by have:=DR h;simp only[bB];omega
 | f+1,n,h=>by
   rw[bB]
   split
   ·have h1:=DR (n:=l.aV) (by omega)
    have h2:=Dp l hm f (n-l.aV) (by omega)
    omega
   ·have:=DR h;omega
theorem eY {w:World} {b:Nat} {t:TypeId} {v0 v1 v2 v3:Value} (h:w.heap[b]? = some (.cells #[v0,v1,v2,v3] t (0,0))):w.frozen? ⟨b,0,none⟩=false∧w.frozen? ⟨b,1,none⟩=false∧w.frozen? ⟨b,2,none⟩=false∧w.frozen? ⟨b,3,none⟩=false:=by
 refine⟨?_,?_,?_,?_⟩<;>simp[World.frozen?,h]
theorem tL {w:World} {b:Nat} {t:TypeId} {v0 v1 v2 v3 v4 v5 v6 v7 v8:Value} (h:w.heap[b]? = some (.cells #[v0,v1,v2,v3,v4,v5,v6,v7,v8] t (0,0))):w.frozen? ⟨b,0,none⟩=false∧w.frozen? ⟨b,2,none⟩=false∧w.frozen? ⟨b,3,none⟩=false∧w.frozen? ⟨b,4,none⟩=false:=by
 refine⟨?_,?_,?_,?_⟩<;>simp[World.frozen?,h]
theorem fD {w:World} {b c:Nat} {t u:TypeId} {v0 v1 v2 v3 v4 v5 v6 x0 x1 x2 x3 x4 x5 x6 x7 x8:Value} (h:w.heap[b]? = some (.cells #[v0,v1,v2,v3,v4,v5,v6] t (0,0))) (k:w.heap[c]? = some (.cells #[x0,x1,x2,x3,x4,x5,x6,x7,x8] u (0,0))):w.cell? ⟨b,0,none⟩=some v0∧w.cell? ⟨b,1,none⟩=some v1∧w.cell? ⟨b,2,none⟩=some v2∧w.cell? ⟨b,3,none⟩=some v3∧w.cell? ⟨b,4,none⟩=some v4∧w.cell? ⟨b,5,none⟩=some v5∧w.cell? ⟨b,6,none⟩=some v6∧w.cell? ⟨c,0,none⟩=some x0∧w.cell? ⟨c,1,none⟩=some x1∧w.cell? ⟨c,2,none⟩=some x2∧w.cell? ⟨c,3,none⟩=some x3∧w.cell? ⟨c,4,none⟩=some x4∧w.cell? ⟨c,5,none⟩=some x5∧w.cell? ⟨c,6,none⟩=some x6∧w.cell? ⟨c,7,none⟩=some x7∧w.cell? ⟨c,8,none⟩=some x8:=by
 refine⟨?_,?_,?_,?_,?_,?_,?_,?_,?_,?_,?_,?_,?_,?_,?_,?_⟩<;>simp[World.cell?,h,k]
section
variable {tb:Nat} {ga:Option Addr} {cap:Nat} {L:List An} {a:Nat}
theorem Ei (l:Lg) (hl:l.ok) (hw:o8 l) (b:List Nat) (hbl:b.length≤300) (hbt:(b.length:Int)≤l.term/8) (eb eo ec:Nat) (QE:b.length≤ec∧ec≤9223372036854775807) (cn:Int) (hc:0≤cn∧cn<2147483648) (w:World) (hB:gu w tb (some ⟨eb,eo,none⟩) b.length b) (h:iE w tb ga cap L a none) (ha:a≤L.length) :
 Calls Tryz.prog 106 #[.pointer (some ⟨tb,0,none⟩),l.val,.int .u32 cn,.slice (some ⟨eb,eo,none⟩) b.length ec] w fun e w'=>(∃(s:jU) (a':Nat),MC s∧e =.returned (.tuple #[.agg (Bd s),.bool true,.bool true,.int .i64 0])∧On w w' tb ga cap L a (kQ (aP l) b cn) (dh (aP l) s) a')∨(∃(s:jU) (a':Nat),MC s∧e =.returned (.tuple #[.agg (Bd s),.bool true,.bool false,.int .i64 0])∧On w w' tb ga cap L a (kQ (aP l) b cn) (.done ⟨s,true,fI (aP l) s,0⟩) a')∨(∃s:jU,MC s∧e =.returned (.tuple #[.agg (Bd s),.bool true,.bool false,.int .i64 10])∧Off w w' tb ga cap L a (kQ (aP l) b cn) (aS s))∨(e =.returned (.tuple #[.agg (Bd bW),.bool false,.bool false,.int .i64 10])∧Off w w' tb ga cap L a (kQ (aP l) b cn) fF):=by
 have hb:=mY hl
 have pU:=fun W=>Ny l hl b.length hbt W
 have hnb:=Dp (aP l) ⟨hb.1,hb.2.1⟩ 40 b.length (by omega)
 obtain⟨p,hp⟩:∃p,cn%3=p:=⟨_,rfl⟩
 have hp0:0≤p∧p<3:=by omega
 have c70:=fun W=>uD l hl p hp0.1 hp0.2 W
 have hadd:kQ (aP l) b cn =.ask fF (rO (l.base+3*l.term+8*(cn%3)) (bB (aP l) 40 b.length)) fun raw=>rM (aP l) b (bB (aP l) 40 b.length) (cn%3) raw.v:=rfl
 obtain⟨nd,hnd⟩:∃n,bB (aP l) 40 b.length=n:=⟨_,rfl⟩
 have Xm:=aC hnd
 rw[hnd]at pU hnb hadd
 rw[hp]at hadd
 obtain⟨tl,htl⟩:∃t,l.base+3*l.term+8*p=t:=⟨_,rfl⟩
 rw[htl]at c70 hadd
 have IB:0≤nd∧nd≤100000:=by omega
 obtain⟨T,hT⟩:∃T,kQ (aP l) b cn=T:=⟨_,rfl⟩
 rw[hT]at hadd ⊢
 have e9:cn.tmod 3=p:=by rw[Int.tmod_eq_emod_of_nonneg (by omega)];exact hp
 have e10:IntKind.i64.wrap p=p:=by rw[IntKind.wrap_i64];omega
 have e11:IntKind.u32.wrap p=p:=by rw[IntKind.wrap_u32];omega
 have e12:IntKind.u64.wrap nd=nd:=by rw[IntKind.wrap_u64];omega
 obtain⟨X,hX⟩:∃X,w.heap.size=X:=⟨_,rfl⟩
 obtain⟨V1,hV1⟩:∃V,w.alloc (.cells (gm l) 23)=V:=⟨_,rfl⟩
 have s1:V1.heap.size=X+1:=by rw[←hV1,←hX];simp
 obtain⟨V2,hV2⟩:∃V,V1.alloc (.cells #[.int .i64 0,.int .i32 0,.int .i64 0,.int .i64 0] 39)=V:=⟨_,rfl⟩
 have HX:=aC (hV2▸(hV1▸((BN.fresh h ha T).as hadd).new hX (.cells (gm l) 23)).new s1 (.cells #[.int .i64 0,.int .i32 0,.int .i64 0,.int .i64 0] 39))
 obtain⟨n0,n1,n2,n3,n4,n5,n6⟩:=iT HX.out.tail.b0
 have HB:=aC hB
 have x9:=fun W=>p8 l hl p hp0.1 hp0.2 W
 unfold Lg.val at c70 pU x9 ⊢
 have HP:=aC (aR hl (aR hw hB))
 clear h ha hw htl hT hp hadd hnd hl hB
 go_enter Tryz.func106,Tryz.ntmps106
 go_wp2_with (first|(go_at_call 104;refine(pU _).mono ?_;clear pU;rintro e GU ⟨rfl,hB⟩;replace HX:=aC (HX.out.below hB);clear hB;clear n0 n1 n2 n3 n4 n5 n6;obtain⟨n0,n1,n2,n3,n4,n5,n6⟩:=iT HX.out.tail.b0)|(go_at_call 70;refine(c70 _).mono ?_;clear c70;rintro e v70 ⟨rfl,hB⟩;replace HX:=aC (HX.out.below hB);clear hB;clear n0 n1 n2 n3 n4 n5 n6))
 refine(Vd tl nd HX.out.mg HX.out.on.le fF (fun raw=>rM (aP l) b nd p raw.v)).mono ?_
 rintro e V (⟨z,hz,rfl,hK⟩|⟨rfl,hK⟩)
 ·obtain⟨zv,hzv⟩:∃v,z.v=v:=⟨_,rfl⟩
  rw[hzv]at hz hK ⊢
  clear hzv
  replace HX:=aC (HX.out.step hK)
  clear hK
  have nW:=fun W=>uA zv hz W
  obtain⟨tm,Cb⟩:∃v,bF (zv/4294967296)=v:=⟨_,rfl⟩
  obtain⟨of,hof⟩:∃v,zv%4294967296=v:=⟨_,rfl⟩
  have rG : -2147483648≤tm∧tm<2147483648:=Cb▸uH _
  have IA:0≤of∧of<4294967296:=by omega
  rw[Cb,hof]at nW
  have hsl:jC p nd zv=⟨p,tm,of,nd⟩:=by unfold jC;rw[Cb,hof]
  have jK:rM (aP l) b nd p zv=if of+nd>l.term then eO (aP l) ⟨p,tm,of,nd⟩ (dh (aP l) ⟨p,tm,of,nd⟩)else framesT (aP l) ⟨p,tm,of,nd⟩ 40 true of b:=by unfold rM;rw[hsl];rfl
  clear Cb hof hsl hz
  have yI:MC ⟨p,tm,of,nd⟩:=⟨rG,IA,IB⟩
  have Qy:tb<X:=hX▸HX.out.vT.lt
  have u5:IntKind.i64.wrap of=of:=by rw[IntKind.wrap_i64];omega
  have u6:IntKind.i64.wrap (of+nd)=of+nd:=by rw[IntKind.wrap_i64];omega
  obtain⟨Y,hY⟩:∃Y,V.heap.size=Y:=⟨_,rfl⟩
  obtain⟨W1,hW1⟩:∃W,V.alloc (.cells #[.int .i64 p,.int .i32 tm,.int .i64 of,.int .i64 nd] 39)=W:=⟨_,rfl⟩
  have t1:W1.heap.size=Y+1:=by rw[←hW1,←hY];simp
  obtain⟨W2,hW2⟩:∃W,W1.alloc (.cells #[.int .i32 0,.int .u8 0,.int .u8 0,.int .u16 0,.int .i32 0,.int .i32 l.dQ,.int .i32 l.str,.int .i32 tm,.int .u64 0] 160)=W:=⟨_,rfl⟩
  have t2:W2.heap.size=Y+2:=by rw[←hW2];simp[t1]
  have H1:=aC (hW1▸HX.out.new hY (.cells #[.int .i64 p,.int .i32 tm,.int .i64 of,.int .i64 nd] 39))
  have H2:=aC (hW2▸H1.out.new t1 (.cells #[.int .i32 0,.int .u8 0,.int .u8 0,.int .u16 0,.int .i32 0,.int .i32 l.dQ,.int .i32 l.str,.int .i32 tm,.int .u64 0] 160))
  have Vn:X+2≤Y:=by have h1:=HX.out.box _ (List.mem_cons_self ..);have:=(Array.getElem?_eq_some_iff.1 h1).1;rw[hY]at this;exact this
  obtain⟨n0,n1,n2,n3,n4,n5,n6⟩:=iT HX.out.tail.b0
  obtain⟨a0,a1,a2,a3,a4,a5,a6⟩:=iT H1.out.tail.tail.b0
  have z8:W2.frozen? ⟨Y+1,8,none⟩=false:=by simp[World.frozen?,H2.out.b0]
  have z9:W2.cell? ⟨Y+1,8,none⟩=some (.int .u64 0):=by simp[World.cell?,H2.out.b0]
  obtain⟨W3,hW3⟩:∃W,W2.setCell ⟨Y+1,8,none⟩ (.int .u64 0)=W:=⟨_,rfl⟩
  have H3:=aC (H2.out.put (Only.set W2 8 (.int .u64 0)) (iw H2.out.b0 8 (.int .u64 0)) (by intro q hq;simp only[List.mem_cons,List.not_mem_nil,or_false]at hq;rcases hq with rfl|rfl|rfl<;>(dsimp only;omega)))
  rw[hW3]at H3
  obtain⟨b0,b1,b2,b3,b4,b5,b6⟩:=iT H3.out.tail.tail.tail.b0
  obtain⟨m0,m1,m2,m3⟩:=dI H3.out.tail.b0
  obtain⟨f0,f1,f2,f3,f4,f5,f6,f7,f8⟩:=Be H3.out.b0
  obtain⟨g0,g2,g3,g4⟩:=tL H3.out.b0
  obtain⟨r0,r1,r2,r3⟩:=eY H3.out.tail.tail.b0
  by_cases hbig:of+nd>l.term
  ·rw[if_pos hbig]at jK
   by_cases hlo:of<l.term
   ·have u7:IntKind.i32.wrap of=of:=by rw[IntKind.wrap_i32];omega
    have u8:IntKind.i64.wrap (l.term-of)=l.term-of:=by rw[IntKind.wrap_i64];omega
    have u9:IntKind.i32.wrap (l.term-of)=l.term-of:=by rw[IntKind.wrap_i32];omega
    go_wp2_with (first|(go_at_call 71;refine(nW _).mono ?_;clear nW;rintro e v71 ⟨rfl,hw'⟩;subst v71))
    go_region
    go_wp2_with (fail)
    obtain⟨V4,GA⟩:∃W,(((W3.setCell ⟨Y+1,3,none⟩ (.int .u16 0)).setCell ⟨Y+1,4,none⟩ (.int .i32 of)).setCell ⟨Y+1,0,none⟩ (.int .i32 (l.term-of))).drew=W:=⟨_,rfl⟩
    rw[GA]
    have H4:=aC (H3.out.put (wr':=V4) (oH :=.cells (l9 l (l.term-of) 0 0 of tm) 160) (GA▸(((Only.set W3 3 (.int .u16 0)).trans (Only.set _ 4 (.int .i32 of))).trans (Only.set _ 0 (.int .i32 (l.term-of)))).trans (Only.of_below (Below.drew (Below.refl _ _)))) (GA▸iw (iw (iw H3.out.b0 3 (.int .u16 0)) 4 (.int .i32 of)) 0 (.int .i32 (l.term-of))) (by intro q hq;simp only[List.mem_cons,List.not_mem_nil,or_false]at hq;rcases hq with rfl|rfl|rfl<;>(dsimp only;omega)))
    clear b0 b1 b2 b3 b4 b5 b6 m0 m1 m2 m3 f0 f1 f2 f3 f4 f5 f6 f7 f8 g0 g2 g3 g4 r0 r1 r2 r3 n0 n1 n2 n3 n4 n5 n6 a0 a1 a2 a3 a4 a5 a6 GA hW3 hW2 hW1 z8 z9 H3 H2 H1 HX
    obtain⟨b0,b1,b2,b3,b4,b5,b6⟩:=iT H4.out.tail.tail.tail.b0
    obtain⟨f0,f1,f2,f3,f4,f5,f6,f7,f8⟩:=Be H4.out.b0
    have hpt:0≤l.base+l.term*p∧l.base+l.term*p≤200000:=by
     have:p=0∨p=1∨p=2:=by omega
     rcases this with e|e|e<;>subst e<;>omega
    obtain⟨pt,wF⟩:∃t,l.base+l.term*p=t:=⟨_,rfl⟩
    rw[wF]at x9 hpt
    have u10:IntKind.i64.wrap (pt+of)=pt+of:=by rw[IntKind.wrap_i64];omega
    have cF:∀V',BN w V' [(Y+1,.cells (l9 l (l.term-of) 0 0 of tm) 160),(Y,.cells #[.int .i64 p,.int .i32 tm,.int .i64 of,.int .i64 nd] 39),(X+1,.cells #[.int .i64 0,.int .i32 0,.int .i64 0,.int .i64 0] 39),(X,.cells (gm l) 23)] tb ga cap L a T (rM (aP l) b nd p zv) (a+1)→Calls Tryz.prog 111 #[.pointer (some ⟨tb,0,none⟩),.agg (gm l),.int .i64 (pt+of),.agg (l9 l (l.term-of) 0 0 of tm),.slice none 0 0] V' fun e w'=>∃bb:Bool,e =.returned (.bool bb)∧R3 V' w' tb ga cap L (a+1) (rM (aP l) b nd p zv) (dh (aP l) ⟨p,tm,of,nd⟩) (aS ⟨p,tm,of,nd⟩) bb:=fun V' hV'=>by
     have hpe:eO (aP l) ⟨p,tm,of,nd⟩ (dh (aP l) ⟨p,tm,of,nd⟩)=frameT (aP l) (aS ⟨p,tm,of,nd⟩) (pt+of) (l.term-of) 0 0 of tm [] (dh (aP l) ⟨p,tm,of,nd⟩):=by
      unfold eO
      rw[if_pos (show(⟨p,tm,of,nd⟩:jU).off<(aP l).term from hlo)]
      subst pt
      rfl
     rw[jK,hpe]
     refine(qx (aS ⟨p,tm,of,nd⟩) (dh (aP l) ⟨p,tm,of,nd⟩) l HP.out.2.1 (pt+of) (l.term-of) 0 0 of tm (by omega) (by omega) (by omega) (by omega) (by omega) rG [] (by simp) none 0 (by simp) V' ⟨rfl,fun j x hj=>by cases hj⟩ hV'.mg hV'.on.le).mono ?_
     rintro e w' (⟨a',rfl,hK⟩|⟨rfl,hK⟩)
     ·exact⟨true,rfl,.inl ⟨rfl,a',hK⟩⟩
     ·exact⟨false,rfl,.inr ⟨rfl,hK⟩⟩
    have HR:=aC jK
    clear jK
    have pg:=aC (aR b0 (aR b1 (aR b2 (aR b3 (aR b4 (aR b5 (aR b6 (aR f0 (aR f1 (aR f2 (aR f3 (aR f4 (aR f5 (aR f6 (aR f7 f8)))))))))))))))
    first
    | (go_region_held (fun W'=>W'.cell? ⟨X,0,none⟩=some (.int .i64 l.base)∧W'.cell? ⟨X,1,none⟩=some (.int .i64 l.term)∧W'.cell? ⟨X,2,none⟩=some (.int .i64 l.aV)∧W'.cell? ⟨X,3,none⟩=some (.int .i64 l.subs)∧W'.cell? ⟨X,4,none⟩=some (.int .i32 l.bG)∧W'.cell? ⟨X,5,none⟩=some (.int .i32 l.dQ)∧W'.cell? ⟨X,6,none⟩=some (.int .i32 l.str)∧W'.cell? ⟨Y+1,0,none⟩=some (.int .i32 (l.term-of))∧W'.cell? ⟨Y+1,1,none⟩=some (.int .u8 0)∧W'.cell? ⟨Y+1,2,none⟩=some (.int .u8 0)∧W'.cell? ⟨Y+1,3,none⟩=some (.int .u16 0)∧W'.cell? ⟨Y+1,4,none⟩=some (.int .i32 of)∧W'.cell? ⟨Y+1,5,none⟩=some (.int .i32 l.dQ)∧W'.cell? ⟨Y+1,6,none⟩=some (.int .i32 l.str)∧W'.cell? ⟨Y+1,7,none⟩=some (.int .i32 tm)∧W'.cell? ⟨Y+1,8,none⟩=some (.int .u64 0))
        (first|exact ou.out|exact o9.out|exact pg.out)
        (first
        | (go_at_call 69;refine(x9 _).mono ?_;rintro e v69 ⟨rfl,kL⟩;have H5:=aC ((H4.out.below (Below.drew (Below.refl _ V4))).below kL);clear kL;have o9:=aC (fD H5.out.tail.tail.tail.b0 H5.out.b0))
        | (go_at_call 111;refine(cF _ H5.out).mono ?_;rintro e j3 ⟨bb,rfl,hF⟩;have HF:=aC hF;have ou:=aC (fD (H5.out.vN hF _ (List.mem_cons_of_mem _ (List.mem_cons_of_mem _ (List.mem_cons_of_mem _ (List.mem_cons_self ..))))) (H5.out.vN hF _ (List.mem_cons_self ..)));clear hF)))|fail
    rcases HF.out with⟨rfl,a2,hK⟩|⟨rfl,hK⟩
    ·have H6:=aC (H5.out.step hK)
     clear hK HF pg o9 ou H4 H5
     obtain⟨m0,m1,m2,m3⟩:=dI H6.out.tail.b0
     obtain⟨r0,r1,r2,r3⟩:=eY (H6.out.tail.tail.b0)
     obtain⟨z0,z1,z2,z3⟩:=dI (H6.out.tail.tail.b0)
     go_wp2
     obtain⟨Z,hZ⟩:∃W,(((j3.setCell ⟨X+1,0,none⟩ (.int .i64 (p))).setCell ⟨X+1,1,none⟩ (.int .i32 (tm))).setCell ⟨X+1,2,none⟩ (.int .i64 (of))).setCell ⟨X+1,3,none⟩ (.int .i64 (nd))=W:=⟨_,rfl⟩
     have h4:=dF (H6.out.tail.tail.b0) (.int .i64 (p)) (.int .i32 (tm)) (.int .i64 (of)) (.int .i64 (nd))
     rw[hZ]at h4 ⊢
     obtain⟨k0,k1,k2,k3⟩:=dI h4.1
     clear hZ z0 z1 z2 z3 r0 r1 r2 r3
     refine bodyPost_ret (v :=.tuple #[.agg #[.int .i64 (p),.int .i32 (tm),.int .i64 (of),.int .i64 (nd)],.bool true,.bool true,.int .i64 0]) (by simp[results,Tryz.results106,go_sem,k0,k1,k2,k3]) rfl (.inl ⟨⟨p,tm,of,nd⟩,a2,yI,rfl,H6.out.only h4.2 (by omega)⟩)
    ·have jh:=aC (H5.out.jg hK)
     have HO:=aC (H5.out.off hK)
     clear hK HF pg o9 ou H4 H5
     have q1:=jh.out (X+1,.cells #[.int .i64 0,.int .i32 0,.int .i64 0,.int .i64 0] 39) (List.mem_cons_of_mem _ (List.mem_cons_of_mem _ (List.mem_cons_self ..)))
     have q0:=jh.out (Y,.cells #[.int .i64 p,.int .i32 tm,.int .i64 of,.int .i64 nd] 39) (List.mem_cons_of_mem _ (List.mem_cons_self ..))
     obtain⟨m0,m1,m2,m3⟩:=dI q0
     obtain⟨r0,r1,r2,r3⟩:=eY (q1)
     obtain⟨z0,z1,z2,z3⟩:=dI (q1)
     have HQ:=aC q1
     clear q0
     go_wp2
     obtain⟨Z,hZ⟩:∃W,(((j3.setCell ⟨X+1,0,none⟩ (.int .i64 (p))).setCell ⟨X+1,1,none⟩ (.int .i32 (tm))).setCell ⟨X+1,2,none⟩ (.int .i64 (of))).setCell ⟨X+1,3,none⟩ (.int .i64 (nd))=W:=⟨_,rfl⟩
     have h4:=dF (HQ.out) (.int .i64 (p)) (.int .i32 (tm)) (.int .i64 (of)) (.int .i64 (nd))
     rw[hZ]at h4 ⊢
     obtain⟨k0,k1,k2,k3⟩:=dI h4.1
     clear hZ z0 z1 z2 z3 r0 r1 r2 r3
     refine bodyPost_ret (v :=.tuple #[.agg #[.int .i64 (p),.int .i32 (tm),.int .i64 (of),.int .i64 (nd)],.bool true,.bool false,.int .i64 10]) (by simp[results,Tryz.results106,go_sem,k0,k1,k2,k3]) rfl (.inr (.inr (.inl ⟨⟨p,tm,of,nd⟩,yI,rfl,HO.out.put HQ.out h4.2 (by omega) (by omega)⟩)))
   ·have hpe:eO (aP l) ⟨p,tm,of,nd⟩ (dh (aP l) ⟨p,tm,of,nd⟩)=dh (aP l) ⟨p,tm,of,nd⟩:=by
     unfold eO
     rw[if_neg (show ¬(⟨p,tm,of,nd⟩:jU).off<(aP l).term from hlo)]
    have H6:=aC (H3.out.as (jK.trans hpe))
    obtain⟨r0,r1,r2,r3⟩:=eY (H6.out.tail.tail.b0)
    obtain⟨z0,z1,z2,z3⟩:=dI (H6.out.tail.tail.b0)
    go_wp2_with (first|(go_at_call 71;refine(nW _).mono ?_;clear nW;rintro e v71 ⟨rfl,hw'⟩;subst v71))
    obtain⟨Z,hZ⟩:∃W,(((W3.setCell ⟨X+1,0,none⟩ (.int .i64 (p))).setCell ⟨X+1,1,none⟩ (.int .i32 (tm))).setCell ⟨X+1,2,none⟩ (.int .i64 (of))).setCell ⟨X+1,3,none⟩ (.int .i64 (nd))=W:=⟨_,rfl⟩
    have h4:=dF (H6.out.tail.tail.b0) (.int .i64 (p)) (.int .i32 (tm)) (.int .i64 (of)) (.int .i64 (nd))
    rw[hZ]at h4 ⊢
    obtain⟨k0,k1,k2,k3⟩:=dI h4.1
    clear hZ z0 z1 z2 z3 r0 r1 r2 r3
    refine bodyPost_ret (v :=.tuple #[.agg #[.int .i64 (p),.int .i32 (tm),.int .i64 (of),.int .i64 (nd)],.bool true,.bool true,.int .i64 0]) (by simp[results,Tryz.results106,go_sem,k0,k1,k2,k3]) rfl (.inl ⟨⟨p,tm,of,nd⟩,_,yI,rfl,H6.out.only h4.2 (by omega)⟩)
  ·rw[if_neg hbig]at jK
   obtain⟨mN,Y8⟩:∃m:Nat,(m:Int)=l.aV:=⟨l.aV.toNat,by omega⟩
   have c160:=fun W=>OJ l HP.out.1 b.length hbt W
   unfold Lg.val at c160
   obtain⟨pt,wF⟩:∃t,l.base+l.term*p=t:=⟨_,rfl⟩
   have hpt:0≤pt∧pt≤200000:=by
    rw[←wF]
    have:p=0∨p=1∨p=2:=by omega
    rcases this with e|e|e<;>subst e<;>omega
   rw[wF]at x9
   have HT:=aC wF
   clear wF
   have HA:=aC jK
   clear jK
   go_wp2_with (first|(go_at_call 71;refine(nW _).mono ?_;clear nW;rintro e v71 ⟨rfl,hw'⟩;subst v71)|(go_at_call 160;refine(c160 _).mono ?_;clear c160;rintro e v160 ⟨v,j,r,rfl,hn,hr0,hr1,hj0,hown,hB⟩;obtain⟨va,vc,rfl⟩:=iC hown;have HC:=aC (aR hn (aR hr0 (aR hr1 (aR hj0 (aR hown hB)))));clear hn hr0 hr1 hj0 hown hB))
   clear n0 n1 n2 n3 n4 n5 n6 a0 a1 a2 a3 a4 a5 a6 b0 b1 b2 b3 b4 b5 b6 m0 m1 m2 m3 f0 f1 f2 f3 f4 f5 f6 f7 f8 g0 g2 g3 g4 r0 r1 r2 r3 z8 z9
   obtain⟨rN,hrN⟩:∃m:Nat,(m:Int)=r:=⟨r.toNat,by have:=HC.out.2.1;omega⟩
   subst hrN
   obtain⟨hn,hr0,hr1,hj0,hown,FQ⟩:=HC.out
   have QC:=Ai hb.1 hn hr0 (by omega)
   have hlb:b.length=mN*j+rN:=by have e:((mN*j:Nat):Int)=l.aV*(j:Int):=by rw[Int.natCast_mul,Y8]
                                 omega
   have hrm:rN≤mN:=by omega
   obtain⟨F,hF⟩:∃F,aU l.aV=F:=⟨_,rfl⟩
   obtain⟨G,hG⟩:∃G,aU (rN:Int)=G:=⟨_,rfl⟩
   have Zc:32≤F∧F≤1056:=hF▸DR (by omega)
   have hGb:32≤G∧G≤1056:=hG▸DR (by omega)
   have RA:nd=(j:Int)*F+G:=by
    have:=sW (aP l) hb.1 rN hr1 j 40 (by omega) hj0
    rw[show(aP l).aV*(j:Int)+(rN:Int)=(b.length:Int)from hn.symm,Xm.out,show aU (aP l).aV=F from hF,hG]at this
    exact this
   have Oc:fT (aP l) ⟨p,tm,of,nd⟩ b mN j 0=framesT (aP l) ⟨p,tm,of,nd⟩ 40 true of b:=Ow _ _ _ _ _
   replace H3:=aC ((H3.out.as (HA.out.trans Oc.symm)).below FQ)
   have HS:=aC (aR hn (aR hlb (aR hrm (aR RA hj0))))
   obtain⟨N0,hN0⟩:∃N,v160.heap.size=N:=⟨_,rfl⟩
   have hY1:Y+2≤N0:=by have h1:=(Array.getElem?_eq_some_iff.1 H3.out.b0).1;omega
   have aag:W3.heap.size=Y+2:=by rw[←hW3];show(W2.heap.modify _ _).size=_;rw[Array.size_modify];exact t2
   have HE:=aC (aR hown (aR hN0 aag))
   clear hn hr0 hr1 hj0 hown FQ HC RA Oc hW3 hW2 hW1 hV1 hV2 t1 t2 s1 H1 H2 HA HX hnb hc IB
   have hGs:=aC hG
   clear hG
   go_loopw [3,18,116] (fun y3 Zq R6 wr=>∃(i:Nat),R6 =.int .i64 (i:Int)∧i≤j+1∧Zq =.int .u32 (of+((min i j:Nat):Int)*F+if i≤j then 0 else G)∧(i≤j→y3 =.slice (some ⟨eb,eo+mN*i,none⟩) (b.length-mN*i) (ec-mN*i))∧Hid (∃(c0 c2 c3 c4:Int) (a':Nat),BN w wr [(Y+1,.cells #[.int .i32 c0,.int .u8 0,.int .u8 c2,.int .u16 c3,.int .i32 c4,.int .i32 l.dQ,.int .i32 l.str,.int .i32 tm,.int .u64 0] 160),(Y,.cells #[.int .i64 p,.int .i32 tm,.int .i64 of,.int .i64 nd] 39),(X+1,.cells #[.int .i64 0,.int .i32 0,.int .i64 0,.int .i64 0] 39),(X,.cells (gm l) 23)] tb ga cap L a T (fT (aP l) ⟨p,tm,of,nd⟩ b mN j i) a'∧(∀k,k<N0→k≠tb→k≠Y+1→wr.heap[k]? = v160.heap[k]?)∧N0≤wr.heap.size)) (fun _ _ y _=>(1000-intOf y).toNat)
   case atStart=>exact⟨0,rfl,by omega,by simp,fun _=>by simp,aC ⟨0,0,0,0,_,H3.out,fun _ _ _ _=>rfl,Nat.le_of_eq hN0.symm⟩⟩
   case round =>
    obtain⟨i,rfl,hij,rfl,hy3,H⟩:=hrel
    by_cases hlt:i<j+1
    ·obtain rfl:=hy3 (by omega)
     obtain⟨c0,c2,c3,c4,a',Mi,hag,TJ⟩:=H.out
     have H4:=aC Mi
     clear Mi H
     obtain⟨g,gc,e,hg0,hg1,hgc,hcl⟩:=mq HE.out.1 (IZ hlt)
     injection e with e1 e2 e3
     subst e1 e3
     obtain⟨nN,Y6,Oh⟩:∃nN:Nat,((i<j∧nN=mN)∨(i=j∧nN=rN))∧wr.cell? ⟨g,i,none⟩=some (.int .i64 (nN:Int)):=by
      have hgs:=HE.out.2.2
      have h1:=hag g (by have:=HE.out.2.1;omega) (by omega) (by omega)
      rw[Nat.zero_add]at hcl
      by_cases hi:i<j
      ·exact⟨mN,.inl ⟨hi,rfl⟩,by rw[if_pos hi,←Y8]at hcl;exact BA h1 hcl⟩
      ·exact⟨rN,.inr ⟨by omega,rfl⟩,by rw[if_neg hi]at hcl;exact BA h1 hcl⟩
     clear hcl
     obtain⟨oi,hoi⟩:∃o,of+((min i j:Nat):Int)*F+(if i≤j then 0 else G)=o:=⟨_,rfl⟩
     have Iz:of+(i:Int)*F=oi:=by rw[←hoi,show min i j=i by omega,if_pos (show i≤j by omega),Int.add_zero]
     have acI:0≤oi∧oi≤8192:=U9 Zc hGb (show i≤j by omega) IA.1 (by have:=HS.out.2.2.2.1;omega) Iz hb.2.2.2.1
     rw[hoi]
     have hnb:=Va (nN:=nN) HS.out.2.1 Y6 HS.out.2.2.1
     obtain⟨sz,hsz⟩:∃s,aU (nN:Int)=s:=⟨_,rfl⟩
     have hsz0:32≤sz∧sz≤1056:=hsz▸DR (by omega)
     have c109:=fun W=>zY (nN:Int) (by omega) W
     rw[hsz]at c109
     have HST:=aC (Ra (aP l) ⟨p,tm,of,nd⟩ b Y8 HS.out.2.1 HS.out.2.2.1 (fun h=>by have:=HS.out.2.2.2.2 h;omega) QC Y6 HT.out hF Iz)
     have Zm:=aC (Rb Y8 hF hGs.out hsz Y6 Iz)
     have GH:=aC hnb
     have v1:IntKind.i64.wrap (i:Int)=(i:Int):=by rw[IntKind.wrap_i64];omega
     have v2:(0:Int)≤(i:Int):=by omega
     have v3:(i:Int)<((j+1:Nat):Int):=by omega
     have v4:IntKind.i64.wrap ((i:Int)+1)=(i:Int)+1:=by rw[IntKind.wrap_i64];omega
     have v5:IntKind.i32.wrap oi=oi:=by rw[IntKind.wrap_i32];omega
     have v6:IntKind.i64.wrap (32+(nN:Int))=32+(nN:Int):=by rw[IntKind.wrap_i64];omega
     have v7:IntKind.i32.wrap (32+(nN:Int))=32+(nN:Int):=by rw[IntKind.wrap_i32];omega
     have v8:IntKind.i64.wrap oi=oi:=by rw[IntKind.wrap_i64];omega
     have v9:IntKind.i64.wrap (pt+oi)=pt+oi:=by rw[IntKind.wrap_i64];omega
     have v10:IntKind.u32.wrap sz=sz:=by rw[IntKind.wrap_u32];omega
     have v11:IntKind.u32.wrap (oi+sz)=oi+sz:=by rw[IntKind.wrap_u32];omega
     have v12:(0:Int)≤(nN:Int):=by omega
     have v13:(nN:Int)≤((ec-mN*i:Nat):Int):=by omega
     have v14:(nN:Int)≤((b.length-mN*i:Nat):Int):=by omega
     have v15:IntKind.i64.wrap (((j+1:Nat):Int)-1)=(j:Int):=by rw[IntKind.wrap_i64];omega
     have v16:((j+1:Nat):Int)-1=(j:Int):=by omega
     have Zo:=aC hag
     have Cy:=aC TJ
     obtain⟨f0,f1,f2,f3,f4,f5,f6,f7,f8⟩:=Be H4.out.b0
     obtain⟨g0,g2,g3,g4⟩:=tL H4.out.b0
     obtain⟨Gv,Uc⟩:∃W,(((wr.setCell ⟨Y+1,3,none⟩ (.int .u16 1)).setCell ⟨Y+1,4,none⟩ (.int .i32 oi)).setCell ⟨Y+1,0,none⟩ (.int .i32 (32+(nN:Int)))).setCell ⟨Y+1,2,none⟩ (.int .u8 0)=W:=⟨_,rfl⟩
     have BI:=aC ((((Only.set wr 3 (.int .u16 1)).trans (Only.set _ 4 (.int .i32 oi))).trans (Only.set _ 0 (.int .i32 (32+(nN:Int))))).trans (Only.set (tb:=Y+1) _ 2 (.int .u8 0)))
     have EB:=aC (H4.out.put (oH :=.cells (l9 l (32+(nN:Int)) 0 1 oi tm) 160) BI.out (iw (iw (iw (iw H4.out.b0 3 (.int .u16 1)) 4 (.int .i32 oi)) 0 (.int .i32 (32+(nN:Int)))) 2 (.int .u8 0)) (by intro q hq;simp only[List.mem_cons,List.not_mem_nil,or_false]at hq;rcases hq with rfl|rfl|rfl<;>(dsimp only;omega)))
     rw[Uc]at EB BI
     obtain⟨VC,VB,VA,Vz,Vy,Vx,Vv,Vu,Vt⟩:=Be EB.out.b0
     obtain⟨Vs,Vr,Vq,Vp⟩:=tL EB.out.b0
     clear Y6 Iz hoi hsz hnb hag hlb hrm TJ
     by_cases hi0:i=0
     ·by_cases hij2:i=j
      ·skip
       have w1:((i:Int)==0)=true:=by simp[hi0]
       have w2:((i:Int)==(j:Int))=true:=by simp[hij2]
       have hgv:(if i=0 then(128:Int)else 0)+(if i=j then 64 else 0)=192:=by rw[if_pos hi0,if_pos hij2]<;>decide
       rw[hgv]at HST
       clear hi0 hij2 hgv
       obtain⟨MB,FP⟩:∃W,Gv.setCell ⟨Y+1,2,none⟩ (.int .u8 128)=W:=⟨_,rfl⟩
       have EA:=aC (EB.out.put (oH :=.cells (l9 l (32+(nN:Int)) 128 1 oi tm) 160) (Only.set Gv 2 (.int .u8 128)) (iw EB.out.b0 2 (.int .u8 128)) (by intro q hq;simp only[List.mem_cons,List.not_mem_nil,or_false]at hq;rcases hq with rfl|rfl|rfl<;>(dsimp only;omega)))
       rw[FP]at EA
       obtain⟨Yg,Ye,Yc,Ya,X8,X6,X4,X0,XY⟩:=Be EA.out.b0
       obtain⟨XW,XU,XR,XP⟩:=tL EA.out.b0
       obtain⟨KN,FO⟩:∃W,MB.setCell ⟨Y+1,2,none⟩ (.int .u8 192)=W:=⟨_,rfl⟩
       have A8:=aC (EA.out.put (oH :=.cells (l9 l (32+(nN:Int)) 192 1 oi tm) 160) (Only.set MB 2 (.int .u8 192)) (iw EA.out.b0 2 (.int .u8 192)) (by intro q hq;simp only[List.mem_cons,List.not_mem_nil,or_false]at hq;rcases hq with rfl|rfl|rfl<;>(dsimp only;omega)))
       rw[FO]at A8
       obtain⟨Yf,Yd,Yb,X9,X7,X5,X3,XZ,XX⟩:=Be A8.out.b0
       obtain⟨XV,XT,XQ,XO⟩:=tL A8.out.b0
       have Cz:=aC (show Only (Y+1) wr KN from(BI.out.trans (FP▸Only.set Gv 2 (.int .u8 128))).trans (FO▸Only.set MB 2 (.int .u8 192)))
       obtain⟨b0,b1,b2,b3,b4,b5,b6⟩:=iT A8.out.tail.tail.tail.b0
       go_wp2_with (fail)
       clear f0 f1 f2 f3 f4 f5 f6 f7 f8 g0 g2 g3 g4
       clear VC VB VA Vz Vy Vx Vv Vu Vt Vs Vr Vq Vp
       clear Yg Ye Yc Ya X8 X6 X4 X0 XY XW XU XR XP
       have cF:∀V',BN w V' [(Y+1,.cells (l9 l (32+(nN:Int)) 192 1 oi tm) 160),(Y,.cells #[.int .i64 p,.int .i32 tm,.int .i64 of,.int .i64 nd] 39),(X+1,.cells #[.int .i64 0,.int .i32 0,.int .i64 0,.int .i64 0] 39),(X,.cells (gm l) 23)] tb ga cap L a T (fT (aP l) ⟨p,tm,of,nd⟩ b mN j i) a'→Calls Tryz.prog 111 #[.pointer (some ⟨tb,0,none⟩),.agg (gm l),.int .i64 (pt+oi),.agg (l9 l (32+(nN:Int)) 192 1 oi tm),.slice (some ⟨eb,eo+mN*i,none⟩) nN (ec-mN*i)] V' fun e w'=>∃bb:Bool,e =.returned (.bool bb)∧R3 V' w' tb ga cap L a' (fT (aP l) ⟨p,tm,of,nd⟩ b mN j i) (fT (aP l) ⟨p,tm,of,nd⟩ b mN j (i+1)) (aS ⟨p,tm,of,nd⟩) bb:=fun V' hV'=>by
        have hlen:((b.drop (mN*i)).take nN).length=nN:=by have:=GH.out.1;simp;omega
        rw[HST.out]
        have cf:=qx (aS ⟨p,tm,of,nd⟩) (fT (aP l) ⟨p,tm,of,nd⟩ b mN j (i+1)) l HP.out.2.1 (pt+oi) (32+(nN:Int)) 192 1 oi tm (by omega) (by omega) (by omega) (by omega) (by omega) rG ((b.drop (mN*i)).take nN) (by rw[hlen];omega) (some ⟨eb,eo+mN*i,none⟩) (ec-mN*i) (by rw[hlen];omega) V' (by rw[hlen];exact(HB.out.only hV'.on.ta.2).sub (mN*i) nN GH.out.1) hV'.mg hV'.on.le
        rw[hlen]at cf
        refine cf.mono ?_
        rintro e w' (⟨a2,rfl,hK⟩|⟨rfl,hK⟩)
        ·exact⟨true,rfl,.inl ⟨rfl,a2,hK⟩⟩
        ·exact⟨false,rfl,.inr ⟨rfl,hK⟩⟩
       have pg:=aC (fD A8.out.tail.tail.tail.b0 A8.out.b0)
       first
       | (go_region_held (fun W'=>W'.cell? ⟨X,0,none⟩=some (.int .i64 l.base)∧W'.cell? ⟨X,1,none⟩=some (.int .i64 l.term)∧W'.cell? ⟨X,2,none⟩=some (.int .i64 l.aV)∧W'.cell? ⟨X,3,none⟩=some (.int .i64 l.subs)∧W'.cell? ⟨X,4,none⟩=some (.int .i32 l.bG)∧W'.cell? ⟨X,5,none⟩=some (.int .i32 l.dQ)∧W'.cell? ⟨X,6,none⟩=some (.int .i32 l.str)∧W'.cell? ⟨Y+1,0,none⟩=some (.int .i32 (32+(nN:Int)))∧W'.cell? ⟨Y+1,1,none⟩=some (.int .u8 0)∧W'.cell? ⟨Y+1,2,none⟩=some (.int .u8 192)∧W'.cell? ⟨Y+1,3,none⟩=some (.int .u16 1)∧W'.cell? ⟨Y+1,4,none⟩=some (.int .i32 oi)∧W'.cell? ⟨Y+1,5,none⟩=some (.int .i32 l.dQ)∧W'.cell? ⟨Y+1,6,none⟩=some (.int .i32 l.str)∧W'.cell? ⟨Y+1,7,none⟩=some (.int .i32 tm)∧W'.cell? ⟨Y+1,8,none⟩=some (.int .u64 0))
           (first|exact ou.out|exact o9.out|exact pg.out)
           (first
           | (go_at_call 69;refine(x9 _).mono ?_;rintro e v69 ⟨rfl,kL⟩;have H5:=aC ((A8.out.below (Below.drew (Below.refl _ KN))).below kL);have GI:=aC ((Below.drew (Below.refl KN.heap.size KN)).trans kL);clear kL;have o9:=aC (fD H5.out.tail.tail.tail.b0 H5.out.b0))
           | (go_at_call 111;refine(cF _ H5.out).mono ?_;rintro e j3 ⟨bb,rfl,hF⟩;have HF:=aC hF;have ou:=aC (fD (H5.out.vN hF _ (List.mem_cons_of_mem _ (List.mem_cons_of_mem _ (List.mem_cons_of_mem _ (List.mem_cons_self ..))))) (H5.out.vN hF _ (List.mem_cons_self ..)));clear hF)))|fail
       clear b0 b1 b2 b3 b4 b5 b6
       clear Yf Yd Yb X9 X7 X5 X3 XZ XX XV XT XQ XO
       rcases HF.out with⟨rfl,a2,hK⟩|⟨rfl,hK⟩
       ·have H6:=aC (H5.out.step hK)
        have Vi:=aC (show ∀k,k<N0→k≠tb→k≠Y+1→j3.heap[k]? = v160.heap[k]? from fun k h1 h2 h3=>((hK.ta.2.block k (by have:=Cz.out.size;have:=GI.out.size;have:=Cy.out;omega) h2).trans (GI.out.block k (by have:=Cz.out.size;have:=Cy.out;omega))).trans ((Cz.out.block k (by have:=Cy.out;omega) h3).trans (Zo.out k h1 h2 h3)))
        have Vh:=aC (show N0≤j3.heap.size from Nat.le_trans Cy.out (Nat.le_trans Cz.out.size (Nat.le_trans GI.out.size hK.ta.2.size)))
        clear hK HF pg o9 ou H5 cF
        go_wp2_with (first|(go_at_call 109;refine(c109 _).mono ?_;clear c109;rintro e CF ⟨rfl,hw'⟩;subst CF))
        go_roundw
        case measure=>simp[intOf];omega
        case rel =>
         refine⟨i+1,by simp,by omega,by rw[Zm.out],fun h => ?_,aC ⟨32+(nN:Int),192,1,oi,a2,H6.out,Vi.out,Vh.out⟩⟩
         rw[if_neg (show ¬ec-mN*i=nN from Em (GH.out.2.2.2 (by omega) (by have:=HS.out.2.2.2.2 (by omega);omega)) QE.1),←GH.out.2.2.1 (by omega)]
         simp only[Nat.add_assoc,Nat.sub_sub]
       ·have jh:=aC (H5.out.jg hK)
        have HO:=aC (H5.out.off hK)
        clear hK HF pg o9 ou H5 cF
        have q1:=jh.out (X+1,.cells #[.int .i64 0,.int .i32 0,.int .i64 0,.int .i64 0] 39) (List.mem_cons_of_mem _ (List.mem_cons_of_mem _ (List.mem_cons_self ..)))
        have q0:=jh.out (Y,.cells #[.int .i64 p,.int .i32 tm,.int .i64 of,.int .i64 nd] 39) (List.mem_cons_of_mem _ (List.mem_cons_self ..))
        obtain⟨m0,m1,m2,m3⟩:=dI q0
        obtain⟨r0,r1,r2,r3⟩:=eY (q1)
        obtain⟨z0,z1,z2,z3⟩:=dI (q1)
        have HQ:=aC q1
        clear q0
        go_wp2
        obtain⟨Z,hZ⟩:∃W,(((j3.setCell ⟨X+1,0,none⟩ (.int .i64 (p))).setCell ⟨X+1,1,none⟩ (.int .i32 (tm))).setCell ⟨X+1,2,none⟩ (.int .i64 (of))).setCell ⟨X+1,3,none⟩ (.int .i64 (nd))=W:=⟨_,rfl⟩
        have h4:=dF (HQ.out) (.int .i64 (p)) (.int .i32 (tm)) (.int .i64 (of)) (.int .i64 (nd))
        rw[hZ]at h4 ⊢
        obtain⟨k0,k1,k2,k3⟩:=dI h4.1
        clear hZ z0 z1 z2 z3 r0 r1 r2 r3
        refine bodyPost_ret (v :=.tuple #[.agg #[.int .i64 (p),.int .i32 (tm),.int .i64 (of),.int .i64 (nd)],.bool true,.bool false,.int .i64 10]) (by simp[results,Tryz.results106,go_sem,k0,k1,k2,k3]) rfl (.inr (.inr (.inl ⟨⟨p,tm,of,nd⟩,yI,rfl,HO.out.put HQ.out h4.2 (by omega) (by omega)⟩)))
      ·skip
       have w1:((i:Int)==0)=true:=by simp[hi0]
       have w2:((i:Int)==(j:Int))=false:=by simp;omega
       have hgv:(if i=0 then(128:Int)else 0)+(if i=j then 64 else 0)=128:=by rw[if_pos hi0,if_neg hij2]<;>decide
       rw[hgv]at HST
       clear hi0 hij2 hgv
       obtain⟨MB,FP⟩:∃W,Gv.setCell ⟨Y+1,2,none⟩ (.int .u8 128)=W:=⟨_,rfl⟩
       have EA:=aC (EB.out.put (oH :=.cells (l9 l (32+(nN:Int)) 128 1 oi tm) 160) (Only.set Gv 2 (.int .u8 128)) (iw EB.out.b0 2 (.int .u8 128)) (by intro q hq;simp only[List.mem_cons,List.not_mem_nil,or_false]at hq;rcases hq with rfl|rfl|rfl<;>(dsimp only;omega)))
       rw[FP]at EA
       obtain⟨Yg,Ye,Yc,Ya,X8,X6,X4,X0,XY⟩:=Be EA.out.b0
       obtain⟨XW,XU,XR,XP⟩:=tL EA.out.b0
       have Cz:=aC (show Only (Y+1) wr MB from(BI.out.trans (FP▸Only.set Gv 2 (.int .u8 128))))
       obtain⟨b0,b1,b2,b3,b4,b5,b6⟩:=iT EA.out.tail.tail.tail.b0
       go_wp2_with (fail)
       clear f0 f1 f2 f3 f4 f5 f6 f7 f8 g0 g2 g3 g4
       clear VC VB VA Vz Vy Vx Vv Vu Vt Vs Vr Vq Vp
       have cF:∀V',BN w V' [(Y+1,.cells (l9 l (32+(nN:Int)) 128 1 oi tm) 160),(Y,.cells #[.int .i64 p,.int .i32 tm,.int .i64 of,.int .i64 nd] 39),(X+1,.cells #[.int .i64 0,.int .i32 0,.int .i64 0,.int .i64 0] 39),(X,.cells (gm l) 23)] tb ga cap L a T (fT (aP l) ⟨p,tm,of,nd⟩ b mN j i) a'→Calls Tryz.prog 111 #[.pointer (some ⟨tb,0,none⟩),.agg (gm l),.int .i64 (pt+oi),.agg (l9 l (32+(nN:Int)) 128 1 oi tm),.slice (some ⟨eb,eo+mN*i,none⟩) nN (ec-mN*i)] V' fun e w'=>∃bb:Bool,e =.returned (.bool bb)∧R3 V' w' tb ga cap L a' (fT (aP l) ⟨p,tm,of,nd⟩ b mN j i) (fT (aP l) ⟨p,tm,of,nd⟩ b mN j (i+1)) (aS ⟨p,tm,of,nd⟩) bb:=fun V' hV'=>by
        have hlen:((b.drop (mN*i)).take nN).length=nN:=by have:=GH.out.1;simp;omega
        rw[HST.out]
        have cf:=qx (aS ⟨p,tm,of,nd⟩) (fT (aP l) ⟨p,tm,of,nd⟩ b mN j (i+1)) l HP.out.2.1 (pt+oi) (32+(nN:Int)) 128 1 oi tm (by omega) (by omega) (by omega) (by omega) (by omega) rG ((b.drop (mN*i)).take nN) (by rw[hlen];omega) (some ⟨eb,eo+mN*i,none⟩) (ec-mN*i) (by rw[hlen];omega) V' (by rw[hlen];exact(HB.out.only hV'.on.ta.2).sub (mN*i) nN GH.out.1) hV'.mg hV'.on.le
        rw[hlen]at cf
        refine cf.mono ?_
        rintro e w' (⟨a2,rfl,hK⟩|⟨rfl,hK⟩)
        ·exact⟨true,rfl,.inl ⟨rfl,a2,hK⟩⟩
        ·exact⟨false,rfl,.inr ⟨rfl,hK⟩⟩
       have pg:=aC (fD EA.out.tail.tail.tail.b0 EA.out.b0)
       first
       | (go_region_held (fun W'=>W'.cell? ⟨X,0,none⟩=some (.int .i64 l.base)∧W'.cell? ⟨X,1,none⟩=some (.int .i64 l.term)∧W'.cell? ⟨X,2,none⟩=some (.int .i64 l.aV)∧W'.cell? ⟨X,3,none⟩=some (.int .i64 l.subs)∧W'.cell? ⟨X,4,none⟩=some (.int .i32 l.bG)∧W'.cell? ⟨X,5,none⟩=some (.int .i32 l.dQ)∧W'.cell? ⟨X,6,none⟩=some (.int .i32 l.str)∧W'.cell? ⟨Y+1,0,none⟩=some (.int .i32 (32+(nN:Int)))∧W'.cell? ⟨Y+1,1,none⟩=some (.int .u8 0)∧W'.cell? ⟨Y+1,2,none⟩=some (.int .u8 128)∧W'.cell? ⟨Y+1,3,none⟩=some (.int .u16 1)∧W'.cell? ⟨Y+1,4,none⟩=some (.int .i32 oi)∧W'.cell? ⟨Y+1,5,none⟩=some (.int .i32 l.dQ)∧W'.cell? ⟨Y+1,6,none⟩=some (.int .i32 l.str)∧W'.cell? ⟨Y+1,7,none⟩=some (.int .i32 tm)∧W'.cell? ⟨Y+1,8,none⟩=some (.int .u64 0))
           (first|exact ou.out|exact o9.out|exact pg.out)
           (first
           | (go_at_call 69;refine(x9 _).mono ?_;rintro e v69 ⟨rfl,kL⟩;have H5:=aC ((EA.out.below (Below.drew (Below.refl _ MB))).below kL);have GI:=aC ((Below.drew (Below.refl MB.heap.size MB)).trans kL);clear kL;have o9:=aC (fD H5.out.tail.tail.tail.b0 H5.out.b0))
           | (go_at_call 111;refine(cF _ H5.out).mono ?_;rintro e j3 ⟨bb,rfl,hF⟩;have HF:=aC hF;have ou:=aC (fD (H5.out.vN hF _ (List.mem_cons_of_mem _ (List.mem_cons_of_mem _ (List.mem_cons_of_mem _ (List.mem_cons_self ..))))) (H5.out.vN hF _ (List.mem_cons_self ..)));clear hF)))|fail
       clear b0 b1 b2 b3 b4 b5 b6
       clear Yg Ye Yc Ya X8 X6 X4 X0 XY XW XU XR XP
       rcases HF.out with⟨rfl,a2,hK⟩|⟨rfl,hK⟩
       ·have H6:=aC (H5.out.step hK)
        have Vi:=aC (show ∀k,k<N0→k≠tb→k≠Y+1→j3.heap[k]? = v160.heap[k]? from fun k h1 h2 h3=>((hK.ta.2.block k (by have:=Cz.out.size;have:=GI.out.size;have:=Cy.out;omega) h2).trans (GI.out.block k (by have:=Cz.out.size;have:=Cy.out;omega))).trans ((Cz.out.block k (by have:=Cy.out;omega) h3).trans (Zo.out k h1 h2 h3)))
        have Vh:=aC (show N0≤j3.heap.size from Nat.le_trans Cy.out (Nat.le_trans Cz.out.size (Nat.le_trans GI.out.size hK.ta.2.size)))
        clear hK HF pg o9 ou H5 cF
        go_wp2_with (first|(go_at_call 109;refine(c109 _).mono ?_;clear c109;rintro e CF ⟨rfl,hw'⟩;subst CF))
        go_roundw
        case measure=>simp[intOf];omega
        case rel =>
         refine⟨i+1,by simp,by omega,by rw[Zm.out],fun h => ?_,aC ⟨32+(nN:Int),128,1,oi,a2,H6.out,Vi.out,Vh.out⟩⟩
         rw[if_neg (show ¬ec-mN*i=nN from Em (GH.out.2.2.2 (by omega) (by have:=HS.out.2.2.2.2 (by omega);omega)) QE.1),←GH.out.2.2.1 (by omega)]
         simp only[Nat.add_assoc,Nat.sub_sub]
       ·have jh:=aC (H5.out.jg hK)
        have HO:=aC (H5.out.off hK)
        clear hK HF pg o9 ou H5 cF
        have q1:=jh.out (X+1,.cells #[.int .i64 0,.int .i32 0,.int .i64 0,.int .i64 0] 39) (List.mem_cons_of_mem _ (List.mem_cons_of_mem _ (List.mem_cons_self ..)))
        have q0:=jh.out (Y,.cells #[.int .i64 p,.int .i32 tm,.int .i64 of,.int .i64 nd] 39) (List.mem_cons_of_mem _ (List.mem_cons_self ..))
        obtain⟨m0,m1,m2,m3⟩:=dI q0
        obtain⟨r0,r1,r2,r3⟩:=eY (q1)
        obtain⟨z0,z1,z2,z3⟩:=dI (q1)
        have HQ:=aC q1
        clear q0
        go_wp2
        obtain⟨Z,hZ⟩:∃W,(((j3.setCell ⟨X+1,0,none⟩ (.int .i64 (p))).setCell ⟨X+1,1,none⟩ (.int .i32 (tm))).setCell ⟨X+1,2,none⟩ (.int .i64 (of))).setCell ⟨X+1,3,none⟩ (.int .i64 (nd))=W:=⟨_,rfl⟩
        have h4:=dF (HQ.out) (.int .i64 (p)) (.int .i32 (tm)) (.int .i64 (of)) (.int .i64 (nd))
        rw[hZ]at h4 ⊢
        obtain⟨k0,k1,k2,k3⟩:=dI h4.1
        clear hZ z0 z1 z2 z3 r0 r1 r2 r3
        refine bodyPost_ret (v :=.tuple #[.agg #[.int .i64 (p),.int .i32 (tm),.int .i64 (of),.int .i64 (nd)],.bool true,.bool false,.int .i64 10]) (by simp[results,Tryz.results106,go_sem,k0,k1,k2,k3]) rfl (.inr (.inr (.inl ⟨⟨p,tm,of,nd⟩,yI,rfl,HO.out.put HQ.out h4.2 (by omega) (by omega)⟩)))
     ·by_cases hij2:i=j
      ·skip
       have w1:((i:Int)==0)=false:=by simp[hi0]
       have w2:((i:Int)==(j:Int))=true:=by simp[hij2]
       have hgv:(if i=0 then(128:Int)else 0)+(if i=j then 64 else 0)=64:=by rw[if_neg hi0,if_pos hij2]<;>decide
       rw[hgv]at HST
       clear hi0 hij2 hgv
       obtain⟨KN,FO⟩:∃W,Gv.setCell ⟨Y+1,2,none⟩ (.int .u8 64)=W:=⟨_,rfl⟩
       have A8:=aC (EB.out.put (oH :=.cells (l9 l (32+(nN:Int)) 64 1 oi tm) 160) (Only.set Gv 2 (.int .u8 64)) (iw EB.out.b0 2 (.int .u8 64)) (by intro q hq;simp only[List.mem_cons,List.not_mem_nil,or_false]at hq;rcases hq with rfl|rfl|rfl<;>(dsimp only;omega)))
       rw[FO]at A8
       obtain⟨Yf,Yd,Yb,X9,X7,X5,X3,XZ,XX⟩:=Be A8.out.b0
       obtain⟨XV,XT,XQ,XO⟩:=tL A8.out.b0
       have Cz:=aC (show Only (Y+1) wr KN from(BI.out).trans (FO▸Only.set Gv 2 (.int .u8 64)))
       obtain⟨b0,b1,b2,b3,b4,b5,b6⟩:=iT A8.out.tail.tail.tail.b0
       go_wp2_with (fail)
       clear f0 f1 f2 f3 f4 f5 f6 f7 f8 g0 g2 g3 g4
       clear VC VB VA Vz Vy Vx Vv Vu Vt Vs Vr Vq Vp
       have cF:∀V',BN w V' [(Y+1,.cells (l9 l (32+(nN:Int)) 64 1 oi tm) 160),(Y,.cells #[.int .i64 p,.int .i32 tm,.int .i64 of,.int .i64 nd] 39),(X+1,.cells #[.int .i64 0,.int .i32 0,.int .i64 0,.int .i64 0] 39),(X,.cells (gm l) 23)] tb ga cap L a T (fT (aP l) ⟨p,tm,of,nd⟩ b mN j i) a'→Calls Tryz.prog 111 #[.pointer (some ⟨tb,0,none⟩),.agg (gm l),.int .i64 (pt+oi),.agg (l9 l (32+(nN:Int)) 64 1 oi tm),.slice (some ⟨eb,eo+mN*i,none⟩) nN (ec-mN*i)] V' fun e w'=>∃bb:Bool,e =.returned (.bool bb)∧R3 V' w' tb ga cap L a' (fT (aP l) ⟨p,tm,of,nd⟩ b mN j i) (fT (aP l) ⟨p,tm,of,nd⟩ b mN j (i+1)) (aS ⟨p,tm,of,nd⟩) bb:=fun V' hV'=>by
        have hlen:((b.drop (mN*i)).take nN).length=nN:=by have:=GH.out.1;simp;omega
        rw[HST.out]
        have cf:=qx (aS ⟨p,tm,of,nd⟩) (fT (aP l) ⟨p,tm,of,nd⟩ b mN j (i+1)) l HP.out.2.1 (pt+oi) (32+(nN:Int)) 64 1 oi tm (by omega) (by omega) (by omega) (by omega) (by omega) rG ((b.drop (mN*i)).take nN) (by rw[hlen];omega) (some ⟨eb,eo+mN*i,none⟩) (ec-mN*i) (by rw[hlen];omega) V' (by rw[hlen];exact(HB.out.only hV'.on.ta.2).sub (mN*i) nN GH.out.1) hV'.mg hV'.on.le
        rw[hlen]at cf
        refine cf.mono ?_
        rintro e w' (⟨a2,rfl,hK⟩|⟨rfl,hK⟩)
        ·exact⟨true,rfl,.inl ⟨rfl,a2,hK⟩⟩
        ·exact⟨false,rfl,.inr ⟨rfl,hK⟩⟩
       have pg:=aC (fD A8.out.tail.tail.tail.b0 A8.out.b0)
       first
       | (go_region_held (fun W'=>W'.cell? ⟨X,0,none⟩=some (.int .i64 l.base)∧W'.cell? ⟨X,1,none⟩=some (.int .i64 l.term)∧W'.cell? ⟨X,2,none⟩=some (.int .i64 l.aV)∧W'.cell? ⟨X,3,none⟩=some (.int .i64 l.subs)∧W'.cell? ⟨X,4,none⟩=some (.int .i32 l.bG)∧W'.cell? ⟨X,5,none⟩=some (.int .i32 l.dQ)∧W'.cell? ⟨X,6,none⟩=some (.int .i32 l.str)∧W'.cell? ⟨Y+1,0,none⟩=some (.int .i32 (32+(nN:Int)))∧W'.cell? ⟨Y+1,1,none⟩=some (.int .u8 0)∧W'.cell? ⟨Y+1,2,none⟩=some (.int .u8 64)∧W'.cell? ⟨Y+1,3,none⟩=some (.int .u16 1)∧W'.cell? ⟨Y+1,4,none⟩=some (.int .i32 oi)∧W'.cell? ⟨Y+1,5,none⟩=some (.int .i32 l.dQ)∧W'.cell? ⟨Y+1,6,none⟩=some (.int .i32 l.str)∧W'.cell? ⟨Y+1,7,none⟩=some (.int .i32 tm)∧W'.cell? ⟨Y+1,8,none⟩=some (.int .u64 0))
           (first|exact ou.out|exact o9.out|exact pg.out)
           (first
           | (go_at_call 69;refine(x9 _).mono ?_;rintro e v69 ⟨rfl,kL⟩;have H5:=aC ((A8.out.below (Below.drew (Below.refl _ KN))).below kL);have GI:=aC ((Below.drew (Below.refl KN.heap.size KN)).trans kL);clear kL;have o9:=aC (fD H5.out.tail.tail.tail.b0 H5.out.b0))
           | (go_at_call 111;refine(cF _ H5.out).mono ?_;rintro e j3 ⟨bb,rfl,hF⟩;have HF:=aC hF;have ou:=aC (fD (H5.out.vN hF _ (List.mem_cons_of_mem _ (List.mem_cons_of_mem _ (List.mem_cons_of_mem _ (List.mem_cons_self ..))))) (H5.out.vN hF _ (List.mem_cons_self ..)));clear hF)))|fail
       clear b0 b1 b2 b3 b4 b5 b6
       clear Yf Yd Yb X9 X7 X5 X3 XZ XX XV XT XQ XO
       rcases HF.out with⟨rfl,a2,hK⟩|⟨rfl,hK⟩
       ·have H6:=aC (H5.out.step hK)
        have Vi:=aC (show ∀k,k<N0→k≠tb→k≠Y+1→j3.heap[k]? = v160.heap[k]? from fun k h1 h2 h3=>((hK.ta.2.block k (by have:=Cz.out.size;have:=GI.out.size;have:=Cy.out;omega) h2).trans (GI.out.block k (by have:=Cz.out.size;have:=Cy.out;omega))).trans ((Cz.out.block k (by have:=Cy.out;omega) h3).trans (Zo.out k h1 h2 h3)))
        have Vh:=aC (show N0≤j3.heap.size from Nat.le_trans Cy.out (Nat.le_trans Cz.out.size (Nat.le_trans GI.out.size hK.ta.2.size)))
        clear hK HF pg o9 ou H5 cF
        go_wp2_with (first|(go_at_call 109;refine(c109 _).mono ?_;clear c109;rintro e CF ⟨rfl,hw'⟩;subst CF))
        go_roundw
        case measure=>simp[intOf];omega
        case rel =>
         refine⟨i+1,by simp,by omega,by rw[Zm.out],fun h => ?_,aC ⟨32+(nN:Int),64,1,oi,a2,H6.out,Vi.out,Vh.out⟩⟩
         rw[if_neg (show ¬ec-mN*i=nN from Em (GH.out.2.2.2 (by omega) (by have:=HS.out.2.2.2.2 (by omega);omega)) QE.1),←GH.out.2.2.1 (by omega)]
         simp only[Nat.add_assoc,Nat.sub_sub]
       ·have jh:=aC (H5.out.jg hK)
        have HO:=aC (H5.out.off hK)
        clear hK HF pg o9 ou H5 cF
        have q1:=jh.out (X+1,.cells #[.int .i64 0,.int .i32 0,.int .i64 0,.int .i64 0] 39) (List.mem_cons_of_mem _ (List.mem_cons_of_mem _ (List.mem_cons_self ..)))
        have q0:=jh.out (Y,.cells #[.int .i64 p,.int .i32 tm,.int .i64 of,.int .i64 nd] 39) (List.mem_cons_of_mem _ (List.mem_cons_self ..))
        obtain⟨m0,m1,m2,m3⟩:=dI q0
        obtain⟨r0,r1,r2,r3⟩:=eY (q1)
        obtain⟨z0,z1,z2,z3⟩:=dI (q1)
        have HQ:=aC q1
        clear q0
        go_wp2
        obtain⟨Z,hZ⟩:∃W,(((j3.setCell ⟨X+1,0,none⟩ (.int .i64 (p))).setCell ⟨X+1,1,none⟩ (.int .i32 (tm))).setCell ⟨X+1,2,none⟩ (.int .i64 (of))).setCell ⟨X+1,3,none⟩ (.int .i64 (nd))=W:=⟨_,rfl⟩
        have h4:=dF (HQ.out) (.int .i64 (p)) (.int .i32 (tm)) (.int .i64 (of)) (.int .i64 (nd))
        rw[hZ]at h4 ⊢
        obtain⟨k0,k1,k2,k3⟩:=dI h4.1
        clear hZ z0 z1 z2 z3 r0 r1 r2 r3
        refine bodyPost_ret (v :=.tuple #[.agg #[.int .i64 (p),.int .i32 (tm),.int .i64 (of),.int .i64 (nd)],.bool true,.bool false,.int .i64 10]) (by simp[results,Tryz.results106,go_sem,k0,k1,k2,k3]) rfl (.inr (.inr (.inl ⟨⟨p,tm,of,nd⟩,yI,rfl,HO.out.put HQ.out h4.2 (by omega) (by omega)⟩)))
      ·skip
       have w1:((i:Int)==0)=false:=by simp[hi0]
       have w2:((i:Int)==(j:Int))=false:=by simp;omega
       have hgv:(if i=0 then(128:Int)else 0)+(if i=j then 64 else 0)=0:=by rw[if_neg hi0,if_neg hij2]<;>decide
       rw[hgv]at HST
       clear hi0 hij2 hgv
       have Cz:=aC (show Only (Y+1) wr Gv from(BI.out))
       obtain⟨b0,b1,b2,b3,b4,b5,b6⟩:=iT EB.out.tail.tail.tail.b0
       go_wp2_with (fail)
       clear f0 f1 f2 f3 f4 f5 f6 f7 f8 g0 g2 g3 g4
       have cF:∀V',BN w V' [(Y+1,.cells (l9 l (32+(nN:Int)) 0 1 oi tm) 160),(Y,.cells #[.int .i64 p,.int .i32 tm,.int .i64 of,.int .i64 nd] 39),(X+1,.cells #[.int .i64 0,.int .i32 0,.int .i64 0,.int .i64 0] 39),(X,.cells (gm l) 23)] tb ga cap L a T (fT (aP l) ⟨p,tm,of,nd⟩ b mN j i) a'→Calls Tryz.prog 111 #[.pointer (some ⟨tb,0,none⟩),.agg (gm l),.int .i64 (pt+oi),.agg (l9 l (32+(nN:Int)) 0 1 oi tm),.slice (some ⟨eb,eo+mN*i,none⟩) nN (ec-mN*i)] V' fun e w'=>∃bb:Bool,e =.returned (.bool bb)∧R3 V' w' tb ga cap L a' (fT (aP l) ⟨p,tm,of,nd⟩ b mN j i) (fT (aP l) ⟨p,tm,of,nd⟩ b mN j (i+1)) (aS ⟨p,tm,of,nd⟩) bb:=fun V' hV'=>by
        have hlen:((b.drop (mN*i)).take nN).length=nN:=by have:=GH.out.1;simp;omega
        rw[HST.out]
        have cf:=qx (aS ⟨p,tm,of,nd⟩) (fT (aP l) ⟨p,tm,of,nd⟩ b mN j (i+1)) l HP.out.2.1 (pt+oi) (32+(nN:Int)) 0 1 oi tm (by omega) (by omega) (by omega) (by omega) (by omega) rG ((b.drop (mN*i)).take nN) (by rw[hlen];omega) (some ⟨eb,eo+mN*i,none⟩) (ec-mN*i) (by rw[hlen];omega) V' (by rw[hlen];exact(HB.out.only hV'.on.ta.2).sub (mN*i) nN GH.out.1) hV'.mg hV'.on.le
        rw[hlen]at cf
        refine cf.mono ?_
        rintro e w' (⟨a2,rfl,hK⟩|⟨rfl,hK⟩)
        ·exact⟨true,rfl,.inl ⟨rfl,a2,hK⟩⟩
        ·exact⟨false,rfl,.inr ⟨rfl,hK⟩⟩
       have pg:=aC (fD EB.out.tail.tail.tail.b0 EB.out.b0)
       first
       | (go_region_held (fun W'=>W'.cell? ⟨X,0,none⟩=some (.int .i64 l.base)∧W'.cell? ⟨X,1,none⟩=some (.int .i64 l.term)∧W'.cell? ⟨X,2,none⟩=some (.int .i64 l.aV)∧W'.cell? ⟨X,3,none⟩=some (.int .i64 l.subs)∧W'.cell? ⟨X,4,none⟩=some (.int .i32 l.bG)∧W'.cell? ⟨X,5,none⟩=some (.int .i32 l.dQ)∧W'.cell? ⟨X,6,none⟩=some (.int .i32 l.str)∧W'.cell? ⟨Y+1,0,none⟩=some (.int .i32 (32+(nN:Int)))∧W'.cell? ⟨Y+1,1,none⟩=some (.int .u8 0)∧W'.cell? ⟨Y+1,2,none⟩=some (.int .u8 0)∧W'.cell? ⟨Y+1,3,none⟩=some (.int .u16 1)∧W'.cell? ⟨Y+1,4,none⟩=some (.int .i32 oi)∧W'.cell? ⟨Y+1,5,none⟩=some (.int .i32 l.dQ)∧W'.cell? ⟨Y+1,6,none⟩=some (.int .i32 l.str)∧W'.cell? ⟨Y+1,7,none⟩=some (.int .i32 tm)∧W'.cell? ⟨Y+1,8,none⟩=some (.int .u64 0))
           (first|exact ou.out|exact o9.out|exact pg.out)
           (first
           | (go_at_call 69;refine(x9 _).mono ?_;rintro e v69 ⟨rfl,kL⟩;have H5:=aC ((EB.out.below (Below.drew (Below.refl _ Gv))).below kL);have GI:=aC ((Below.drew (Below.refl Gv.heap.size Gv)).trans kL);clear kL;have o9:=aC (fD H5.out.tail.tail.tail.b0 H5.out.b0))
           | (go_at_call 111;refine(cF _ H5.out).mono ?_;rintro e j3 ⟨bb,rfl,hF⟩;have HF:=aC hF;have ou:=aC (fD (H5.out.vN hF _ (List.mem_cons_of_mem _ (List.mem_cons_of_mem _ (List.mem_cons_of_mem _ (List.mem_cons_self ..))))) (H5.out.vN hF _ (List.mem_cons_self ..)));clear hF)))|fail
       clear b0 b1 b2 b3 b4 b5 b6
       clear VC VB VA Vz Vy Vx Vv Vu Vt Vs Vr Vq Vp
       rcases HF.out with⟨rfl,a2,hK⟩|⟨rfl,hK⟩
       ·have H6:=aC (H5.out.step hK)
        have Vi:=aC (show ∀k,k<N0→k≠tb→k≠Y+1→j3.heap[k]? = v160.heap[k]? from fun k h1 h2 h3=>((hK.ta.2.block k (by have:=Cz.out.size;have:=GI.out.size;have:=Cy.out;omega) h2).trans (GI.out.block k (by have:=Cz.out.size;have:=Cy.out;omega))).trans ((Cz.out.block k (by have:=Cy.out;omega) h3).trans (Zo.out k h1 h2 h3)))
        have Vh:=aC (show N0≤j3.heap.size from Nat.le_trans Cy.out (Nat.le_trans Cz.out.size (Nat.le_trans GI.out.size hK.ta.2.size)))
        clear hK HF pg o9 ou H5 cF
        go_wp2_with (first|(go_at_call 109;refine(c109 _).mono ?_;clear c109;rintro e CF ⟨rfl,hw'⟩;subst CF))
        go_roundw
        case measure=>simp[intOf];omega
        case rel =>
         refine⟨i+1,by simp,by omega,by rw[Zm.out],fun h => ?_,aC ⟨32+(nN:Int),0,1,oi,a2,H6.out,Vi.out,Vh.out⟩⟩
         rw[if_neg (show ¬ec-mN*i=nN from Em (GH.out.2.2.2 (by omega) (by have:=HS.out.2.2.2.2 (by omega);omega)) QE.1),←GH.out.2.2.1 (by omega)]
         simp only[Nat.add_assoc,Nat.sub_sub]
       ·have jh:=aC (H5.out.jg hK)
        have HO:=aC (H5.out.off hK)
        clear hK HF pg o9 ou H5 cF
        have q1:=jh.out (X+1,.cells #[.int .i64 0,.int .i32 0,.int .i64 0,.int .i64 0] 39) (List.mem_cons_of_mem _ (List.mem_cons_of_mem _ (List.mem_cons_self ..)))
        have q0:=jh.out (Y,.cells #[.int .i64 p,.int .i32 tm,.int .i64 of,.int .i64 nd] 39) (List.mem_cons_of_mem _ (List.mem_cons_self ..))
        obtain⟨m0,m1,m2,m3⟩:=dI q0
        obtain⟨r0,r1,r2,r3⟩:=eY (q1)
        obtain⟨z0,z1,z2,z3⟩:=dI (q1)
        have HQ:=aC q1
        clear q0
        go_wp2
        obtain⟨Z,hZ⟩:∃W,(((j3.setCell ⟨X+1,0,none⟩ (.int .i64 (p))).setCell ⟨X+1,1,none⟩ (.int .i32 (tm))).setCell ⟨X+1,2,none⟩ (.int .i64 (of))).setCell ⟨X+1,3,none⟩ (.int .i64 (nd))=W:=⟨_,rfl⟩
        have h4:=dF (HQ.out) (.int .i64 (p)) (.int .i32 (tm)) (.int .i64 (of)) (.int .i64 (nd))
        rw[hZ]at h4 ⊢
        obtain⟨k0,k1,k2,k3⟩:=dI h4.1
        clear hZ z0 z1 z2 z3 r0 r1 r2 r3
        refine bodyPost_ret (v :=.tuple #[.agg #[.int .i64 (p),.int .i32 (tm),.int .i64 (of),.int .i64 (nd)],.bool true,.bool false,.int .i64 10]) (by simp[results,Tryz.results106,go_sem,k0,k1,k2,k3]) rfl (.inr (.inr (.inl ⟨⟨p,tm,of,nd⟩,yI,rfl,HO.out.put HQ.out h4.2 (by omega) (by omega)⟩)))
    ·obtain rfl:i=j+1:=by omega
     obtain⟨c0,c2,c3,c4,a',Mi,hag,TJ⟩:=H.out
     have H6:=aC (Mi.as (Ox _ _ _ _ _))
     clear Mi H hy3
     obtain⟨m0,m1,m2,m3⟩:=dI H6.out.tail.b0
     obtain⟨r0,r1,r2,r3⟩:=eY (H6.out.tail.tail.b0)
     obtain⟨z0,z1,z2,z3⟩:=dI (H6.out.tail.tail.b0)
     go_wp2
     obtain⟨Z,hZ⟩:∃W,(((wr.setCell ⟨X+1,0,none⟩ (.int .i64 (p))).setCell ⟨X+1,1,none⟩ (.int .i32 (tm))).setCell ⟨X+1,2,none⟩ (.int .i64 (of))).setCell ⟨X+1,3,none⟩ (.int .i64 (nd))=W:=⟨_,rfl⟩
     have h4:=dF (H6.out.tail.tail.b0) (.int .i64 (p)) (.int .i32 (tm)) (.int .i64 (of)) (.int .i64 (nd))
     rw[hZ]at h4 ⊢
     obtain⟨k0,k1,k2,k3⟩:=dI h4.1
     clear hZ z0 z1 z2 z3 r0 r1 r2 r3
     refine bodyPost_ret (v :=.tuple #[.agg #[.int .i64 (p),.int .i32 (tm),.int .i64 (of),.int .i64 (nd)],.bool true,.bool false,.int .i64 0]) (by simp[results,Tryz.results106,go_sem,k0,k1,k2,k3]) rfl (.inr (.inl ⟨⟨p,tm,of,nd⟩,yI,rfl,a',H6.out.only h4.2 (by omega)⟩))
 ·have jh:=aC (HX.out.jg hK)
  have HO:=aC (HX.out.off hK)
  clear hK
  have q1:=jh.out (X+1,.cells #[.int .i64 0,.int .i32 0,.int .i64 0,.int .i64 0] 39) (List.mem_cons_self ..)
  have Qy:tb<X:=hX▸HX.out.vT.lt
  obtain⟨r0,r1,r2,r3⟩:=eY (q1)
  obtain⟨z0,z1,z2,z3⟩:=dI (q1)
  have HQ:=aC q1
  go_wp2
  obtain⟨Z,hZ⟩:∃W,(((V.setCell ⟨X+1,0,none⟩ (.int .i64 (0))).setCell ⟨X+1,1,none⟩ (.int .i32 (0))).setCell ⟨X+1,2,none⟩ (.int .i64 (0))).setCell ⟨X+1,3,none⟩ (.int .i64 (0))=W:=⟨_,rfl⟩
  have h4:=dF (HQ.out) (.int .i64 (0)) (.int .i32 (0)) (.int .i64 (0)) (.int .i64 (0))
  rw[hZ]at h4 ⊢
  obtain⟨k0,k1,k2,k3⟩:=dI h4.1
  clear hZ z0 z1 z2 z3 r0 r1 r2 r3
  refine bodyPost_ret (v :=.tuple #[.agg #[.int .i64 (0),.int .i32 (0),.int .i64 (0),.int .i64 (0)],.bool false,.bool false,.int .i64 10]) (by simp[results,Tryz.results106,go_sem,k0,k1,k2,k3]) rfl (.inr (.inr (.inr ⟨rfl,HO.out.put HQ.out h4.2 (by omega) (by omega)⟩)))
end
