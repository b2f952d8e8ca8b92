import Derived.Test.YtlaogoehmndcjaaGreatDoorZ21
import Derived.Deep.LoopGhost
set_option linter.unusedSectionVars false
set_option maxRecDepth 1000000
set_option maxHeartbeats 3200000
set_option linter.unusedVariables false
set_option linter.unusedSimpArgs false
namespace Go.Proofs.YtlaogoehmndcjaaGreatDoor.Sy
open Go RowKit Lib Base Pr Ba
variable [Zn]
section
variable {tb:Nat} {ga:Option Addr} {cap:Nat} {L:List An} {a:Nat}
theorem qx (o:Ot) (k:Pr An Ot) (l:Lg) (hw:o8 l) (at_ len g ty off term:Int) (hat:0≤at_∧at_≤900000) (hlen:0≤len∧len≤1000000) (hg:0≤g∧g<256) (hty:0≤ty∧ty<256) (ho : -2147483648≤off∧off<2147483648) (ht : -2147483648≤term∧term<2147483648)
 (b:List Nat) (hb:b.length≤400) (ea:Option Addr) (ec:Nat) (QE:b.length≤ec∧ec≤9223372036854775807) (w:World) (hB:gu w tb ea b.length b) (h:iE w tb ga cap L a none) (ha:a≤L.length) :
 Calls Tryz.prog 111 #[.pointer (some ⟨tb,0,none⟩),l.val,.int .i64 at_,.agg (l9 l len g ty off term),.slice ea b.length ec] w fun e w'=>(∃a',e =.returned (.bool true)∧On w w' tb ga cap L a (frameT (aP l) o at_ len g ty off term b k) k a')∨(e =.returned (.bool false)∧Off w w' tb ga cap L a (frameT (aP l) o at_ len g ty off term b k) o):=by
 have z1:IntKind.i64.wrap (at_+32)=at_+32:=by rw[IntKind.wrap_i64];omega
 have z2:IntKind.u64.wrap len=len:=by rw[IntKind.wrap_u64];omega
 obtain⟨K1,hK1⟩:∃K,inT o (.ask o (Base.store at_ 4 len) fun _=>k) 200 (at_+32) b=K:=⟨_,rfl⟩
 obtain⟨T,hT⟩:∃T,nM (aP l) o at_ len g ty off term K1=T:=⟨_,rfl⟩
 have Q4:=fun W a' (h:iE W tb ga cap L a' none) (ha:a'≤L.length)=>headD o K1 l hw at_ len g ty off term ⟨hat.1,by omega⟩ hlen hg hty ho ht W h ha
 have U5:=fun W a' (h:iE W tb ga cap L a' none) (ha:a'≤L.length) (hB:gu W tb ea b.length b)=>ain o (.ask o (Base.store at_ 4 len) fun _=>k) b hb (at_+32) ⟨by omega,by omega⟩ ea ec QE h ha hB
 rw[hT]at Q4
 rw[hK1]at U5
 rw[show frameT (aP l) o at_ len g ty off term b k=T by rw[←hT,←hK1];rfl]
 obtain⟨X,hX⟩:∃X,w.heap.size=X:=⟨_,rfl⟩
 obtain⟨V1,hV1⟩:∃V,w.alloc (.cells (gm l) 23)=V:=⟨_,rfl⟩
 obtain⟨V2,hV2⟩:∃V,V1.alloc (.cells (l9 l len g ty off term) 160)=V:=⟨_,rfl⟩
 have s1:V1.heap.size=X+1:=by rw[←hV1,←hX];simp
 have s2:V2.heap.size=X+2:=by rw[←hV2];simp[s1]
 have HX:=aC (hV2▸(hV1▸(BS.fresh h ha hX T).new (by simp[hX]) (.cells (gm l) 23)).new (by simp[s1]) (.cells (l9 l len g ty off term) 160))
 obtain⟨m0,m1,m2,m3,m4,m5,m6,m7,m8⟩:=Be (HX.out.box 1 _ rfl)
 obtain⟨n0,n1,n2,n3,n4,n5,n6⟩:=iT (HX.out.b0 rfl)
 have HB:=aC hB
 unfold Lg.val at Q4 ⊢
 clear h ha hw hT hK1 hB hb hlen hg hty ho ht
 go_enter Tryz.func111,Tryz.ntmps111
 go_wp2_with (fail)
 refine(Q4 _ _ HX.out.mg HX.out.on.le).mono ?_
 clear Q4
 rintro e V (⟨a1,rfl,hK⟩|⟨rfl,hK⟩)
 ·replace HX:=aC (HX.out.step hK)
  clear hK m0 m1 m2 m3 m4 m5 m6 m7 m8 n0 n1 n2 n3 n4 n5 n6
  go_wp2_with (fail)
  refine(U5 _ _ HX.out.mg HX.out.on.le (HB.out.only HX.out.on.ta.2)).mono ?_
  clear U5
  rintro e V2 (⟨a2,rfl,hK⟩|⟨rfl,hK⟩)
  ·replace HX:=aC (HX.out.step hK)
   clear hK
   have m0:=(Be (HX.out.box 1 _ rfl)).1
   go_wp2_with (fail)
   refine(qK at_ 4 len HX.out.mg HX.out.on.le o k).mono ?_
   rintro e V3 (⟨rfl,hK⟩|⟨rfl,hK⟩)
   ·replace HX:=aC (HX.out.step hK)
    clear hK m0
    go_wp2
    exact bodyPost_ret (v :=.bool true) (by simp[results,Tryz.results111,go_sem]) rfl (.inl ⟨_,rfl,HX.out.on⟩)
   ·have HO:=aC (HX.out.off hK)
    clear hK m0
    go_wp2
    exact bodyPost_ret (v :=.bool false) (by simp[results,Tryz.results111,go_sem]) rfl (.inr ⟨rfl,HO.out⟩)
  ·have HO:=aC (HX.out.off hK)
   clear hK
   go_wp2
   exact bodyPost_ret (v :=.bool false) (by simp[results,Tryz.results111,go_sem]) rfl (.inr ⟨rfl,HO.out⟩)
 ·have HO:=aC (HX.out.off hK)
  clear hK m0 m1 m2 m3 m4 m5 m6 m7 m8 n0 n1 n2 n3 n4 n5 n6
  go_wp2
  exact bodyPost_ret (v :=.bool false) (by simp[results,Tryz.results111,go_sem]) rfl (.inr ⟨rfl,HO.out⟩)
end
section
variable {tb:Nat} {ga:Option Addr} {cap:Nat} {L:List An} {a:Nat}
theorem uH (x:Int) : -2147483648≤bF x∧bF x<2147483648:=by unfold bF;omega
theorem CG (x:Int):0≤u32 x∧u32 x<4294967296:=by unfold u32;omega
theorem Zy (o:Ot) (fin:Int→Pr An Ot) (l:Lg) (hl:l.ok) (hw:o8 l) (term:Int) (ht : -2147483648≤term∧term<2147483648) (w:World) (h:iE w tb ga cap L a none) (ha:a≤L.length) :
 Calls Tryz.prog 162 #[.pointer (some ⟨tb,0,none⟩),l.val,.int .i32 term] w fun e w'=>(∃(d:Bool) (ev:Int) (a':Nat),(ev=0∨ev=5∨ev=7)∧e =.returned (.tuple #[.bool d,.int .i64 ev])∧On w w' tb ga cap L a (ER (aP l) o term fin) (fin ev) a')∨(e =.returned (.tuple #[.bool false,.int .i64 10])∧Off w w' tb ga cap L a (ER (aP l) o term fin) o):=by
 have hb:=mY hl
 have pV:=fun W=>jc l hl.wf W
 rw[decide_eq_true hl]at pV
 have c40:=fun W=>Io l hl W
 have nX:=fun W=>I1 term l.bG ht hw.bG W
 have FI:ER (aP l) o term fin=if u32 (term-l.bG)+1≥2147483648 then fin 7 else .ask o (Base.load (l.base+3*l.term+40) 8) fun x=>if iK x.v<u32 (term-l.bG)-1 then fin 5 else uJ (aP l) o term (u32 (term-l.bG)) fin 1000:=rfl
 obtain⟨cnt,hcnt⟩:∃c,u32 (term-l.bG)=c:=⟨_,rfl⟩
 have hc0:0≤cnt∧cnt<4294967296:=hcnt▸CG _
 rw[hcnt]at nX FI
 obtain⟨M,hM⟩:∃M,l.base+3*l.term=M:=⟨_,rfl⟩
 rw[hM]at c40 FI
 have hM0:0≤M∧M≤200000:=by omega
 obtain⟨p,hp⟩:∃p,(cnt+1)%3=p:=⟨_,rfl⟩
 have hp0:0≤p∧p<3:=by omega
 have c70:=fun W=>uD l hl p hp0.1 hp0.2 W
 obtain⟨tl,htl⟩:∃t,l.base+3*l.term+8*p=t:=⟨_,rfl⟩
 rw[htl]at c70
 have acD:0≤tl∧tl≤300000:=by omega
 obtain⟨t1,ht1⟩:∃t,bF (term+1)=t:=⟨_,rfl⟩
 obtain⟨t3,ht3⟩:∃t,bF (term+1-3)=t:=⟨_,rfl⟩
 have hrl:∀f,uJ (aP l) o term cnt fin (f+1) =.ask o (Base.load tl 8) fun x=>if bF (x.v/4294967296)≠t3 then xQ (aP l) o cnt fin else .ask o (Ed tl 8 x.v (pack t1 0)) fun y=>if y.dn then xQ (aP l) o cnt fin else uJ (aP l) o term cnt fin f:=fun f=>by
  subst t1 t3 tl p M
  rfl
 have hrc:xQ (aP l) o cnt fin =.ask o (Ed (M+24) 4 cnt (cnt+1)) fun _=>fin 0:=by subst M;rfl
 have c203:=fun W=>VY t1 0 (ht1▸uH _) (by omega) W
 obtain⟨T,hT⟩:∃T,ER (aP l) o term fin=T:=⟨_,rfl⟩
 rw[hT]at FI ⊢
 obtain⟨pk,hpk⟩:∃k,pack t1 0=k:=⟨_,rfl⟩
 rw[hpk]at c203 hrl
 have e1:IntKind.i32.wrap (term+1)=t1:=by rw[IntKind.wrap_i32,←ht1,bF]
 have e2:IntKind.i32.wrap (t1-3)=t3:=by rw[IntKind.wrap_i32,←ht3,←ht1];exact CW term
 have e3:IntKind.i64.wrap cnt=cnt:=by rw[IntKind.wrap_i64];omega
 have e4:IntKind.i64.wrap (cnt+1)=cnt+1:=by rw[IntKind.wrap_i64];omega
 have e5:IntKind.i64.wrap (M+40)=M+40:=by rw[IntKind.wrap_i64];omega
 have e6:IntKind.i64.wrap (M+24)=M+24:=by rw[IntKind.wrap_i64];omega
 have e7:IntKind.i64.wrap (cnt-1)=cnt-1:=by rw[IntKind.wrap_i64];omega
 have e8:IntKind.u64.wrap cnt=cnt:=by rw[IntKind.wrap_u64];omega
 have e9:(cnt+1).tmod 3=p:=by rw[Int.tmod_eq_emod_of_nonneg (by omega)];exact hp
 have e10:IntKind.i64.wrap p=p:=by rw[IntKind.wrap_i64];omega
 have e11:IntKind.u32.wrap p=p:=by rw[IntKind.wrap_u32];omega
 obtain⟨X,hX⟩:∃X,w.heap.size=X:=⟨_,rfl⟩
 obtain⟨V1,hV1⟩:∃V,w.alloc (.cells (gm l) 23)=V:=⟨_,rfl⟩
 have HX:=aC (hV1▸(BS.fresh h ha hX T).new (by simp[hX]) (.cells (gm l) 23))
 obtain⟨n0,n1,n2,n3,n4,n5,n6⟩:=iT (HX.out.b0 rfl)
 have HL:=aC h.len
 have HP:=aC hp
 unfold Lg.val at pV c40 c70 ⊢
 clear h ha hw hcnt hM htl ht1 ht3 hT hpk hp hl
 by_cases hbig:cnt+1≥2147483648
 ·rw[if_pos hbig]at FI
  go_enter Tryz.func162,Tryz.ntmps162
  go_wp2_with (first|(go_at_call 38;refine(pV _).mono ?_;clear pV;rintro e v38 ⟨rfl,hB⟩;replace HX:=aC (HX.out.below hB);clear hB;clear n0 n1 n2 n3 n4 n5 n6;obtain⟨n0,n1,n2,n3,n4,n5,n6⟩:=iT (HX.out.b0 rfl))|(go_at_call 161;refine(nX _).mono ?_;clear nX;rintro e vV ⟨rfl,hw'⟩;subst vV))
  exact bodyPost_ret (v :=.tuple #[.bool false,.int .i64 7]) (by simp[results,Tryz.results162,go_sem]) rfl (.inl ⟨false,7,a,.inr (.inr rfl),rfl,(HX.out.as FI).on⟩)
 ·rw[if_neg hbig]at FI
  replace HX:=aC (HX.out.as FI)
  have e12:IntKind.u32.wrap (cnt+1)=cnt+1:=by rw[IntKind.wrap_u32];omega
  have e13:IntKind.u64.wrap (cnt+1)=cnt+1:=by rw[IntKind.wrap_u64];omega
  go_enter Tryz.func162,Tryz.ntmps162
  go_wp2_with (first|(go_at_call 38;refine(pV _).mono ?_;clear pV;rintro e v38 ⟨rfl,hB⟩;replace HX:=aC (HX.out.below hB);clear hB;clear n0 n1 n2 n3 n4 n5 n6;obtain⟨n0,n1,n2,n3,n4,n5,n6⟩:=iT (HX.out.b0 rfl))|(go_at_call 161;refine(nX _).mono ?_;clear nX;rintro e vV ⟨rfl,hw'⟩;subst vV)|(go_at_call 40;refine(c40 _).mono ?_;rintro e v40 ⟨rfl,hB⟩;replace HX:=aC (HX.out.below hB);clear hB;clear n0 n1 n2 n3 n4 n5 n6;obtain⟨n0,n1,n2,n3,n4,n5,n6⟩:=iT (HX.out.b0 rfl)))
  refine(Gs (M+40) 8 HX.out.mg HX.out.on.le o (fun x=>if iK x.v<cnt-1 then fin 5 else uJ (aP l) o term cnt fin 1000)).mono ?_
  rintro e V (⟨x,hx,rfl,hK⟩|⟨rfl,hK⟩)
  ·obtain⟨xv,hxv⟩:∃v,x.v=v:=⟨_,rfl⟩
   rw[hxv]at hx hK ⊢
   obtain⟨sx,hsx⟩:∃v,iK xv=v:=⟨_,rfl⟩
   have a4:IntKind.i64.wrap xv=sx:=by rw[IntKind.wrap_i64,←hsx,iK]
   rw[hsx]at hK
   clear hxv hsx
   by_cases hlow:sx<cnt-1
   ·rw[if_pos hlow]at hK
    replace HX:=aC (HX.out.step hK)
    clear hK
    go_wp2
    exact bodyPost_ret (v :=.tuple #[.bool false,.int .i64 5]) (by simp[results,Tryz.results162,go_sem]) rfl (.inl ⟨false,5,_,.inr (.inl rfl),rfl,HX.out.on⟩)
   ·rw[if_neg hlow]at hK
    replace HX:=aC (HX.out.step hK)
    clear hK n0 n1 n2 n3 n4 n5 n6
    obtain⟨n0,n1,n2,n3,n4,n5,n6⟩:=iT (HX.out.b0 rfl)
    have HR:=aC (aR hrl hrc)
    clear hrl hrc FI
    go_wp2_with (first|(go_at_call 70;refine(c70 _).mono ?_;rintro e v70 ⟨rfl,hB⟩;replace HX:=aC (HX.out.below hB);clear hB;clear n0 n1 n2 n3 n4 n5 n6))
    go_loopg [12] 1000 (fun k s wr=>∃a',L.length<k+a'∧Hid (BS w wr X [.cells (gm l) 23] tb ga cap L a T (uJ (aP l) o term cnt fin k) a'))
    case atStart=>exact⟨_,by have:=HL.out;omega,HX⟩
    case round =>
     obtain⟨a',hf,H⟩:=hrel
     have hle:=H.out.on.le
     obtain⟨f,rfl⟩:∃f,gk=f+1:=⟨gk-1,by omega⟩
     replace H:=aC (H.out.as (HR.out.1 f))
     go_wp2_with (fail)
     refine(Gs tl 8 H.out.mg H.out.on.le o (fun x=>if bF (x.v/4294967296)≠t3 then xQ (aP l) o cnt fin else .ask o (Ed tl 8 x.v pk) fun y=>if y.dn then xQ (aP l) o cnt fin else uJ (aP l) o term cnt fin f)).mono ?_
     rintro e V2 (⟨y,hy,rfl,hK⟩|⟨rfl,hK⟩)
     ·obtain⟨yv,hyv⟩:∃v,y.v=v:=⟨_,rfl⟩
      rw[hyv]at hy hK ⊢
      clear hyv
      have nW:=fun W=>uA yv hy W
      obtain⟨sv,hsv⟩:∃v,bF (yv/4294967296)=v:=⟨_,rfl⟩
      rw[hsv]at nW hK
      clear hsv
      by_cases hne:sv=t3
      ·rw[if_neg (by simpa using hne)]at hK
       subst hne
       replace H:=aC (H.out.step hK)
       clear hK
       go_wp2_with (first|(go_at_call 71;refine(nW _).mono ?_;clear nW;rintro e v71 ⟨rfl,hw'⟩;subst v71)|(go_at_call 203;refine(c203 _).mono ?_;rintro e v203 ⟨rfl,hw'⟩;subst v203))
       refine(Vb tl 8 yv pk H.out.mg H.out.on.le o (fun y=>if y.dn then xQ (aP l) o cnt fin else uJ (aP l) o term cnt fin f)).mono ?_
       rintro e V3 (⟨z,rfl,hK⟩|⟨rfl,hK⟩)
       ·obtain⟨zd,hzd⟩:∃d,z.dn=d:=⟨_,rfl⟩
        rw[hzd]at hK ⊢
        clear hzd
        cases zd with
        | true =>
          rw[if_pos rfl]at hK
          replace H:=aC ((H.out.step hK).as HR.out.2)
          clear hK
          obtain⟨n0,n1,n2,n3,n4,n5,n6⟩:=iT (H.out.b0 rfl)
          go_wp2_with (first|(go_at_call 40;refine(c40 _).mono ?_;rintro e v40 ⟨rfl,hB⟩;replace H:=aC (H.out.below hB);clear hB;clear n0 n1 n2 n3 n4 n5 n6))
          refine(Vb (M+24) 4 cnt (cnt+1) H.out.mg H.out.on.le o (fun _=>fin 0)).mono ?_
          rintro e V4 (⟨z,rfl,hK⟩|⟨rfl,hK⟩)
          ·replace H:=aC (H.out.step hK)
           clear hK
           obtain⟨zd,hzd⟩:∃d,z.dn=d:=⟨_,rfl⟩
           rw[hzd]
           clear hzd
           go_wp2
           exact bodyPost_ret (v :=.tuple #[.bool zd,.int .i64 0]) (by simp[results,Tryz.results162,go_sem]) rfl (.inl ⟨zd,0,_,.inl rfl,rfl,H.out.on⟩)
          ·have HO:=aC (H.out.off hK)
           clear hK
           go_wp2
           exact bodyPost_ret (v :=.tuple #[.bool false,.int .i64 10]) (by simp[results,Tryz.results162,go_sem]) rfl (.inr ⟨rfl,HO.out⟩)
        | false =>
          rw[if_neg (by decide)]at hK
          replace H:=aC (H.out.step hK)
          clear hK
          go_wp2
          go_roundg f
          case measure=>omega
          case rel=>exact⟨_,by omega,H⟩
       ·have HO:=aC (H.out.off hK)
        clear hK
        go_wp2
        exact bodyPost_ret (v :=.tuple #[.bool false,.int .i64 10]) (by simp[results,Tryz.results162,go_sem]) rfl (.inr ⟨rfl,HO.out⟩)
      ·rw[if_pos (by simpa using hne)]at hK
       have hne2:(sv != t3)=true:=by simpa using hne
       replace H:=aC ((H.out.step hK).as HR.out.2)
       clear hK hne
       obtain⟨n0,n1,n2,n3,n4,n5,n6⟩:=iT (H.out.b0 rfl)
       go_wp2_with (first|(go_at_call 71;refine(nW _).mono ?_;clear nW;rintro e v71 ⟨rfl,hw'⟩;subst v71)|(go_at_call 40;refine(c40 _).mono ?_;rintro e v40 ⟨rfl,hB⟩;replace H:=aC (H.out.below hB);clear hB;clear n0 n1 n2 n3 n4 n5 n6))
       refine(Vb (M+24) 4 cnt (cnt+1) H.out.mg H.out.on.le o (fun _=>fin 0)).mono ?_
       rintro e V4 (⟨z,rfl,hK⟩|⟨rfl,hK⟩)
       ·replace H:=aC (H.out.step hK)
        clear hK
        obtain⟨zd,hzd⟩:∃d,z.dn=d:=⟨_,rfl⟩
        rw[hzd]
        clear hzd
        go_wp2
        exact bodyPost_ret (v :=.tuple #[.bool zd,.int .i64 0]) (by simp[results,Tryz.results162,go_sem]) rfl (.inl ⟨zd,0,_,.inl rfl,rfl,H.out.on⟩)
       ·have HO:=aC (H.out.off hK)
        clear hK
        go_wp2
        exact bodyPost_ret (v :=.tuple #[.bool false,.int .i64 10]) (by simp[results,Tryz.results162,go_sem]) rfl (.inr ⟨rfl,HO.out⟩)
     ·have HO:=aC (H.out.off hK)
      clear hK
      go_wp2
      exact bodyPost_ret (v :=.tuple #[.bool false,.int .i64 10]) (by simp[results,Tryz.results162,go_sem]) rfl (.inr ⟨rfl,HO.out⟩)
  ·have HO:=aC (HX.out.off hK)
   clear hK
   go_wp2
   exact bodyPost_ret (v :=.tuple #[.bool false,.int .i64 10]) (by simp[results,Tryz.results162,go_sem]) rfl (.inr ⟨rfl,HO.out⟩)
end
abbrev Bd (s:jU):Array Value :=#[.int .i64 s.part,.int .i32 s.term,.int .i64 s.off,.int .i64 s.size]
theorem dI {w:World} {b:Nat} {t:TypeId} {v0 v1 v2 v3:Value} (h:w.heap[b]? = some (.cells #[v0,v1,v2,v3] t (0,0))):w.cell? ⟨b,0,none⟩=some v0∧w.cell? ⟨b,1,none⟩=some v1∧w.cell? ⟨b,2,none⟩=some v2∧w.cell? ⟨b,3,none⟩=some v3:=by
 refine⟨?_,?_,?_,?_⟩<;>simp[World.cell?,h]
theorem Nz {c t:Int} (hc:0≤c∧c<4294967296) (ht:0≤t∧t≤8192):0≤c*t∧c*t≤35184372088832:=by
 have h1:c*t≤4294967296*8192:=Int.mul_le_mul (by omega) ht.2 ht.1 (by omega)
 exact⟨Int.mul_nonneg hc.1 ht.1,by omega⟩
section
variable {tb:Nat} {ga:Option Addr} {cap:Nat} {L:List An} {a:Nat}
theorem Yi (l:Lg) (hl:l.ok) (hw:o8 l) (s:jU) (hs : -2147483648≤s.term∧s.term<2147483648) (ho:0≤s.off∧s.off<4294967296) (hz:0≤s.size∧s.size≤100000) (w:World):Calls Tryz.prog 108 #[l.val,.agg (Bd s)] w fun e w'=>e =.returned (.int .i64 (fI (aP l) s))∧Below w.heap.size w w':=by
 have hb:=mY hl
 have nX:=fun W=>I1 s.term l.bG hs hw.bG W
 have he:fI (aP l) s=u32 (s.term-l.bG)*l.term+s.off+s.size:=rfl
 obtain⟨c,hc⟩:∃c,u32 (s.term-l.bG)=c:=⟨_,rfl⟩
 have hc0:0≤c∧c<4294967296:=hc▸CG _
 rw[hc]at nX he
 have hm:=Nz hc0 (t:=l.term) (by omega)
 obtain⟨m,hm'⟩:∃m,c*l.term=m:=⟨_,rfl⟩
 rw[hm']at he hm
 have e1:IntKind.i64.wrap c=c:=by rw[IntKind.wrap_i64];omega
 have e2:IntKind.i64.wrap (c*l.term)=m:=by rw[hm',IntKind.wrap_i64];omega
 have e3:IntKind.i64.wrap (m+s.off)=m+s.off:=by rw[IntKind.wrap_i64];omega
 have e4:IntKind.i64.wrap (m+s.off+s.size)=m+s.off+s.size:=by rw[IntKind.wrap_i64];omega
 obtain⟨X,hX⟩:∃X,w.heap.size=X:=⟨_,rfl⟩
 obtain⟨V1,hV1⟩:∃V,w.alloc (.cells (gm l) 23)=V:=⟨_,rfl⟩
 obtain⟨V2,hV2⟩:∃V,V1.alloc (.cells (Bd s) 39)=V:=⟨_,rfl⟩
 have s1:V1.heap.size=X+1:=by rw[←hV1,←hX];simp
 have b2:Below X w V2:=by rw[←hV2,←hV1,←hX];exact((Below.refl _ _).alloc (Nat.le_refl _) _).alloc (by simp) _
 have r1:V1.heap[X]? = some (.cells (gm l) 23):=by rw[←hV1,←hX];exact aZ _ _
 have r2:V2.heap[X]? = some (.cells (gm l) 23):=by rw[←hV2];exact(Below.heap_alloc _ _ _ (by omega)).trans r1
 have r3:V2.heap[X+1]? = some (.cells (Bd s) 39):=by rw[←hV2,←s1];exact aZ _ _
 obtain⟨n0,n1,n2,n3,n4,n5,n6⟩:=iT r2
 obtain⟨m0,m1,m2,m3⟩:=dI r3
 rw[he]
 have HB:=aC b2
 clear hl hw hs ho hz he hc hm hm' r1 r2 r3 b2 hc0 hb
 unfold Lg.val
 go_enter Tryz.func108,Tryz.ntmps108
 go_wp2
 go_quiet (exact Calls.quiet_of_same (nX _))
 go_wp2
 go_ret
 exact⟨rfl,hX▸below_drewN nq HB.out⟩
theorem Off.ends {O:Type} {w w':World} {T:Pr An O} {o:O} (h:Off w w' tb ga cap L a T o):w'.cell? ⟨tb,8,none⟩=some (.bool true):=by
 obtain⟨c,K,-,-,h3⟩:=h.ex
 obtain⟨ea,en,ec,hk,-⟩:=h3.1.blk
 simp only[ML,uC]at hk
 simp[World.cell?,hk]
theorem Uo (k1 p1 m1 v1 u1:Int) (w:World) (hE:w.cell? ⟨tb,8,none⟩=some (.bool true)):Calls Tryz.prog 66 #[.pointer (some ⟨tb,0,none⟩),.agg #[.int .i64 k1,.int .i64 p1,.int .i64 m1,.int .u64 v1,.int .u64 u1,.slice none 0 0]] w fun e w'=>e =.returned (.tuple #[.agg #[.int .u64 0,.bool false,.slice none 0 0],.bool false])∧Below w.heap.size w w':=by
 have htl:tb<w.heap.size:=World.block_lt_of_cell? w _ hE
 obtain⟨W1,hW1⟩:∃W1,w.alloc (.cells #[.int .i64 k1,.int .i64 p1,.int .i64 m1,.int .u64 v1,.int .u64 u1,.slice none 0 0] 34)=W1:=⟨_,rfl⟩
 obtain⟨X,hX⟩:∃X,w.heap.size=X:=⟨_,rfl⟩
 have s1:W1.heap.size=X+1:=by rw[←hW1,←hX];simp
 have b1:Below X w W1:=by rw[←hW1,←hX];exact(Below.refl _ _).alloc (Nat.le_refl _) _
 obtain⟨W2,hW2⟩:∃W2,W1.alloc (.cells #[.int .u64 0,.bool false,.slice none 0 0] 51)=W2:=⟨_,rfl⟩
 have b2:Below X w W2:=by rw[←hW2];exact b1.alloc (by omega) _
 have r2:W2.heap[X+1]? = some (.cells #[.int .u64 0,.bool false,.slice none 0 0] 51):=by rw[←hW2,←s1];exact aZ _ _
 have c8:W2.cell? ⟨tb,8,none⟩=some (.bool true):=BA (b2.block tb (by omega)) hE
 have q0:W2.cell? ⟨X+1,0,none⟩=some (.int .u64 0):=by simp[World.cell?,r2]
 have q1:W2.cell? ⟨X+1,1,none⟩=some (.bool false):=by simp[World.cell?,r2]
 have q2:W2.cell? ⟨X+1,2,none⟩=some (.slice none 0 0):=by simp[World.cell?,r2]
 have q3:W2.frozen? ⟨X+1,0,none⟩=false:=by simp[World.frozen?,r2]
 have q4:W2.frozen? ⟨X+1,1,none⟩=false:=by simp[World.frozen?,r2]
 have q5:W2.frozen? ⟨X+1,2,none⟩=false:=by simp[World.frozen?,r2]
 have HT:=aC (aR b2 r2)
 clear b1 b2 r2 htl hE
 go_enter Tryz.func66,Tryz.ntmps66
 go_wp2
 have r3:=iw (iw (iw HT.out.2 0 (.int .u64 0)) 1 (.bool false)) 2 (.slice none 0 0)
 obtain⟨W3,hW3⟩:∃W3,((W2.setCell ⟨X+1,0,none⟩ (.int .u64 0)).setCell ⟨X+1,1,none⟩ (.bool false)).setCell ⟨X+1,2,none⟩ (.slice none 0 0)=W3:=⟨_,rfl⟩
 have o3:Only (X+1) W2 W3:=by rw[←hW3];exact((Only.set _ _ _).trans (Only.set _ _ _)).trans (Only.set _ _ _)
 rw[hW3]at r3 ⊢
 have k0:W3.cell? ⟨X+1,0,none⟩=some (.int .u64 0):=by simp[World.cell?,r3]
 have k1':W3.cell? ⟨X+1,1,none⟩=some (.bool false):=by simp[World.cell?,r3]
 have k2:W3.cell? ⟨X+1,2,none⟩=some (.slice none 0 0):=by simp[World.cell?,r3]
 have b2:=HT.out.1
 refine bodyPost_ret (v :=.tuple #[.agg #[.int .u64 0,.bool false,.slice none 0 0],.bool false]) (by simp[results,Tryz.results66,go_sem,k0,k1',k2]) rfl ⟨rfl,?_⟩
 rw[hX]
 exact⟨o3.os.trans b2.os,o3.tape.trans b2.tape,o3.output.trans b2.output,Nat.le_trans b2.size o3.size,fun b hb=>(o3.block b (Nat.lt_of_lt_of_le (by omega) b2.size) (by omega)).trans (b2.block b hb)⟩
theorem NK (at_ wd:Int) (w:World) (hE:w.cell? ⟨tb,8,none⟩=some (.bool true)):Calls Tryz.prog 39 #[.pointer (some ⟨tb,0,none⟩),.int .i64 at_,.int .i64 wd] w fun e w'=>e =.returned (.tuple #[.int .u64 0,.bool false])∧Below w.heap.size w w':=by
 have c:=Uo 1 at_ wd 0 0 w hE
 clear hE
 go_enter Tryz.func39,Tryz.ntmps39
 go_wp2_with (go_at_call 66;refine c.mono ?_;clear c;rintro e w1 ⟨rfl,hB⟩;have H1:=aC hB;clear hB)
 go_ret2
 exact⟨rfl,H1.out.alloc H1.out.size _⟩
theorem Rk (l:Lg) (hl:l.ok) (hw:o8 l) (s:jU) (hs : -2147483648≤s.term∧s.term<2147483648) (w:World) (h:iE w tb ga cap L a none) (ha:a≤L.length) :
 Calls Tryz.prog 107 #[.pointer (some ⟨tb,0,none⟩),l.val,.agg (Bd s)] w fun e w'=>(∃(ev:Int) (a':Nat),(ev=6∨ev=7)∧e =.returned (.int .i64 ev)∧On w w' tb ga cap L a (dh (aP l) s) (.done ⟨s,true,0,ev⟩) a')∨(e =.returned (.int .i64 10)∧Off w w' tb ga cap L a (dh (aP l) s) (aS s)):=by
 have c162:=fun W (a':Nat) (h:iE W tb ga cap L a' none) (ha:a'≤L.length)=>Zy (aS s) (xO s) l hl hw s.term hs W h ha
 obtain⟨T,hT⟩:∃T,dh (aP l) s=T:=⟨_,rfl⟩
 rw[show ER (aP l) (aS s) s.term (xO s)=T from hT]at c162
 rw[hT]
 obtain⟨X,hX⟩:∃X,w.heap.size=X:=⟨_,rfl⟩
 obtain⟨V1,hV1⟩:∃V,w.alloc (.cells (gm l) 23)=V:=⟨_,rfl⟩
 obtain⟨V2,hV2⟩:∃V,V1.alloc (.cells (Bd s) 39)=V:=⟨_,rfl⟩
 have s1:V1.heap.size=X+1:=by rw[←hV1,←hX];simp
 have s2:V2.heap.size=X+2:=by rw[←hV2];simp[s1]
 have HX:=aC (hV2▸(hV1▸(BS.fresh h ha hX T).new (by simp[hX]) (.cells (gm l) 23)).new (by simp[s1]) (.cells (Bd s) 39))
 obtain⟨n0,n1,n2,n3,n4,n5,n6⟩:=iT (HX.out.b0 rfl)
 obtain⟨m0,m1,m2,m3⟩:=dI (HX.out.box 1 _ rfl)
 unfold Lg.val at c162 ⊢
 clear h ha hw hl hT
 go_enter Tryz.func107,Tryz.ntmps107
 go_wp2_with (fail)
 refine(c162 _ _ HX.out.mg HX.out.on.le).mono ?_
 clear c162
 rintro e V (⟨d,ev,a',hev,rfl,hK⟩|⟨rfl,hK⟩)
 ·have HN:=aC (HX.out.on.trans hK)
  clear hK
  rcases hev with rfl|rfl|rfl
  ·go_wp2
   exact bodyPost_ret (v :=.int .i64 6) (by simp[results,Tryz.results107,go_sem]) rfl (.inl ⟨6,_,.inl rfl,rfl,HN.out⟩)
  ·go_wp2
   exact bodyPost_ret (v :=.int .i64 6) (by simp[results,Tryz.results107,go_sem]) rfl (.inl ⟨6,_,.inl rfl,rfl,HN.out⟩)
  ·go_wp2
   exact bodyPost_ret (v :=.int .i64 7) (by simp[results,Tryz.results107,go_sem]) rfl (.inl ⟨7,_,.inr rfl,rfl,HN.out⟩)
 ·have HO:=aC (HX.out.off hK)
  clear hK
  go_wp2
  exact bodyPost_ret (v :=.int .i64 10) (by simp[results,Tryz.results107,go_sem]) rfl (.inr ⟨rfl,HO.out⟩)
end
section
variable {tb:Nat} {ga:Option Addr} {cap:Nat} {L:List An} {a:Nat}
theorem YO (l:Lg) (hl:l.ok) (hw:o8 l) (need:Int) (hn:0≤need∧need≤1000000) (fin:Int→Pr An Ot) (w:World) (h:iE w tb ga cap L a none) (ha:a≤L.length) :
 Calls Tryz.prog 105 #[.pointer (some ⟨tb,0,none⟩),l.val,.int .i64 need] w fun e w'=>(∃(c:Int) (a':Nat),(0≤c∧c<2147483648)∧e =.returned (.tuple #[.int .u32 c,.int .i64 0])∧On w w' tb ga cap L a (yA (aP l) need fin) (fin c) a')∨(∃(ev:Int) (a':Nat),(ev=5∨ev=6∨ev=7)∧e =.returned (.tuple #[.int .u32 0,.int .i64 ev])∧On w w' tb ga cap L a (yA (aP l) need fin) (.done ⟨bW,false,0,ev⟩) a')∨(e =.returned (.tuple #[.int .u32 0,.int .i64 10])∧Off w w' tb ga cap L a (yA (aP l) need fin) fF):=by
 have hb:=mY hl
 have c40:=fun W=>Io l hl W
 have Zi:=fun W=>Qo l.term hl.1 W
 have c70:=fun p h0 h1 W=>uD l hl p h0 h1 W
 have zX:yA (aP l) need fin =.ask fF (Base.load (l.base+3*l.term+32) 8) fun limit=>O4 (aP l) need fin limit.v:=rfl
 have Oj:∀lim,O4 (aP l) need fin lim =.ask fF (Base.load (l.base+3*l.term+24) 4) fun c=>Gr (aP l) need fin lim (u32 c.v):=fun _=>rfl
 have Oi:∀lim c,Gr (aP l) need fin lim c =.ask fF (Base.load (l.base+3*l.term+8*(c%3)) 8) fun raw=>Qn (aP l) need fin lim c raw.v:=fun _ _=>rfl
 obtain⟨M,hM⟩:∃M,l.base+3*l.term=M:=⟨_,rfl⟩
 rw[hM]at c40 zX
 simp only[hM]at Oj Oi c70
 have hM0:0≤M∧M≤200000:=by omega
 obtain⟨T,hT⟩:∃T,yA (aP l) need fin=T:=⟨_,rfl⟩
 rw[hT]at zX ⊢
 have e5:IntKind.i64.wrap (M+32)=M+32:=by rw[IntKind.wrap_i64];omega
 have e6:IntKind.i64.wrap (M+24)=M+24:=by rw[IntKind.wrap_i64];omega
 obtain⟨X,hX⟩:∃X,w.heap.size=X:=⟨_,rfl⟩
 obtain⟨V1,hV1⟩:∃V,w.alloc (.cells (gm l) 23)=V:=⟨_,rfl⟩
 have HX:=aC (hV1▸((BS.fresh h ha hX T).as zX).new (by simp[hX]) (.cells (gm l) 23))
 obtain⟨n0,n1,n2,n3,n4,n5,n6⟩:=iT (HX.out.b0 rfl)
 have HA:=aC (aR Oj Oi)
 unfold Lg.val at c40 c70 ⊢
 have Z6:=hw.bG
 clear h ha hw hM hT hl zX Oj Oi
 go_enter Tryz.func105,Tryz.ntmps105
 go_wp2_with (first|(go_at_call 40;refine(c40 _).mono ?_;rintro e v40 ⟨rfl,hB⟩;replace HX:=aC (HX.out.below hB);clear hB;clear n0 n1 n2 n3 n4 n5 n6;obtain⟨n0,n1,n2,n3,n4,n5,n6⟩:=iT (HX.out.b0 rfl)))
 refine(Gs (M+32) 8 HX.out.mg HX.out.on.le fF (fun limit=>O4 (aP l) need fin limit.v)).mono ?_
 clear n0 n1 n2 n3 n4 n5 n6
 rintro e V (⟨x,hx,rfl,hK⟩|⟨rfl,hK⟩)
 ·obtain⟨lim,hlim⟩:∃v,x.v=v:=⟨_,rfl⟩
  rw[hlim]at hx hK ⊢
  clear hlim
  replace HX:=aC ((HX.out.step hK).as (HA.out.1 lim))
  clear hK
  obtain⟨n0,n1,n2,n3,n4,n5,n6⟩:=iT (HX.out.b0 rfl)
  go_wp2_with (first|(go_at_call 40;refine(c40 _).mono ?_;rintro e v40 ⟨rfl,hB⟩;replace HX:=aC (HX.out.below hB);clear hB;clear n0 n1 n2 n3 n4 n5 n6;obtain⟨n0,n1,n2,n3,n4,n5,n6⟩:=iT (HX.out.b0 rfl)))
  refine(Gs (M+24) 4 HX.out.mg HX.out.on.le fF (fun c=>Gr (aP l) need fin lim (u32 c.v))).mono ?_
  clear n0 n1 n2 n3 n4 n5 n6
  rintro e V (⟨y,hy,rfl,hK⟩|⟨rfl,hK⟩)
  ·obtain⟨yv,hyv⟩:∃v,y.v=v:=⟨_,rfl⟩
   rw[hyv]at hy hK ⊢
   clear hyv
   obtain⟨cn,hcn⟩:∃v,u32 yv=v:=⟨_,rfl⟩
   have hc0:0≤cn∧cn<4294967296:=hcn▸CG _
   have u1:IntKind.u32.wrap yv=cn:=by rw[IntKind.wrap_u32,←hcn];rfl
   rw[hcn]at hK
   clear hcn
   replace HX:=aC ((HX.out.step hK).as (HA.out.2 lim cn))
   clear hK
   obtain⟨n0,n1,n2,n3,n4,n5,n6⟩:=iT (HX.out.b0 rfl)
   obtain⟨p,hp⟩:∃p,cn%3=p:=⟨_,rfl⟩
   have hp0:0≤p∧p<3:=by omega
   replace c70:=fun W=>c70 p hp0.1 hp0.2 W
   rw[hp]at HX
   have e9:cn.tmod 3=p:=by rw[Int.tmod_eq_emod_of_nonneg (by omega)];exact hp
   have e10:IntKind.i64.wrap p=p:=by rw[IntKind.wrap_i64];omega
   have e11:IntKind.u32.wrap p=p:=by rw[IntKind.wrap_u32];omega
   obtain⟨tl,htl⟩:∃t,M+8*p=t:=⟨_,rfl⟩
   rw[htl]at HX c70
   clear htl hp
   go_wp2_with (first|(go_at_call 70;refine(c70 _).mono ?_;rintro e v70 ⟨rfl,hB⟩;replace HX:=aC (HX.out.below hB);clear hB;clear n0 n1 n2 n3 n4 n5 n6))
   refine(Gs tl 8 HX.out.mg HX.out.on.le fF (fun raw=>Qn (aP l) need fin lim cn raw.v)).mono ?_
   rintro e V (⟨z,hz,rfl,hK⟩|⟨rfl,hK⟩)
   ·obtain⟨zv,hzv⟩:∃v,z.v=v:=⟨_,rfl⟩
    rw[hzv]at hz hK ⊢
    clear hzv
    replace HX:=aC (HX.out.step hK)
    clear hK
    obtain⟨n0,n1,n2,n3,n4,n5,n6⟩:=iT (HX.out.b0 rfl)
    have nW:=fun W=>uA zv hz W
    have hmay:Qn (aP l) need fin lim cn zv=if u32 (bF (zv/4294967296)-l.bG)≠cn then .done ⟨bW,false,0,6⟩else if cn≥2147483648 then .done ⟨bW,false,0,7⟩else if cn*l.term+min (zv%4294967296) l.term<iK lim then fin cn else if cn*l.term+min (zv%4294967296) l.term+need>l.term*2147483648 then .done ⟨bW,false,0,7⟩else .done ⟨bW,false,0,5⟩:=rfl
    obtain⟨tm,Cb⟩:∃v,bF (zv/4294967296)=v:=⟨_,rfl⟩
    obtain⟨of,hof⟩:∃v,zv%4294967296=v:=⟨_,rfl⟩
    have rG : -2147483648≤tm∧tm<2147483648:=Cb▸uH _
    have IA:0≤of∧of<4294967296:=by omega
    rw[Cb,hof]at nW hmay
    have nX:=fun W=>I1 tm l.bG rG Z6 W
    obtain⟨c2,hc2⟩:∃v,u32 (tm-l.bG)=v:=⟨_,rfl⟩
    rw[hc2]at nX hmay
    obtain⟨sl,hsl⟩:∃v,iK lim=v:=⟨_,rfl⟩
    rw[hsl]at hmay
    have u2:IntKind.i64.wrap lim=sl:=by rw[IntKind.wrap_i64,←hsl,iK]
    have hm:=Nz hc0 (t:=l.term) (by omega)
    obtain⟨mu,hmu⟩:∃m,cn*l.term=m:=⟨_,rfl⟩
    rw[hmu]at hm hmay
    obtain⟨mi,QB⟩:∃m,min of l.term=m:=⟨_,rfl⟩
    have acN:0≤mi∧mi≤8192:=by omega
    rw[QB]at hmay
    have u3:(if l.term<of then l.term else of)=mi:=by rw[←QB];split<;>omega
    have u4:IntKind.i64.wrap cn=cn:=by rw[IntKind.wrap_i64];omega
    have u5:IntKind.i64.wrap of=of:=by rw[IntKind.wrap_i64];omega
    have u6:IntKind.i64.wrap (cn*l.term)=mu:=by rw[hmu,IntKind.wrap_i64];omega
    have u7:IntKind.i64.wrap (mu+mi)=mu+mi:=by rw[IntKind.wrap_i64];omega
    have u8:IntKind.i64.wrap (mu+mi+need)=mu+mi+need:=by rw[IntKind.wrap_i64];omega
    have u9:IntKind.i64.wrap mi=mi:=by rw[IntKind.wrap_i64];omega
    clear Cb hof hc2 hsl QB hz hmu
    by_cases g1:c2=cn
    ·subst g1
     rw[if_neg (by simp)]at hmay
     by_cases g2:c2≥2147483648
     ·rw[if_pos g2]at hmay
      replace HX:=aC (HX.out.as hmay)
      clear hmay
      go_wp2_with (first|(go_at_call 71;refine(nW _).mono ?_;clear nW;rintro e v71 ⟨rfl,hw'⟩;subst v71)|(go_at_call 161;refine(nX _).mono ?_;clear nX;rintro e vV ⟨rfl,hw'⟩;subst vV))
      exact bodyPost_ret (v :=.tuple #[.int .u32 0,.int .i64 7]) (by simp[results,Tryz.results105,go_sem]) rfl (.inr (.inl ⟨7,_,.inr (.inr rfl),rfl,HX.out.on⟩))
     ·rw[if_neg g2]at hmay
      by_cases g3:mu+mi<sl
      ·rw[if_pos g3]at hmay
       replace HX:=aC (HX.out.as hmay)
       clear hmay
       go_wp2_with (first|(go_at_call 71;refine(nW _).mono ?_;clear nW;rintro e v71 ⟨rfl,hw'⟩;subst v71)|(go_at_call 161;refine(nX _).mono ?_;clear nX;rintro e vV ⟨rfl,hw'⟩;subst vV))
       exact bodyPost_ret (v :=.tuple #[.int .u32 c2,.int .i64 0]) (by simp[results,Tryz.results105,go_sem]) rfl (.inl ⟨c2,_,⟨hc0.1,by omega⟩,rfl,HX.out.on⟩)
      ·rw[if_neg g3]at hmay
       by_cases g4:mu+mi+need>l.term*2147483648
       ·rw[if_pos g4]at hmay
        replace HX:=aC (HX.out.as hmay)
        clear hmay
        go_wp2_with (first|(go_at_call 71;refine(nW _).mono ?_;clear nW;rintro e v71 ⟨rfl,hw'⟩;subst v71)|(go_at_call 161;refine(nX _).mono ?_;clear nX;rintro e vV ⟨rfl,hw'⟩;subst vV)|(go_at_call 67;refine(Zi _).mono ?_;clear Zi;rintro e v67 ⟨rfl,hw'⟩;subst v67))
        exact bodyPost_ret (v :=.tuple #[.int .u32 0,.int .i64 7]) (by simp[results,Tryz.results105,go_sem]) rfl (.inr (.inl ⟨7,_,.inr (.inr rfl),rfl,HX.out.on⟩))
       ·rw[if_neg g4]at hmay
        replace HX:=aC (HX.out.as hmay)
        clear hmay
        go_wp2_with (first|(go_at_call 71;refine(nW _).mono ?_;clear nW;rintro e v71 ⟨rfl,hw'⟩;subst v71)|(go_at_call 161;refine(nX _).mono ?_;clear nX;rintro e vV ⟨rfl,hw'⟩;subst vV)|(go_at_call 67;refine(Zi _).mono ?_;clear Zi;rintro e v67 ⟨rfl,hw'⟩;subst v67))
        exact bodyPost_ret (v :=.tuple #[.int .u32 0,.int .i64 5]) (by simp[results,Tryz.results105,go_sem]) rfl (.inr (.inl ⟨5,_,.inl rfl,rfl,HX.out.on⟩))
    ·have g1':(c2 != cn)=true:=by simpa using g1
     rw[if_pos g1]at hmay
     replace HX:=aC (HX.out.as hmay)
     clear hmay g1
     go_wp2_with (first|(go_at_call 71;refine(nW _).mono ?_;clear nW;rintro e v71 ⟨rfl,hw'⟩;subst v71)|(go_at_call 161;refine(nX _).mono ?_;clear nX;rintro e vV ⟨rfl,hw'⟩;subst vV))
     exact bodyPost_ret (v :=.tuple #[.int .u32 0,.int .i64 6]) (by simp[results,Tryz.results105,go_sem]) rfl (.inr (.inl ⟨6,_,.inr (.inl rfl),rfl,HX.out.on⟩))
   ·have HO:=aC (HX.out.off hK)
    clear hK
    go_wp2
    exact bodyPost_ret (v :=.tuple #[.int .u32 0,.int .i64 10]) (by simp[results,Tryz.results105,go_sem]) rfl (.inr (.inr ⟨rfl,HO.out⟩))
  ·have HO:=aC (HX.out.off hK)
   clear hK
   go_wp2
   exact bodyPost_ret (v :=.tuple #[.int .u32 0,.int .i64 10]) (by simp[results,Tryz.results105,go_sem]) rfl (.inr (.inr ⟨rfl,HO.out⟩))
 ·have jh:=aC (HX.out.jg hK)
  have HO:=aC (HX.out.off hK)
  clear hK
  have r0:=jh.out 0 _ rfl
  rw[Nat.add_zero]at r0
  obtain⟨n0,n1,n2,n3,n4,n5,n6⟩:=iT r0
  clear r0
  go_wp2_with (first|(go_at_call 40;refine(c40 _).mono ?_;rintro e abZ ⟨rfl,hB⟩;replace HO:=aC (HO.out.below hB);clear hB;clear n0 n1 n2 n3 n4 n5 n6))
  refine(NK (M+24) 4 _ HO.out.ends).mono ?_
  rintro e V2 ⟨rfl,hB⟩
  replace HO:=aC (HO.out.below hB)
  clear hB
  go_wp2
  exact bodyPost_ret (v :=.tuple #[.int .u32 0,.int .i64 10]) (by simp[results,Tryz.results105,go_sem]) rfl (.inr (.inr ⟨rfl,HO.out⟩))
end
