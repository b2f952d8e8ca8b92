import Derived.Test.YtlaogoehmndcjaaGreatDoorZ47
set_option linter.unusedVariables false
set_option maxRecDepth 1000000
set_option maxHeartbeats 3200000
set_option linter.unusedSectionVars false
set_option linter.unusedSimpArgs false
namespace Go.Proofs.YtlaogoehmndcjaaGreatDoor.Sy
open Go RowKit Lib AS Base Pr Ba
section
variable {l:Lg} {q:Nat} {W W':World} {b:Nat} {K OA:Nat→Prop} {T:Pr An rD} {g:Bool} {now left dn:Value} {ops:List gz} {tries n:Int} {out:List ng} {p:Pr An Ot} {x:An}
theorem PW {rt:Nat×Nat} (hq:q≤1500) (h:AX l (q+1) p (.iface 136 (dS rt)) W OA) (ha:lQ p) (hV:0≤x.v∧x.v<18446744073709551616) {xa:Option Addr} {xn xc:Nat}:Calls Tryz.prog 281 #[dS rt,.agg #[.int .u64 x.v,.bool x.dn,.slice xa xn xc]] W fun e w'=>e =.returned (.tuple #[])∧jB OA W w'∧AX l q (wB p x) (.iface 136 (dS rt)) w' (Grow OA W w'):=by
 have h2:=h.take hq ha x hV (xa:=xa) (xn:=xn) (xc:=xc)
 clear hV
 obtain⟨rt',⟨e,h⟩|⟨e,h⟩⟩:=h2
 ·obtain rfl:=uM (Value.iface.inj e).2;exact h
 ·exact absurd (Value.iface.inj e).1 (by decide)
theorem PV {rt:Nat×Nat} (hq:q≤1500) (h:AX l (q+1) p (.iface 138 (dS rt)) W OA) (ha:lQ p) (hV:0≤x.v∧x.v<18446744073709551616) {xa:Option Addr} {xn xc:Nat}:Calls Tryz.prog 285 #[dS rt,.agg #[.int .u64 x.v,.bool x.dn,.slice xa xn xc]] W fun e w'=>e =.returned (.tuple #[])∧jB OA W w'∧AX l q (wB p x) (.iface 138 (dS rt)) w' (Grow OA W w'):=by
 have h2:=h.take hq ha x hV (xa:=xa) (xn:=xn) (xc:=xc)
 clear hV
 obtain⟨rt',⟨e,h⟩|⟨e,h⟩⟩:=h2
 ·exact absurd (Value.iface.inj e).1 (by decide)
 ·obtain rfl:=uM (Value.iface.inj e).2;exact h
theorem TC {rt:Nat×Nat} (h:AX l q p (.iface 140 (dS rt)) W OA) (ha:lQ p):False:=by
 obtain⟨-,-,rt',hk⟩:=h
 generalize hv:Value.iface 140 (dS rt)=v at hk
 cases hk with
 | offer=>injection hv with e _;cases e
 | claim=>injection hv with e _;cases e
 | wrong hS ho hp=>subst hp;exact ha
abbrev BD (x:An) (xa:Option Addr) (xn xc:Nat):Value :=.agg #[.int .u64 x.v,.bool x.dn,.slice xa xn xc]
theorem Jb (hw:l.wf) (h:WR l T (q+1) W b K) (ht:lQ T) (hV:0≤x.v∧x.v<18446744073709551616) {xa:Option Addr} {xn xc:Nat} :
 Calls Tryz.prog 35 #[.pointer (some ⟨b,0,none⟩),BD x xa xn xc] W fun e w'=>∃K',e =.returned (.tuple #[])∧WK K W w' K'∧WR l (wB T x) q w' b K':=by
 obtain⟨g,p,ops,tries,n,out,f,hwx,hB,hTr,hg⟩:=h
 cases g with
 | false=>subst hTr;cases ops<;>exact absurd ht id
 | true =>
   obtain⟨o1,rest,rfl⟩:∃o1 rest,ops=o1::rest:=by
    cases ops with
    | nil=>exact absurd rfl (hB.some_ rfl)
    | cons o1 rest=>exact⟨o1,rest,rfl⟩
   have zX:=hg rfl
   have Y5:wB T x=rQ (aP l) f true (wB p x) (o1::rest) tries n out:=by
    subst hTr
    cases p with
    | done o=>exact absurd zX id
    | ask po pa pk=>rfl
   obtain⟨lt,kb,now,left,dn,OA,hT,hA,hO,hr⟩:=hwx
   have hq:q≤1500:=by have:=hB.qb;omega
   have hB2:WB f q true (wB p x) (o1::rest) tries n out:=⟨hB.data,hB.len,hB.tr,⟨hB.n0.1,by have:=hB.n0;omega⟩,hq,hB.some_,hB.fuel,fun _ _ _ _=>by have:=hB.n0;omega⟩
   obtain⟨V,hV1⟩:∃V,W.alloc (.cells #[.int .u64 x.v,.bool x.dn,.slice xa xn xc] 51)=V:=⟨_,rfl⟩
   have bV:Below W.heap.size W V:=by rw[←hV1];exact(Below.refl _ _).alloc (Nat.le_refl _) _
   have rV:V.heap[W.heap.size]? = some (.cells #[.int .u64 x.v,.bool x.dn,.slice xa xn xc] 51):=by rw[←hV1];exact aZ _ _
   have a0:V.cell? ⟨W.heap.size,0,none⟩=some (.int .u64 x.v):=by simp[World.cell?,rV]
   have a1:V.cell? ⟨W.heap.size,1,none⟩=some (.bool x.dn):=by simp[World.cell?,rV]
   have a2:V.cell? ⟨W.heap.size,2,none⟩=some (.slice xa xn xc):=by simp[World.cell?,rV]
   have kK:V.heap[b]? = _:=(bV.block b (lt b kb)).trans hT
   unfold ji at kK
   obtain⟨c0,c1,c2,c3,-⟩:=eH kK
   clear kK
   have hax:=hA rfl
   obtain⟨X,hX⟩:∃X,W.heap.size=X:=⟨_,rfl⟩
   obtain⟨rt,hc⟩:=hax.acts
   rcases hc with⟨rfl,-⟩|⟨rfl,-⟩|⟨rfl,-⟩
   ·have cT:∀V',Below V.heap.size V V'→Calls Tryz.prog 281 #[dS rt,.agg #[.int .u64 x.v,.bool x.dn,.slice xa xn xc]] V' fun e w'=>e =.returned (.tuple #[])∧∃K',WK K V' w' K'∧WT l (wB T x) q w' b K':=fun V' hV'=>by
     have b2:Below W.heap.size W V':=bV.trans (hV'.mono bV.size)
     refine(PW hq (hax.move b2.size fun k hk=>b2.block k (hax.lt k hk)) zX hV).mono ?_
     rintro e w' ⟨rfl,hf,ha⟩
     obtain⟨h1,h2⟩:=jN (fun k hk=>Nat.lt_of_lt_of_le (lt k hk) b2.size) kb ((b2.block b (lt b kb)).trans hT) hO (hr.moved lt fun k hk _=>b2.block k (lt k hk)) hf fH ha
     exact⟨rfl,_,h2,⟨true,_,_,_,_,_,f,h1,hB2,Y5⟩⟩
    have HX:=aC bV
    clear hax hA hT hr hO lt kb bV rV hB hg hTr zX Y5 hB2 ht
    rw[hX]at a0 a1 a2
    go_enter Tryz.func35,Tryz.ntmps35
    go_wp2_with (fail)
    go_region_with
     (go_at_call 281
      refine(cT _ (Below.drew (Below.refl _ _))).mono ?_
      clear cT
      rintro e w1 ⟨rfl,K1,hk1,ht1⟩
      have H1:=aC (aR hk1 ht1)
      have cS:=settle hw ht1
      clear hk1 ht1)
    all_goals go_wp2_with (fail)
    all_goals refine cS.mono ?_
    all_goals clear cS
    all_goals rintro e w2 ⟨K2,rfl,hk2,hr2⟩
    all_goals have H2:=aC (aR hk2 hr2)
    all_goals clear hk2 hr2
    all_goals go_wp2
    all_goals go_returns
    all_goals exact⟨K2,rfl,(WK.below HX.out).trans ((WK.below (Below.drew (Below.refl _ _))).trans (H1.out.1.trans H2.out.1)),H2.out.2⟩
   ·have cT:∀V',Below V.heap.size V V'→Calls Tryz.prog 285 #[dS rt,.agg #[.int .u64 x.v,.bool x.dn,.slice xa xn xc]] V' fun e w'=>e =.returned (.tuple #[])∧∃K',WK K V' w' K'∧WT l (wB T x) q w' b K':=fun V' hV'=>by
     have b2:Below W.heap.size W V':=bV.trans (hV'.mono bV.size)
     refine(PV hq (hax.move b2.size fun k hk=>b2.block k (hax.lt k hk)) zX hV).mono ?_
     rintro e w' ⟨rfl,hf,ha⟩
     obtain⟨h1,h2⟩:=jN (fun k hk=>Nat.lt_of_lt_of_le (lt k hk) b2.size) kb ((b2.block b (lt b kb)).trans hT) hO (hr.moved lt fun k hk _=>b2.block k (lt k hk)) hf fH ha
     exact⟨rfl,_,h2,⟨true,_,_,_,_,_,f,h1,hB2,Y5⟩⟩
    have HX:=aC bV
    clear hax hA hT hr hO lt kb bV rV hB hg hTr zX Y5 hB2 ht
    rw[hX]at a0 a1 a2
    go_enter Tryz.func35,Tryz.ntmps35
    go_wp2_with (fail)
    go_region_with
     (go_at_call 285
      refine(cT _ (Below.drew (Below.refl _ _))).mono ?_
      clear cT
      rintro e w1 ⟨rfl,K1,hk1,ht1⟩
      have H1:=aC (aR hk1 ht1)
      have cS:=settle hw ht1
      clear hk1 ht1)
    all_goals go_wp2_with (fail)
    all_goals refine cS.mono ?_
    all_goals clear cS
    all_goals rintro e w2 ⟨K2,rfl,hk2,hr2⟩
    all_goals have H2:=aC (aR hk2 hr2)
    all_goals clear hk2 hr2
    all_goals go_wp2
    all_goals go_returns
    all_goals exact⟨K2,rfl,(WK.below HX.out).trans ((WK.below (Below.drew (Below.refl _ _))).trans (H1.out.1.trans H2.out.1)),H2.out.2⟩
   ·exact absurd zX (TC hax)
theorem PD (hw:l.wf) (h:WR l T (q+1) W b K) (ht:lQ T) (hV:0≤x.v∧x.v<18446744073709551616) {xa:Option Addr} {xn xc:Nat} :
 Calls Tryz.prog 14 #[.pointer (some ⟨b,0,none⟩),BD x xa xn xc] W fun e w'=>∃K',e =.returned (.tuple #[])∧WK K W w' K'∧WR l (wB T x) q w' b K':=by
 obtain⟨V,hV1⟩:∃V,W.alloc (.cells #[.int .u64 x.v,.bool x.dn,.slice xa xn xc] 51)=V:=⟨_,rfl⟩
 have bV:Below W.heap.size W V:=by rw[←hV1];exact(Below.refl _ _).alloc (Nat.le_refl _) _
 have rV:V.heap[W.heap.size]? = some (.cells #[.int .u64 x.v,.bool x.dn,.slice xa xn xc] 51):=by rw[←hV1];exact aZ _ _
 have a0:V.cell? ⟨W.heap.size,0,none⟩=some (.int .u64 x.v):=by simp[World.cell?,rV]
 have a1:V.cell? ⟨W.heap.size,1,none⟩=some (.bool x.dn):=by simp[World.cell?,rV]
 have a2:V.cell? ⟨W.heap.size,2,none⟩=some (.slice xa xn xc):=by simp[World.cell?,rV]
 obtain⟨X,hX⟩:∃X,W.heap.size=X:=⟨_,rfl⟩
 have cT:∀V',Below V.heap.size V V'→Calls Tryz.prog 35 #[.pointer (some ⟨b,0,none⟩),BD x xa xn xc] V' fun e w'=>∃K',e =.returned (.tuple #[])∧WK K V' w' K'∧WR l (wB T x) q w' b K':=fun V' hV'=>by
  have b2:Below W.heap.size W V':=bV.trans (hV'.mono bV.size)
  obtain⟨g,p,ops,tries,n,out,f,hwx,hB,hTr,hg⟩:=h
  exact Jb hw ⟨g,p,ops,tries,n,out,f,hwx.move b2.size fun k hk=>b2.block k (hwx.lt k hk),hB,hTr,hg⟩ ht hV
 unfold BD at cT ⊢
 have HX:=aC bV
 clear bV rV h
 rw[hX]at a0 a1 a2
 go_enter Tryz.func14,Tryz.ntmps14
 go_wp2_with (fail)
 go_region_with
  (go_at_call 35
   refine(cT _ (Below.drew (Below.refl _ _))).mono ?_
   clear cT
   rintro e w1 ⟨K1,rfl,hk1,ht1⟩
   have H1:=aC (aR hk1 ht1)
   clear hk1 ht1)
 all_goals go_wp2
 all_goals go_returns
 all_goals exact⟨K1,rfl,(WK.below HX.out).trans ((WK.below (Below.drew (Below.refl _ _))).trans H1.out.1),H1.out.2⟩
end
section
variable {l:Lg} {q:Nat} {W W':World} {b:Nat} {K OA:Nat→Prop} {T:Pr An rD} {g:Bool} {now left dn:Value} {ops:List gz} {tries n:Int} {out:List ng} {p:Pr An Ot}
theorem qR {f:Nat} (hB:WB f q true p ops tries n out) (ha:lQ p):∃po pa pk K,p =.ask po pa pk∧rQ (aP l) f true p ops tries n out =.ask ⟨out,po.s,po.has⟩ pa K:=by
 cases ops with
 | nil=>exact absurd rfl (hB.some_ rfl)
 | cons o rest =>
   cases p with
   | done o=>exact absurd ha id
   | ask po pa pk=>exact⟨po,pa,pk,_,rfl,rfl⟩
theorem vX {f:Nat}:rQ (aP l) f false p ops tries n out =.done ⟨out,bW,false⟩:=by cases ops<;>rfl
theorem Jw (h:WR l T q W b K):∃now g left tries n dn out,W.heap[b]? = some (.cells (ji b now g l left tries n dn) 89)∧W.ownsRow 0 78 8 dn out.length (out.flatMap uE)∧T.obs.sent=out∧out.length≤100:=by
 obtain⟨g,p,ops,tries,n,out,f,⟨lt,kb,now,left,dn,OA,hT,hA,hO,hr⟩,hB,hTr,hg⟩:=h
 refine⟨now,g,left,tries,n,dn,out,hT,hr.row,?_,by have:=hB.len;omega⟩
 cases g with
 | false=>rw[hTr,vX];rfl
 | true =>
   obtain⟨po,pa,pk,_,rfl,e⟩:=qR (l:=l) hB (hg rfl)
   rw[hTr,e];rfl
theorem WR.move (h:WR l T q W b K) (hs:W.heap.size≤W'.heap.size) (hkk:∀k,K k→W'.heap[k]? = W.heap[k]?):WR l T q W' b K:=by
 obtain⟨g,p,ops,tries,n,out,f,hwx,hB,hTr,hg⟩:=h
 exact⟨g,p,ops,tries,n,out,f,hwx.move hs hkk,hB,hTr,hg⟩
theorem WR.lt (h:WR l T q W b K):∀k,K k→k<W.heap.size:=by
 obtain⟨g,p,ops,tries,n,out,f,hwx,hB,hTr,hg⟩:=h
 exact hwx.lt
theorem WR.kb (h:WR l T q W b K):K b:=by
 obtain⟨g,p,ops,tries,n,out,f,hwx,hB,hTr,hg⟩:=h
 exact hwx.kb
theorem Nu {w4:World} {s:Nat} {act:Value} (h:WI l w4 b K g now ops tries n out) (WL:∀k,K k→k<s) (RF:∀k,OA k→s≤k) (ha:AX l q p act w4 OA) :
 WX l q ((w4.setCell ⟨b,0,none⟩ act).setCell ⟨b,3,none⟩ (.bool true)) b (fun k=>K k∨OA k) true p ops tries n out:=by
 obtain⟨lt,kb,left,dn,hT,hr⟩:=h
 have o4:Only b w4 ((w4.setCell ⟨b,0,none⟩ act).setCell ⟨b,3,none⟩ (.bool true)):=(Only.set _ _ _).trans (Only.set _ _ _)
 have h4:=gW (C':=ji b act true l left tries n dn) (gW (C':=ji b act g l left tries n dn) hT 0 act) 3 (.bool true)
 have hk:∀k,k<w4.heap.size→k≠b→_:=fun k h1 h2=>o4.block k h1 h2
 have eu:∀k,OA k→k≠b:=fun k hk e=>by have:=RF k hk;have:=WL b kb;omega
 have hok:∀k,K k→¬OA k:=fun k h1 h2=>by have:=WL k h1;have:=RF k h2;omega
 refine⟨fun k hk => ?_,.inl kb,act,left,dn,OA,h4,fun _=>ha.move o4.size fun k h=>hk k (ha.lt k h) (eu k h),fun k hk=>⟨.inr hk,eu k hk⟩,⟨hr.left.move (fun k h1 h2=>hk k h2 h1.2.1) fun k h1 h2=>⟨.inl h1.1,h1.2.1,hok k h1.1,h1.2.2.2⟩,qa hr.row fun g hg=>hk g (lt g (hr.own g hg).1) (hr.own g hg).2.1,fun k hg=>⟨.inl (hr.own k hg).1,(hr.own k hg).2.1,hok k (hr.own k hg).1⟩⟩⟩
 rcases hk with hk|hk
 ·exact Nat.lt_of_lt_of_le (lt k hk) o4.size
 ·exact Nat.lt_of_lt_of_le (ha.lt k hk) o4.size
theorem Lm {w4:World} (h:WI l w4 b K g now ops tries n out) :
 WX l q ((w4.setCell ⟨b,0,none⟩ .nilIface).setCell ⟨b,3,none⟩ (.bool false)) b K false p ops tries n out:=by
 obtain⟨lt,kb,left,dn,hT,hr⟩:=h
 have o4:Only b w4 ((w4.setCell ⟨b,0,none⟩ .nilIface).setCell ⟨b,3,none⟩ (.bool false)):=(Only.set _ _ _).trans (Only.set _ _ _)
 have h4:=gW (C':=ji b .nilIface false l left tries n dn) (gW (C':=ji b .nilIface g l left tries n dn) hT 0 .nilIface) 3 (.bool false)
 exact⟨fun k hk=>Nat.lt_of_lt_of_le (lt k hk) o4.size,kb,_,left,dn,fun _=>False,h4,fun h=>(by cases h),fun k hk=>absurd hk id,hr.moved lt fun k h1 h2=>o4.block k (lt k h1) h2⟩
theorem Gd (hw:l.wf) {m f:Nat} (h:WI l W b K g now ops tries n out) (hR:Rest l T f q ops tries n out m) :
 Calls Tryz.prog 31 #[.pointer (some ⟨b,0,none⟩)] W fun e w'=>∃K',e =.returned (.tuple #[])∧WK K W w' K'∧WR l T q w' b K':=by
 have cM:=Fq hw h hR
 have HX:=aC (aR h hR)
 obtain⟨lt,kb,left,dn,hT,hr⟩:=h
 have kK:=hT
 unfold ji at kK
 obtain⟨c0,c1,c2,c3,-,-,-,-,-,-,-,-,-,-,-,y0,y3,-⟩:=eH kK
 clear hT hr lt kb hR kK
 go_enter Tryz.func31,Tryz.ntmps31
 go_wp2_with (fail)
 refine cM.mono ?_
 clear cM
 rintro e w4 (⟨hops,rfl,rfl⟩|⟨t,rt',OA',p',f',rfl,Iw,Xr,XD,N8,hB4,Ud⟩)
 ·subst hops
  obtain⟨h,hR⟩:=HX.out
  obtain⟨h1,h2⟩:=ES hR (.done ⟨bW,false,0,0⟩)
  have hx:=Lm (q:=q) (p :=.done ⟨bW,false,0,0⟩) h
  have cS:=settle hw (T:=T) ⟨false,_,_,_,_,_,f,hx,h1,h2⟩
  have H2:=aC h.kb
  clear h hR h1 h2 hx
  go_wp2_with (fail)
  refine cS.mono ?_
  clear cS
  rintro e w2 ⟨K2,rfl,hk2,hr2⟩
  have H3:=aC (aR hk2 hr2)
  clear hk2 hr2
  go_wp2
  go_returns
  exact⟨K2,rfl,(CE H2.out _ _).trans H3.out.1,H3.out.2⟩
 ·obtain⟨h,hR⟩:=HX.out
  have hx:=Nu Iw h.lt N8 XD
  have cS:=settle hw (T:=T) ⟨true,_,_,_,_,_,f',hx,hB4,Ud⟩
  have Iu:WK K W w4 (fun k=>K k∨OA' k):=⟨Xr,fun k hk=>hk.imp id (N8 k)⟩
  obtain⟨WM,dn4,Oq,-⟩:=Iw.ex
  have H2:=aC (aR h.kb Iu)
  have kK:=Oq
  unfold ji at kK
  clear c0 c1 c2 c3 y0 y3
  obtain⟨c0,c1,c2,c3,-,-,-,-,-,-,-,-,-,-,-,y0,y3,-⟩:=eH kK
  clear h hR hx Iu Oq kK Iw Xr XD N8 hB4 Ud
  go_wp2_with (fail)
  refine cS.mono ?_
  clear cS
  rintro e w2 ⟨K2,rfl,hk2,hr2⟩
  have H3:=aC (aR hk2 hr2)
  clear hk2 hr2
  go_wp2
  go_returns
  exact⟨K2,rfl,H2.out.2.trans ((CE (.inl H2.out.1) _ _).trans H3.out.1),H3.out.2⟩
end
theorem PY {out:List ng}:∀u∈out.flatMap uE,u.oneCell'=true:=fun u hu=>by
 obtain⟨s,_,hs⟩:=List.mem_flatMap.1 hu
 simp only[uE,List.mem_cons,List.not_mem_nil,or_false]at hs
 rcases hs with rfl|rfl|rfl|rfl|rfl|rfl|rfl|rfl<;>rfl
theorem Uv (ab ao:Nat) (n c:Nat) (xs:List Value) (hl:xs.length=n*8) (hn:n≤100) (h1:∀u∈xs,u.oneCell'=true) (w:World) (hr:∀(j:Nat) u,xs[j]? = some u→w.cell? ((⟨ab,ao,none⟩:Addr).add j)=some u) (hlt:ab<w.heap.size) :
 Calls Tryz.prog 34 #[.slice (some ⟨ab,ao,none⟩) n c] w fun e w'=>∃v',e =.returned v'∧w'.ownsRow w.heap.size 78 8 v' n xs∧Below w.heap.size w w':=by
 obtain⟨i0,hi,hz0,hz1,hz2⟩:=info_parts xJ
 go_enter Tryz.func34,Tryz.ntmps34
 have Lh:(w.alloc (.cells #[] 78)).ownsRow w.heap.size 78 8 (.slice (some ⟨w.heap.size,0,none⟩) 0 0) 0 []:=by
  refine⟨rfl,.inr ⟨w.heap.size,0,#[],rfl,Nat.le_refl _,?_,by simp,by unfold maxLen;omega,by simp,by simp⟩⟩
  exact aZ _ _
 have he:Sem.run Tryz.prog (Go.binOp BinOp.eql 37 (Value.slice (some ⟨ab,ao,none⟩) n c) (Value.slice none 0 0)) w =.ok (.bool false) w:=by first|rfl|kernel_rfl|simp[Go.binOp,go_sem]
 go_wp2_with (first
  | (rw[he];go_wp2)
  | (at_builtin;refine wpList_append_own _ rfl _ _ 37 rfl w.heap.size 78 i0 _ 8 64 Tryz.underlying37 hi hz0 hz1 hz2 rfl (by decide) _ _ _ rfl Lh ⟨ab,ao,none⟩ n c xs rfl hl ?k1 h1 ?k3 ?k4 ?k5 ?_))
 case k1 =>
  intro j u hj
  have hc:=hr j u hj
  rw[Addr.add_lit]at hc ⊢
  exact(Below.cell (p:=⟨ab,ao+j,none⟩) ((Below.refl w.heap.size w).alloc (Nat.le_refl _) (.cells #[] 78)) hlt).trans hc
 case k3=>unfold maxLen;omega
 case k4=>omega
 case k5=>simp
 intro v' w1 hown hgrow hv
 have HB:=aC (aR (show Below w.heap.size w w1 from((Below.refl w.heap.size w).alloc (Nat.le_refl _) _).grown hgrow (by simp) (fun j hj=>(Lh.lt j hj).1)) hown)
 obtain⟨ca,cc,rfl⟩:=lC hown
 clear hown hgrow hv Lh hr h1
 go_wp2
 exact bodyPost_ret (v :=.slice ca (0+n) cc) (by simp[results,Tryz.results34,go_sem]) rfl ⟨_,rfl,by simpa using HB.out.2,HB.out.1⟩
theorem Q0 (n c:Nat) (w:World):Calls Tryz.prog 34 #[.slice none n c] w fun e w'=>e =.returned (.slice none 0 0)∧Below w.heap.size w w':=by
 go_enter Tryz.func34,Tryz.ntmps34
 have he:Sem.run Tryz.prog (Go.binOp BinOp.eql 37 (Value.slice none n c) (Value.slice none 0 0)) w =.ok (.bool true) w:=by first|rfl|kernel_rfl|simp[Go.binOp,go_sem]
 go_wp2_with (rw[he];go_wp2)
 go_ret
 exact⟨rfl,Below.refl _ _⟩
theorem LV {w:World} {v:Value} {out:List ng} (h:w.ownsRow 0 78 8 v out.length (out.flatMap uE)) (hn:out.length≤100) :
 Calls Tryz.prog 34 #[v] w fun e w'=>∃v',e =.returned v'∧w'.ownsRow w.heap.size 78 8 v' out.length (out.flatMap uE)∧Below w.heap.size w w':=by
 rcases h.2 with⟨rfl,h0⟩|⟨g,cap,cur,rfl,_,hg,_,_,_,ht⟩
 ·refine(Q0 0 0 w).mono ?_
  rintro e w' ⟨rfl,hb⟩
  refine⟨_,rfl,?_,hb⟩
  have:out=[]:=List.eq_nil_of_length_eq_zero h0
  subst this
  exact World.ownsRow_nil _ _ _ _
 ·have hlt:g<w.heap.size:=(Array.getElem?_eq_some_iff.1 hg).1
  exact Uv g 0 out.length cap _ h.1 hn PY w (h.cells rfl) hlt
section
variable {l:Lg} {q:Nat} {W:World} {b:Nat} {K:Nat→Prop} {T:Pr An rD}
theorem PI (h:WR l T q W b K) :
 Calls Tryz.prog 13 #[.pointer (some ⟨b,0,none⟩)] W fun e w'=>∃v',e =.returned v'∧w'.ownsRow W.heap.size 78 8 v' T.obs.sent.length (T.obs.sent.flatMap uE)∧Below W.heap.size W w':=by
 obtain⟨now,g,left,tries,n,dn,out,hT,hr,ho,hl⟩:=Jw h
 rw[ho]
 have c:=LV hr hl
 unfold ji at hT
 obtain⟨c0,c1,c2,c3,c4,c5,c6,c7,c8,c9,c10,c11,c12,c13,c14,-⟩:=eH hT
 clear hT hr h
 go_enter Tryz.func13,Tryz.ntmps13
 go_wp2_with (fail)
 refine c.mono ?_
 clear c
 rintro e w1 ⟨v',rfl,ho,hb⟩
 have H:=aC (aR ho hb)
 obtain⟨ca,cc,rfl⟩:=lC ho
 clear ho hb
 go_wp2
 exact bodyPost_ret (v :=.slice ca out.length cc) (by simp[results,Tryz.results13,go_sem]) rfl ⟨_,rfl,H.out.1,H.out.2⟩
end
theorem OT (ba:Option Addr) (bc:Nat) (B:List Nat) (hbn:B.length≤1000) (hB:∀x∈B,x<256) (w:World) (hr:fK w ba B):Calls Tryz.prog 28 #[.slice ba B.length bc] w fun e w'=>∃pa pc,e =.returned (.slice pa B.length pc)∧B.length≤pc∧Below w.heap.size w w'∧RowK w' [] bI (fun k=>w.heap.size≤k) pa B:=by
 by_cases h:ba=none
 ·subst h
  obtain rfl:=C8 hr
  refine(wK 0 bc w).mono ?_
  rintro e w' ⟨rfl,hb⟩
  exact⟨none,0,rfl,Nat.le_refl _,hb,fun j x hx=>by cases hx⟩
 ·refine(OQ ba B.length bc B rfl hbn hB h w hr).mono ?_
  rintro e w' ⟨g,cap,C,rfl,h1,h2,h3,h4,h5⟩
  refine⟨_,cap,rfl,h1,h5,fun j x hx=>⟨g,0,rfl,fun i hi=>absurd hi (Nat.not_lt_zero _),h2,?_⟩⟩
  simp only[World.cell?,h3,Nat.zero_add]
  exact h4 j x hx
def opC:List gz→List (Option Addr×Nat)→List Value
 | o::os,p::ps => .int .i64 o.kind :: .slice p.1 o.data.length p.2::opC os ps
 | _,_=>[]
theorem sJ:∀(os:List gz) (ps:List (Option Addr×Nat)) (o:gz) (p:Option Addr×Nat),ps.length=os.length→opC (os++[o]) (ps++[p])=opC os ps++[.int .i64 o.kind,.slice p.1 o.data.length p.2]
 | [],[],_,_,_=>rfl
 | [],_::_,_,_,h=>by cases h
 | _::_,[],_,_,h=>by cases h
 | a::os,c::ps,o,p,h=>by
   show _::_::opC (os++[o]) (ps++[p])=_::_::(opC os ps++_)
   rw[sJ os ps o p (by simpa using h)]
theorem Nk:∀(os:List gz) (ps:List (Option Addr×Nat)),ps.length=os.length→∀(j:Nat) (o:gz),os[j]? = some o→∃p,ps[j]? = some p∧(opC os ps)[2*j]? = some (.int .i64 o.kind)∧(opC os ps)[2*j+1]? = some (.slice p.1 o.data.length p.2)
 | [],_,_,_,_,h=>by cases h
 | _::_,[],h,_,_,_=>by cases h
 | a::os,c::ps,h,0,o,hj=>by
   injection hj with hj
   subst hj
   exact⟨c,rfl,rfl,rfl⟩
 | a::os,c::ps,h,j+1,o,hj=>by
   obtain⟨p,h1,h2,h3⟩:=Nk os ps (by simpa using h) j o hj
   refine⟨p,h1,?_,?_⟩
   ·rw[show 2*(j+1)=2*j+1+1 by omega];exact h2
   ·rw[show 2*(j+1)+1=2*j+1+1+1 by omega];exact h3
def yY (l:Lg) (left:Value) (tries:Int):Array Value :=#[.nilIface,.nilFunc,.nilFunc,.bool false,.int .i64 l.base,.int .i64 l.term,.int .i64 l.aV,.int .i64 l.subs,.int .i32 l.bG,.int .i32 l.dQ,.int .i32 l.str,left,.int .i64 tries,.int .i64 0,.slice none 0 0]
structure l8 (S:Nat) (w:World) (v:Value) (os:List gz):Prop where
 ex:∃ps:List (Option Addr×Nat),ps.length=os.length∧w.ownsRow S 67 2 v os.length (opC os ps)∧∀(j:Nat) (o:gz) (p:Option Addr×Nat),os[j]? = some o→ps[j]? = some p→RowK w [] bI (fun k=>S≤k∧v.ownBlock≠some k) p.1 o.data
theorem l8.ops {S:Nat} {w:World} {v:Value} {os:List gz} (h:l8 S w v os) {K:Nat→Prop} (hK:∀k,S≤k→k<w.heap.size→K k):xL w K v os:=by
 obtain⟨ps,hl,hown,hrow⟩:=h
 obtain⟨ca,cc,rfl⟩:=lC hown
 rcases hown.2 with⟨e,h0⟩|⟨g,cap,cur,e,hg,eu,hn,_⟩
 ·injection e with e1 e2 e3
  refine⟨ca,_,cc,rfl,rfl,by omega,fun j o hj => ?_⟩
  have:os=[]:=List.eq_nil_of_length_eq_zero h0
  subst this;cases hj
 ·injection e with e1 e2 e3
  subst e1 e3
  refine⟨_,_,cc,rfl,rfl,hn,fun j o hj => ?_⟩
  obtain⟨p,h1,h2,h3⟩:=Nk os ps hl j o hj
  have hlt:g<w.heap.size:=(Array.getElem?_eq_some_iff.1 eu).1
  have c1:=hown.cells rfl _ _ h2
  have c2:=hown.cells rfl _ _ h3
  rw[Addr.add_lit]at c1 c2
  refine⟨g,0,p.1,p.2,rfl,hK g hg hlt,c1,by rw[Nat.zero_add]at c2 ⊢;exact c2,fun i x hx => ?_⟩
  obtain⟨bb,bo,e2,hn',⟨hb,_⟩,hc⟩:=hrow j o p hj h1 i x hx
  exact⟨bb,bo,e2,hn',hK bb hb (World.block_lt_of_cell? w _ hc),hc⟩
theorem l8.nil {S:Nat} {w:World}:l8 S w (.slice none 0 0) []:=⟨[],rfl,World.ownsRow_nil _ _ _ _,fun j o p hj=>by cases hj⟩
theorem yD {w w':World} {S:Nat} {e:TypeId} {size n:Nat} {v:Value} {xs:List Value} (h:w.ownsRow S e size v n xs) (hk:∀g,v.ownBlock=some g→w'.heap[g]? = w.heap[g]?):w'.ownsRow S e size v n xs:=by
 refine⟨h.1,?_⟩
 rcases h.2 with h1|⟨g,cap,cur,rfl,hb,hg,r⟩
 ·exact .inl h1
 ·exact .inr ⟨g,cap,cur,rfl,hb,(hk g rfl).trans hg,r⟩
theorem l8.move {S:Nat} {w w':World} {v:Value} {os:List gz} (h:l8 S w v os) (hk:∀k,S≤k→k<w.heap.size→w'.heap[k]? = w.heap[k]?):l8 S w' v os:=by
 obtain⟨ps,hl,hown,hrow⟩:=h
 refine⟨ps,hl,yD hown fun g hg=>hk g (hown.lt g hg).1 (hown.lt g hg).2,fun j o p h1 h2 i x hx => ?_⟩
 obtain⟨bb,bo,e2,hn',hb,hc⟩:=hrow j o p h1 h2 i x hx
 exact⟨bb,bo,e2,hn',hb,(bE (hk bb hb.1 (World.block_lt_of_cell? w _ hc))).trans hc⟩
theorem l8.more {S:Nat} {w D w':World} {v v':Value} {os:List gz} {o:gz} {pa:Option Addr} {pc:Nat} (h:l8 S w v os) (hD:Below w.heap.size w D) (hr:RowK D [] bI (fun k=>w.heap.size≤k) pa o.data) (hS:S≤w.heap.size)
 (r1:∀ps,ps.length=os.length→w.ownsRow S 67 2 v os.length (opC os ps)→w'.ownsRow S 67 2 v' (os.length+1) (opC os ps++[.int .i64 o.kind,.slice pa o.data.length pc])) (r2:D.grownBy w' v.ownBlock) (r3:v'.ownBlock=v.ownBlock∨v'.ownBlock=some D.heap.size):l8 S w' v' (os++[o]):=by
 obtain⟨ps,hl,hown,hrow⟩:=h
 have hDs:=hD.size
 refine⟨ps++[(pa,pc)],by simp[hl],?_,fun j o' p h1 h2 i x hx => ?_⟩
 ·rw[sJ os ps o (pa,pc) hl,List.length_append]
  exact r1 ps hl hown
 ·by_cases hj:j<os.length
  ·rw[List.getElem?_append_left hj]at h1
   rw[List.getElem?_append_left (by omega)]at h2
   obtain⟨bb,bo,e2,hn',⟨hb,hv⟩,hc⟩:=hrow j o' p h1 h2 i x hx
   have hlt:bb<w.heap.size:=World.block_lt_of_cell? w _ hc
   refine⟨bb,bo,e2,hn',⟨hb,fun e => ?_⟩,(bE ((r2.block bb (by omega) fun e=>hv e.symm).trans (hD.block bb hlt))).trans hc⟩
   rcases r3 with r3|r3
   ·exact hv (r3▸e)
   ·rw[r3]at e;injection e with e;omega
  ·have hj2:j=os.length:=by
    have:=(List.getElem?_eq_some_iff.1 h1).1
    simp at this;omega
   subst hj2
   rw[List.getElem?_append_right (Nat.le_refl _),Nat.sub_self]at h1
   rw[List.getElem?_append_right (by omega),hl,Nat.sub_self]at h2
   injection h1 with h1;injection h2 with h2
   subst h1 h2
   obtain⟨bb,bo,e2,hn',hb,hc⟩:=hr i x hx
   have hlt:bb<D.heap.size:=World.block_lt_of_cell? D _ hc
   have hne:v.ownBlock≠some bb:=fun e=>by have:=(hown.lt bb e).2;omega
   refine⟨bb,bo,e2,hn',⟨by omega,fun e => ?_⟩,(bE (r2.block bb hlt fun e=>hne e.symm)).trans hc⟩
   rcases r3 with r3|r3
   ·exact hne (r3▸e)
   ·rw[r3]at e;injection e with e;omega
