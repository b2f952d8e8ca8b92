import Derived.Test.YtlaogoehmndcjaaGreatDoorZ45
set_option linter.unusedVariables false
set_option linter.unusedSimpArgs false
set_option maxRecDepth 1000000
set_option maxHeartbeats 32000000
set_option linter.unusedSectionVars false
namespace Go.Proofs.YtlaogoehmndcjaaGreatDoor.Sy
open Go RowKit Lib AS Base Pr Ba
section
variable {l:Lg} {q:Nat} {W W':World} {b:Nat} {K OA:Nat→Prop} {g:Bool} {now left dn:Value} {ops:List gz} {tries n:Int} {out:List ng} {o:Ot}
theorem Su {v:Value} {rt:Nat×Nat} {fN fR fS:Nat} {s:jU} {oh:Bool} {op oe:Int} {O:Nat→Prop} (h:Gx l q (.done ⟨s,oh,op,oe⟩) v W O rt fN fR fS):Calls Tryz.prog fR #[dS rt] W fun e w'=>e =.returned (.tuple #[.int .i64 op,.int .i64 oe])∧jB O W w'∧AX l q (.done ⟨s,oh,op,oe⟩) v w' (Grow O W w'):=h.result
theorem MQ {v:Value} {rt:Nat×Nat} {fN fR fS:Nat} {sp st so sz op oe:Int} {oh:Bool} {O:Nat→Prop} (h:Gx l q (.done ⟨⟨sp,st,so,sz⟩,oh,op,oe⟩) v W O rt fN fR fS):Calls Tryz.prog fS #[dS rt] W fun e w'=>e =.returned (.tuple #[.agg #[.int .i64 sp,.int .i32 st,.int .i64 so,.int .i64 sz],.bool oh])∧jB O W w'∧AX l q (.done ⟨⟨sp,st,so,sz⟩,oh,op,oe⟩) v w' (Grow O W w'):=h.slot
theorem Sj (h:W.heap[b]? = some (.cells (ji b now true l left tries n dn) 89)) (u:Value):(W.setCell ⟨b,14,none⟩ u).heap[b]? = some (.cells (ji b now true l left tries n u) 89):=gW h 14 u
theorem MV (h:W.heap[b]? = some (.cells (ji b now true l left tries n dn) 89)) (u:Value):(W.setCell ⟨b,11,none⟩ u).heap[b]? = some (.cells (ji b now true l u tries n dn) 89):=gW h 11 u
theorem MU (h:W.heap[b]? = some (.cells (ji b now true l left tries n dn) 89)):(W.setCell ⟨b,13,none⟩ (.int .i64 0)).heap[b]? = some (.cells (ji b now true l left tries 0 dn) 89):=gW h 13 _
theorem IX (lt:∀k,K k→k<W.heap.size) (kb:K b) (hT:W.heap[b]? = some (.cells (ji b now true l left tries n dn) 89)) (hA:AX l q (.done o) now W OA) (hO:∀k,OA k→K k∧k≠b) {op1:gz} (hr:RX W b K OA left dn (op1::ops) out) (he:¬(o.e=5∨o.e=6)∨tries=0) (hlen:out.length≤1000∧ops.length≤1000) :
 Calls Tryz.prog 30 #[.pointer (some ⟨b,0,none⟩),now] W fun e w'=>∃K',e =.returned (.tuple #[])∧WK K W w' K'∧WI l w' b K' true now ops tries 0 (out++[⟨o.pos,o.e,n,o.s,o.has⟩]):=by
 obtain⟨⟨⟨sp,st,so,sz⟩,oh,op,oe⟩,rfl⟩:∃o',o=o':=⟨_,rfl⟩
 replace he:¬(oe=5∨oe=6)∨tries=0:=he
 have he2:(¬oe=5∧¬oe=6)∨(oe=5∧tries=0)∨(oe=6∧tries=0):=by omega
 have he3:((oe==5)=false∧(oe==6)=false)∨((oe==5)=true∧tries=0)∨((oe==5)=false∧(oe==6)=true∧tries=0):=by
  by_cases h5:oe=5
  ·exact .inr (.inl ⟨by simp[h5],by omega⟩)
  ·by_cases h6:oe=6
   ·exact .inr (.inr ⟨by simp[h5],by simp[h6],by omega⟩)
   ·exact .inl ⟨by simp[h5],by simp[h6]⟩
 clear he he2
 obtain⟨i0,Ob,Qt,Qs,Qr⟩:=info_parts xJ
 obtain⟨gb,go,lc,rfl,hlc⟩:∃gb go lc,left =.slice (some ⟨gb,go,none⟩) (ops.length+1) lc∧ops.length+1≤lc:=by
  obtain⟨la,ln,lc,e,h1,h2,h3⟩:=hr.left
  obtain⟨gb,go,_,_,e2,_⟩:=h3 0 op1 rfl
  subst e2 h1
  exact⟨gb,go,lc,e,h2⟩
 obtain⟨rt,hc⟩:=hA.acts
 rcases hc with⟨rfl,-⟩|⟨rfl,-⟩|⟨rfl,-⟩<;>rcases he3 with⟨n5,n6⟩|⟨n5,rfl⟩|⟨n5,n6,rfl⟩
 all_goals
  first|have c:=Su (Er hA)|have c:=Su (Ep hA)|have c:=Su (Eo hA)
  have HT:=aC (aR lt (aR kb (aR hT (aR hO hr))))
  clear hA lt kb hT hO hr
  go_enter Tryz.func30,Tryz.ntmps30
  go_wp2_with (fail)
  refine c.mono ?_
  clear c
  rintro e w1 ⟨rfl,hf,ha⟩
  obtain⟨lt,kb,hT,hO,hr⟩:=HT.out
  obtain⟨hwx,hwk⟩:=jN lt kb hT hO hr hf fH ha
  have hT1:w1.heap[b]? = _:=(hf.block b (lt b kb) fun h=>(hO b h).2 rfl).trans hT
  have rH:∀k,Grow OA W w1 k→(K k∨Grow OA W w1 k)∧k≠b:=fun k hk=>⟨.inr hk,fun e=>by
   subst e
   rcases hk with hk|hk
   ·exact(hO k hk).2 rfl
   ·have:=lt k kb;omega⟩
  have hr1:=RX.jN (O':=Grow OA W w1) hr lt hf fH
  obtain⟨X,hX⟩:∃X,w1.heap.size=X:=⟨_,rfl⟩
  obtain⟨V,hV⟩:∃V,w1.alloc (.cells #[.int .i64 op,.int .i64 oe,.int .i64 n,.int .i64 0,.int .i32 0,.int .i64 0,.int .i64 0,.bool false] 78)=V:=⟨_,rfl⟩
  have bV:Below X w1 V:=by rw[←hV,←hX];exact(Below.refl _ _).alloc (Nat.le_refl _) _
  have sV:V.heap.size=X+1:=by rw[←hV,←hX];simp
  have rV:V.heap[X]? = some (.cells #[.int .i64 op,.int .i64 oe,.int .i64 n,.int .i64 0,.int .i32 0,.int .i64 0,.int .i64 0,.bool false] 78):=by rw[←hV,←hX];exact aZ _ _
  have hmv:=ha.move (W':=V) bV.size fun k hk=>bV.block k (by have:=ha.lt k hk;omega)
  first|have c2:=MQ (Er hmv)|have c2:=MQ (Ep hmv)|have c2:=MQ (Eo hmv)
  clear hmv
  have HV:=aC hV
  clear hV
  have kK:=hT1
  unfold ji at kK
  obtain⟨f0,f1,f2,f3,f4,f5,f6,f7,f8,f9,f10,f11,f12,f13,f14,z0,z3,Pz,z12,Py,VD⟩:=eH kK
  have H2:=aC (aR hwk (aR hwx (aR hT1 (aR rH (aR hr1 (aR bV rV))))))
  clear lt kb hT hO hr hf ha hwx hwk hT1 rH hr1 kK bV rV
  go_wp2_with (fail)
  rw[HV.out]
  refine c2.mono ?_
  clear c2
  rintro e w2 ⟨rfl,hf2,ha2⟩
  obtain⟨hwk,hwx,hT1,rH,hr1,bV,rV⟩:=H2.out
  have Y1:∀k,(K k∨Grow OA W w1 k)→k<V.heap.size:=fun k hk=>by have:=hwx.lt k hk;omega
  have Vo:V.heap[b]? = _:=(bV.block b (by have:=hwx.lt b hwx.kb;omega)).trans hT1
  have ZT:=hr1.moved (W':=V) hwx.lt fun k hk _=>bV.block k (by have:=hwx.lt k hk;omega)
  obtain⟨mh,oM⟩:=jN Y1 hwx.kb Vo rH ZT hf2 fH ha2
  have hrw2:=RX.jN (O':=Grow (Grow OA W w1) V w2) ZT Y1 hf2 fH
  have hX1:¬Grow OA W w1 X:=fun h=>by have:=hwx.lt X (.inr h);omega
  have hx2:w2.heap[X]? = _:=(hf2.block X (by omega) hX1).trans rV
  have nO:w2.heap[b]? = _:=(hf2.block b (Y1 b hwx.kb) fun h=>(rH b h).2 rfl).trans Vo
  have hbX:b≠X:=by have:=hwx.lt b hwx.kb;omega
  have h3:=gW (C' :=#[.int .i64 op,.int .i64 oe,.int .i64 n,.int .i64 sp,.int .i32 st,.int .i64 so,.int .i64 sz,.bool oh]) (gW (C' :=#[.int .i64 op,.int .i64 oe,.int .i64 n,.int .i64 sp,.int .i32 st,.int .i64 so,.int .i64 sz,.bool false]) (gW (C' :=#[.int .i64 op,.int .i64 oe,.int .i64 n,.int .i64 sp,.int .i32 st,.int .i64 so,.int .i64 0,.bool false]) (gW (C' :=#[.int .i64 op,.int .i64 oe,.int .i64 n,.int .i64 sp,.int .i32 st,.int .i64 0,.int .i64 0,.bool false]) (gW (C' :=#[.int .i64 op,.int .i64 oe,.int .i64 n,.int .i64 sp,.int .i32 0,.int .i64 0,.int .i64 0,.bool false]) hx2 3 (.int .i64 sp)) 4 (.int .i32 st)) 5 (.int .i64 so)) 6 (.int .i64 sz)) 7 (.bool oh)
  have o3:Only X w2 (((((w2.setCell ⟨X,3,none⟩ (.int .i64 sp)).setCell ⟨X,4,none⟩ (.int .i32 st)).setCell ⟨X,5,none⟩ (.int .i64 so)).setCell ⟨X,6,none⟩ (.int .i64 sz)).setCell ⟨X,7,none⟩ (.bool oh)):=((((Only.set _ _ _).trans (Only.set _ _ _)).trans (Only.set _ _ _)).trans (Only.set _ _ _)).trans (Only.set _ _ _)
  obtain⟨W3,hW3⟩:∃W3,(((((w2.setCell ⟨X,3,none⟩ (.int .i64 sp)).setCell ⟨X,4,none⟩ (.int .i32 st)).setCell ⟨X,5,none⟩ (.int .i64 so)).setCell ⟨X,6,none⟩ (.int .i64 sz)).setCell ⟨X,7,none⟩ (.bool oh))=W3:=⟨_,rfl⟩
  rw[hW3]at h3 o3
  have II:W3.heap[b]? = _:=(o3.block b (mh.lt b mh.kb) hbX).trans nO
  obtain⟨d0,d1,d2,d3,d4,d5,d6,d7,y0,y1,y2,y3,y4,y5,y6,y7⟩:=YM hx2
  obtain⟨u0,u1,u2,u3,u4,u5,u6,u7,-⟩:=YM h3
  have kK:=II
  unfold ji at kK
  clear f0 f1 f2 f3 f4 f5 f6 f7 f8 f9 f10 f11 f12 f13 f14 z0 z3 Pz z12 Py VD
  obtain⟨f0,f1,f2,f3,f4,f5,f6,f7,f8,f9,f10,f11,f12,f13,f14,z0,z3,Pz,z12,Py,VD⟩:=eH kK
  have H3:=aC (aR mh (aR oM (aR hrw2 (aR II (aR o3 h3)))))
  have Xa:∀k,((K k∨Grow OA W w1 k)∨Grow (Grow OA W w1) V w2 k)→k≠X:=fun k hk=>by
   rcases hk with hk|hk|hk
   ·have:=hwx.lt k hk;omega
   ·have:=hwx.lt k (.inr hk);omega
   ·omega
  have HX2:=aC Xa
  clear Xa hwk hwx hT1 rH hr1 bV rV Y1 Vo ZT mh oM hrw2 hX1 hx2 nO h3 o3 II kK hf2 ha2
  obtain⟨Y,hY⟩:∃Y,W3.heap.size=Y:=⟨_,rfl⟩
  go_wp2
  obtain⟨dD,hdD⟩:∃D,W3.drew.alloc (.cells #[.int .i64 op,.int .i64 oe,.int .i64 n,.int .i64 sp,.int .i32 st,.int .i64 so,.int .i64 sz,.bool oh] 78)=D:=⟨_,rfl⟩
  have Ze:∀k,k<Y→(W3.drew.alloc (.cells #[.int .i64 op,.int .i64 oe,.int .i64 n,.int .i64 sp,.int .i32 st,.int .i64 so,.int .i64 sz,.bool oh] 78)).heap[k]? = W3.heap[k]? := fun k hk=>((Below.refl W3.heap.size W3).drew.alloc (Nat.le_refl _) _).block k (by omega)
  have hDo:(W3.drew.alloc (.cells #[.int .i64 op,.int .i64 oe,.int .i64 n,.int .i64 sp,.int .i32 st,.int .i64 so,.int .i64 sz,.bool oh] 78)).ownsRow 0 78 8 dn out.length (out.flatMap uE):=by
   obtain⟨mh,oM,hrw2,II,o3,h3⟩:=H3.out
   refine qa hrw2.row fun g hg => ?_
   have h1:=mh.lt g (hrw2.own g hg).1
   have hne:g≠X:=HX2.out g (hrw2.own g hg).1
   exact(Ze g (by have:=o3.size;omega)).trans (o3.block g h1 hne)
  have hDr:(W3.drew.alloc (.cells #[.int .i64 op,.int .i64 oe,.int .i64 n,.int .i64 sp,.int .i32 st,.int .i64 so,.int .i64 sz,.bool oh] 78)).heap[Y]? = some (.cells #[.int .i64 op,.int .i64 oe,.int .i64 n,.int .i64 sp,.int .i32 st,.int .i64 so,.int .i64 sz,.bool oh] 78):=by rw[←hY];exact aZ W3.drew _
  have hDn:∀(j:Nat) u,[Value.int .i64 op,.int .i64 oe,.int .i64 n,.int .i64 sp,.int .i32 st,.int .i64 so,.int .i64 sz,.bool oh][j]? = some u→(W3.drew.alloc (.cells #[.int .i64 op,.int .i64 oe,.int .i64 n,.int .i64 sp,.int .i32 st,.int .i64 so,.int .i64 sz,.bool oh] 78)).cell? ((⟨Y,0,none⟩:Addr).add j)=some u:=fun j u hj=>by
   rw[Addr.add_lit,Nat.zero_add]
   have hjl:=(List.getElem?_eq_some_iff.1 hj).1
   simp only[World.cell?,hDr]
   rcases j with _|_|_|_|_|_|_|_|j<;>first|exact hj|(simp at hjl;omega)
  clear hdD dD hDr
  have e14:(W3.alloc (.cells #[.int .i64 op,.int .i64 oe,.int .i64 n,.int .i64 sp,.int .i32 st,.int .i64 so,.int .i64 sz,.bool oh] 78)).cell? ⟨b,14,none⟩=some dn:=(bE (Ze b (by have:=(Array.getElem?_eq_some_iff.1 H3.out.2.2.2.1).1;omega))).trans f14
  have HD:=aC (aR Ze (aR hDo hDn))
  clear Ze hDo hDn
  go_region_law? (refine pz rfl (.tmp 50) (.tmp 52) 37 rfl 0 78 i0 _ 8 64 Tryz.underlying37 Ob Qt Qs Qr rfl (by decide) dn out.length (out.flatMap uE) (by simp[Act.eval,Act.put]) HD.out.2.1 ⟨Y,0,none⟩ 1 1 [.int .i64 op,.int .i64 oe,.int .i64 n,.int .i64 sp,.int .i32 st,.int .i64 so,.int .i64 sz,.bool oh] (by simp[Act.eval,Act.put]) rfl HD.out.2.2 (by intro u hu;simp at hu;rcases hu with rfl|rfl|rfl|rfl|rfl|rfl|rfl|rfl<;>rfl) (by unfold maxLen;omega) (by omega) (Nat.zero_le _) ?_;intro v5 w5 r1 r2 r3;obtain⟨ca,cc,rfl⟩:=lC r1;have hb5:=(r2.block b (by have:=(Array.getElem?_eq_some_iff.1 H3.out.2.2.2.1).1;simp;omega) (fun e=>(H3.out.2.2.1.own b e.symm).2.1 rfl)).trans ((HD.out.1 b (by have:=(Array.getElem?_eq_some_iff.1 H3.out.2.2.2.1).1;omega)).trans H3.out.2.2.2.1);have ZP:=hb5;unfold ji at ZP;obtain⟨q0,q1,q2,q3,q4,q5,q6,q7,q8,q9,q10,q11,q12,q13,q14,x0,x3,x11,x12,x13,x14⟩:=eH ZP;have H5:=aC (aR r1 (aR r2 (aR r3 hb5)));clear r1 r2 r3 hb5 ZP)
  all_goals go_wp2
  all_goals go_returns
  all_goals refine⟨rfl,?_⟩
  all_goals have h6:=Sj H5.out.2.2.2 (.slice ca (out.length+1) cc)
  all_goals first
   | exact Cf (s:=⟨op,oe,n,⟨sp,st,so,sz⟩,oh⟩) H2.out.1 HT.out.2.1 hX H2.out.2.2.2.2.2.1 H3.out.2.1 H3.out.1.lt H3.out.1.kb H3.out.2.2.1 HX2.out HT.out.1 H3.out.2.2.2.2.1 ((Below.refl _ _).alloc (Nat.le_refl _) _).drew H5.out.1 H5.out.2.1 H5.out.2.2.1 (((Only.set _ _ _).trans (Only.set _ _ _)).trans (Only.set _ _ _)) (MU (MV h6 (.slice (some ⟨gb,go+2,none⟩) ops.length (lc-1)))) ⟨_,_,rfl,by omega,fun _=>rfl⟩
   | exact Cf (s:=⟨op,oe,n,⟨sp,st,so,sz⟩,oh⟩) H2.out.1 HT.out.2.1 hX H2.out.2.2.2.2.2.1 H3.out.2.1 H3.out.1.lt H3.out.1.kb H3.out.2.2.1 HX2.out HT.out.1 H3.out.2.2.2.2.1 ((Below.refl _ _).alloc (Nat.le_refl _) _).drew H5.out.1 H5.out.2.1 H5.out.2.2.1 (((Only.set _ _ _).trans (Only.set _ _ _)).trans (Only.set _ _ _)) (MU (MV h6 (.slice (some ⟨gb,go,none⟩) ops.length 0))) ⟨_,_,rfl,by omega,fun h=>absurd (List.eq_nil_of_length_eq_zero (by omega)) h⟩
end
