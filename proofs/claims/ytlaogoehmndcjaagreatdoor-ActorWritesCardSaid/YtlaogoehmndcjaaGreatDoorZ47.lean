import Derived.Test.YtlaogoehmndcjaaGreatDoorZ45
import Derived.Deep.RegionWith
import Derived.Test.YtlaogoehmndcjaaGreatDoorZ46
set_option linter.unusedVariables false
set_option maxHeartbeats 6400000
set_option maxRecDepth 1000000
set_option linter.unusedSectionVars false
set_option linter.unusedSimpArgs false
namespace Go.Proofs.YtlaogoehmndcjaaGreatDoor.Sy
open Go RowKit Lib AS Base Pr Ba
section
variable {l:Lg} {W W':World} {b:Nat} {K:Nat→Prop} {g:Bool} {now left dn:Value} {ops:List gz} {tries n:Int} {out:List ng}
theorem Fp (hw:l.wf) {o:gz} (ho:o.kind=1) (hd:(∀x∈o.data,x<256)∧o.data.length≤1000) (hn:0≤n∧n≤3000) (hln:ops.length≤1000) (h:WI l W b K g now (o::ops) tries n out) :
 Calls Tryz.prog 29 #[.pointer (some ⟨b,0,none⟩)] W fun e w'=>∃act OA,e =.returned (.tuple #[act,.bool true])∧WI l w' b K g now (o::ops) tries (n+1) out∧jB K W w'∧(∀q,AX l q (iO (aP l) o) act w' OA)∧∀k,OA k→W.heap.size≤k:=by
 obtain⟨lt,kb,left,dn,hT,hr⟩:=h
 obtain⟨la,ln,lc,rfl,h1,h2,h3⟩:=hr.left
 obtain⟨gb,go,ba,bc,rfl,hg,g0,g1,hrow⟩:=h3 0 o rfl
 have hbW:=lt b kb
 obtain⟨W1,hW1⟩:∃W1,W.setCell ⟨b,13,none⟩ (.int .i64 (n+1))=W1:=⟨_,rfl⟩
 have o1:Only b W W1:=by rw[←hW1];exact Only.set _ _ _
 have hT1:W1.heap[b]? = some (.cells (ji b now g l (.slice (some ⟨gb,go,none⟩) ln lc) tries (n+1) dn) 89):=by rw[←hW1];exact gW hT 13 _
 have hgl:gb<W.heap.size:=World.block_lt_of_cell? W _ g0
 have gk:W1.heap[gb]? = W.heap[gb]? := o1.block gb hgl hg.2.1
 obtain⟨X,hX⟩:∃X,W1.heap.size=X:=⟨_,rfl⟩
 obtain⟨W2,hW2⟩:∃W2,W1.alloc (.cells #[.int .i64 o.kind,.slice ba o.data.length bc] 67)=W2:=⟨_,rfl⟩
 have b2:Below X W1 W2:=by rw[←hW2,←hX];exact(Below.refl _ _).alloc (Nat.le_refl _) _
 have r2:W2.heap[X]? = some (.cells #[.int .i64 o.kind,.slice ba o.data.length bc] 67):=by rw[←hW2,←hX];exact aZ _ _
 have s0:=o1.size
 have hrw:∀V,Below W2.heap.size W2 V→∀w',Below V.heap.size V w'→fK w' ba o.data:=fun V hV w' hb j x hx=>by
  obtain⟨bb,bo,e,_,hk,hc⟩:=hrow j x hx
  have hl:bb<W.heap.size:=World.block_lt_of_cell? W _ hc
  have:=b2.size
  have:=hV.size
  exact⟨bb,bo,e,(bE ((hb.block bb (by omega)).trans ((hV.block bb (by omega)).trans ((b2.block bb (by omega)).trans (o1.block bb hl hk.2.1))))).trans hc⟩
 have c:∀V,Below W2.heap.size W2 V→Calls Tryz.prog 58 #[.agg #[.int .i64 l.base,.int .i64 l.term,.int .i64 l.aV,.int .i64 l.subs,.int .i32 l.bG,.int .i32 l.dQ,.int .i32 l.str],.slice ba o.data.length bc,.bool true] V fun e w'=>∃rt,e =.returned (dS rt)∧Below W2.heap.size W2 w'∧(∀q,AX l q (eD (aP l) o.data true) (.iface 138 (dS rt)) w' (Made V w'))∧∀k,Made V w' k→W.heap.size≤k:=fun V hV=>by
  refine(Al hw hd.1 hd.2 (by have:=b2.size;have:=hV.size;omega) (hrw V hV)).mono ?_
  rintro e w' ⟨rt,rfl,hb,hax⟩
  refine⟨rt,rfl,hV.trans (hb.mono hV.size),hax,fun k hk => ?_⟩
  have:=b2.size
  have:=hV.size
  rcases hk with hk|hk
  ·exact absurd hk id
  ·omega
 rw[ho]at hW2 r2
 have HT:=aC (aR lt (aR kb (aR hT1 (aR hr (aR o1 b2)))))
 obtain⟨f0,f1,f2,f3,f4,f5,f6,f7,f8,f9,f10,f11,f12,f13,f14,-⟩:=eH ((b2.block b (by omega)).trans hT1)
 unfold ji at hT hT1
 obtain⟨c0,c1,c2,c3,c4,c5,c6,c7,c8,c9,c10,c11,c12,c13,c14,-,-,-,-,Py,-⟩:=eH hT
 obtain⟨d0,d1,d2,d3,d4,d5,d6,d7,d8,d9,d10,d11,d12,d13,d14,-⟩:=eH hT1
 have g0':W.cell? ⟨gb,go,none⟩=some (.int .i64 1):=by rw[←ho];exact g0
 have g1':W.cell? ⟨gb,go+1,none⟩=some (.slice ba o.data.length bc):=g1
 have g2:W1.cell? ⟨gb,go,none⟩=some (.int .i64 1):=(bE gk).trans g0'
 have g3:W1.cell? ⟨gb,go+1,none⟩=some (.slice ba o.data.length bc):=(bE gk).trans g1'
 have k0:W2.cell? ⟨X,0,none⟩=some (.int .i64 1):=by simp[World.cell?,r2]
 have k1:W2.cell? ⟨X,1,none⟩=some (.slice ba o.data.length bc):=by simp[World.cell?,r2]
 have hl0:((ln:Nat):Int)≠0:=by rw[h1,List.length_cons];omega
 have hl1:(0:Int)<((ln:Nat):Int):=by rw[h1,List.length_cons];omega
 have w1:wrap64 (n+1)=n+1:=IntWalk.wrap64_in _ (by omega)
 clear hr h3 hT hT1 o1 b2 r2 gk g0 g1 hrow hrw hg lt kb
 go_enter Tryz.func29,Tryz.ntmps29
 go_wp2_with (fail)
 go_region_with
  (go_at_call 58
   refine(c _ (Below.drew (Below.refl _ _))).mono ?_
   clear c
   rintro e w3 ⟨rt,rfl,hb3,hax⟩
   have H3:=aC (aR hb3 hax)
   clear hb3 hax)
 all_goals go_wp2
 all_goals go_ret2
 all_goals obtain⟨hb3,hax,hnew⟩:=H3.out
 all_goals obtain⟨lt,kb,hT1,hr,o1,b2⟩:=HT.out
 all_goals obtain⟨e1,e2⟩:=sH lt kb hT1 hr o1 (hX.symm▸b2.trans (hb3.mono (by have:=b2.size;omega)))
 all_goals exact⟨_,_,rfl,e1,e2,fun q=>by rw[show iO (aP l) o=eD (aP l) o.data true by unfold iO;rw[ho];rfl];exact hax q,hnew⟩
theorem Fj (hw:l.wf) {o:gz} (ho:o.kind=2) (hd:(∀x∈o.data,x<256)∧o.data.length≤1000) (hn:0≤n∧n≤3000) (hln:ops.length≤1000) (h:WI l W b K g now (o::ops) tries n out) :
 Calls Tryz.prog 29 #[.pointer (some ⟨b,0,none⟩)] W fun e w'=>∃act OA,e =.returned (.tuple #[act,.bool true])∧WI l w' b K g now (o::ops) tries (n+1) out∧jB K W w'∧(∀q,AX l q (iO (aP l) o) act w' OA)∧∀k,OA k→W.heap.size≤k:=by
 obtain⟨lt,kb,left,dn,hT,hr⟩:=h
 obtain⟨la,ln,lc,rfl,h1,h2,h3⟩:=hr.left
 obtain⟨gb,go,ba,bc,rfl,hg,g0,g1,hrow⟩:=h3 0 o rfl
 have hbW:=lt b kb
 obtain⟨W1,hW1⟩:∃W1,W.setCell ⟨b,13,none⟩ (.int .i64 (n+1))=W1:=⟨_,rfl⟩
 have o1:Only b W W1:=by rw[←hW1];exact Only.set _ _ _
 have hT1:W1.heap[b]? = some (.cells (ji b now g l (.slice (some ⟨gb,go,none⟩) ln lc) tries (n+1) dn) 89):=by rw[←hW1];exact gW hT 13 _
 have hgl:gb<W.heap.size:=World.block_lt_of_cell? W _ g0
 have gk:W1.heap[gb]? = W.heap[gb]? := o1.block gb hgl hg.2.1
 obtain⟨X,hX⟩:∃X,W1.heap.size=X:=⟨_,rfl⟩
 obtain⟨W2,hW2⟩:∃W2,W1.alloc (.cells #[.int .i64 o.kind,.slice ba o.data.length bc] 67)=W2:=⟨_,rfl⟩
 have b2:Below X W1 W2:=by rw[←hW2,←hX];exact(Below.refl _ _).alloc (Nat.le_refl _) _
 have r2:W2.heap[X]? = some (.cells #[.int .i64 o.kind,.slice ba o.data.length bc] 67):=by rw[←hW2,←hX];exact aZ _ _
 have s0:=o1.size
 have hrw:∀V,Below W2.heap.size W2 V→∀w',Below V.heap.size V w'→fK w' ba o.data:=fun V hV w' hb j x hx=>by
  obtain⟨bb,bo,e,_,hk,hc⟩:=hrow j x hx
  have hl:bb<W.heap.size:=World.block_lt_of_cell? W _ hc
  have:=b2.size
  have:=hV.size
  exact⟨bb,bo,e,(bE ((hb.block bb (by omega)).trans ((hV.block bb (by omega)).trans ((b2.block bb (by omega)).trans (o1.block bb hl hk.2.1))))).trans hc⟩
 have c:∀V,Below W2.heap.size W2 V→Calls Tryz.prog 58 #[.agg #[.int .i64 l.base,.int .i64 l.term,.int .i64 l.aV,.int .i64 l.subs,.int .i32 l.bG,.int .i32 l.dQ,.int .i32 l.str],.slice ba o.data.length bc,.bool false] V fun e w'=>∃rt,e =.returned (dS rt)∧Below W2.heap.size W2 w'∧(∀q,AX l q (eD (aP l) o.data false) (.iface 138 (dS rt)) w' (Made V w'))∧∀k,Made V w' k→W.heap.size≤k:=fun V hV=>by
  refine(Al hw hd.1 hd.2 (by have:=b2.size;have:=hV.size;omega) (hrw V hV)).mono ?_
  rintro e w' ⟨rt,rfl,hb,hax⟩
  refine⟨rt,rfl,hV.trans (hb.mono hV.size),hax,fun k hk => ?_⟩
  have:=b2.size
  have:=hV.size
  rcases hk with hk|hk
  ·exact absurd hk id
  ·omega
 rw[ho]at hW2 r2
 have HT:=aC (aR lt (aR kb (aR hT1 (aR hr (aR o1 b2)))))
 obtain⟨f0,f1,f2,f3,f4,f5,f6,f7,f8,f9,f10,f11,f12,f13,f14,-⟩:=eH ((b2.block b (by omega)).trans hT1)
 unfold ji at hT hT1
 obtain⟨c0,c1,c2,c3,c4,c5,c6,c7,c8,c9,c10,c11,c12,c13,c14,-,-,-,-,Py,-⟩:=eH hT
 obtain⟨d0,d1,d2,d3,d4,d5,d6,d7,d8,d9,d10,d11,d12,d13,d14,-⟩:=eH hT1
 have g0':W.cell? ⟨gb,go,none⟩=some (.int .i64 2):=by rw[←ho];exact g0
 have g1':W.cell? ⟨gb,go+1,none⟩=some (.slice ba o.data.length bc):=g1
 have g2:W1.cell? ⟨gb,go,none⟩=some (.int .i64 2):=(bE gk).trans g0'
 have g3:W1.cell? ⟨gb,go+1,none⟩=some (.slice ba o.data.length bc):=(bE gk).trans g1'
 have k0:W2.cell? ⟨X,0,none⟩=some (.int .i64 2):=by simp[World.cell?,r2]
 have k1:W2.cell? ⟨X,1,none⟩=some (.slice ba o.data.length bc):=by simp[World.cell?,r2]
 have hl0:((ln:Nat):Int)≠0:=by rw[h1,List.length_cons];omega
 have hl1:(0:Int)<((ln:Nat):Int):=by rw[h1,List.length_cons];omega
 have w1:wrap64 (n+1)=n+1:=IntWalk.wrap64_in _ (by omega)
 clear hr h3 hT hT1 o1 b2 r2 gk g0 g1 hrow hrw hg lt kb
 go_enter Tryz.func29,Tryz.ntmps29
 go_wp2_with (fail)
 go_region_with
  (go_at_call 58
   refine(c _ (Below.drew (Below.refl _ _))).mono ?_
   clear c
   rintro e w3 ⟨rt,rfl,hb3,hax⟩
   have H3:=aC (aR hb3 hax)
   clear hb3 hax)
 all_goals go_wp2
 all_goals go_ret2
 all_goals obtain⟨hb3,hax,hnew⟩:=H3.out
 all_goals obtain⟨lt,kb,hT1,hr,o1,b2⟩:=HT.out
 all_goals obtain⟨e1,e2⟩:=sH lt kb hT1 hr o1 (hX.symm▸b2.trans (hb3.mono (by have:=b2.size;omega)))
 all_goals exact⟨_,_,rfl,e1,e2,fun q=>by rw[show iO (aP l) o=eD (aP l) o.data false by unfold iO;rw[ho];rfl];exact hax q,hnew⟩
end
section
variable {l:Lg} {W W':World} {b:Nat} {K:Nat→Prop} {g:Bool} {now left dn:Value} {ops:List gz} {tries n:Int} {out:List ng}
theorem CB {W:World} {X:Nat} (hX:1≤X) (h:W.heap[X]? = some (.cells #[.int .i64 0,.int .i64 0,.int .i64 0,.int .u64 0,.int .u64 0,.slice none 0 0,.nilFunc] 142)):ah W (dl []) kT (fun _=>(X,0)):=by
 refine⟨fun i p hp => ?_,fun i j hi hj _ => ?_,fun i _=>hX⟩
 ·rcases i with _|i
  ·injection hp with hp
   subst hp
   exact At.of_block h
  ·cases hp
 ·have:kT.length=1:=rfl
  omega
theorem Ij {o:gz} (h0:¬o.kind=0) (h1':¬o.kind=1) (h2':¬o.kind=2) (hn:0≤n∧n≤3000) (hln:ops.length≤1000) (h:WI l W b K g now (o::ops) tries n out) :
 Calls Tryz.prog 29 #[.pointer (some ⟨b,0,none⟩)] W fun e w'=>∃act OA,e =.returned (.tuple #[act,.bool true])∧WI l w' b K g now (o::ops) tries (n+1) out∧jB K W w'∧(∀q,AX l q (iO (aP l) o) act w' OA)∧∀k,OA k→W.heap.size≤k:=by
 obtain⟨lt,kb,left,dn,hT,hr⟩:=h
 obtain⟨la,ln,lc,rfl,h1,h2,h3⟩:=hr.left
 obtain⟨gb,go,ba,bc,rfl,hg,g0,g1,hrow⟩:=h3 0 o rfl
 have hbW:=lt b kb
 obtain⟨W1,hW1⟩:∃W1,W.setCell ⟨b,13,none⟩ (.int .i64 (n+1))=W1:=⟨_,rfl⟩
 have o1:Only b W W1:=by rw[←hW1];exact Only.set _ _ _
 have hT1:W1.heap[b]? = some (.cells (ji b now g l (.slice (some ⟨gb,go,none⟩) ln lc) tries (n+1) dn) 89):=by rw[←hW1];exact gW hT 13 _
 have hgl:gb<W.heap.size:=World.block_lt_of_cell? W _ g0
 have gk:W1.heap[gb]? = W.heap[gb]? := o1.block gb hgl hg.2.1
 obtain⟨X,hX⟩:∃X,W1.heap.size=X:=⟨_,rfl⟩
 obtain⟨kd,hkd⟩:∃kd,o.kind=kd:=⟨_,rfl⟩
 rw[hkd]at h0 h1' h2' g0
 obtain⟨W2,hW2⟩:∃W2,W1.alloc (.cells #[.int .i64 kd,.slice ba o.data.length bc] 67)=W2:=⟨_,rfl⟩
 have b2:Below X W1 W2:=by rw[←hW2,←hX];exact(Below.refl _ _).alloc (Nat.le_refl _) _
 have s2:W2.heap.size=X+1:=by rw[←hW2,←hX];simp
 have r2:W2.heap[X]? = some (.cells #[.int .i64 kd,.slice ba o.data.length bc] 67):=by rw[←hW2,←hX];exact aZ _ _
 obtain⟨W3,hW3⟩:∃W3,W2.alloc (.cells #[.int .i64 0,.int .i64 0,.int .i64 0,.int .u64 0,.int .u64 0,.slice none 0 0,.nilFunc] 142)=W3:=⟨_,rfl⟩
 have b3:Below X W2 W3:=by rw[←hW3];exact(Below.refl _ _).alloc (by omega) _
 have s3:W3.heap.size=X+2:=by rw[←hW3];simp;omega
 have r3:W3.heap[X+1]? = some (.cells #[.int .i64 0,.int .i64 0,.int .i64 0,.int .u64 0,.int .u64 0,.slice none 0 0,.nilFunc] 142):=by rw[←hW3,←s2];exact aZ _ _
 have s0:=o1.size
 obtain⟨e1,e2⟩:=sH lt kb hT1 hr o1 (hX.symm▸b2.trans b3)
 have HT:=aC (aR e1 (aR e2 r3))
 unfold ji at hT hT1
 obtain⟨c0,c1,c2,c3,c4,c5,c6,c7,c8,c9,c10,c11,c12,c13,c14,-,-,-,-,Py,-⟩:=eH hT
 obtain⟨d0,d1,d2,d3,d4,d5,d6,d7,d8,d9,d10,d11,d12,d13,d14,-⟩:=eH hT1
 have g0':W.cell? ⟨gb,go,none⟩=some (.int .i64 kd):=g0
 have g1':W.cell? ⟨gb,go+1,none⟩=some (.slice ba o.data.length bc):=g1
 have g2:W1.cell? ⟨gb,go,none⟩=some (.int .i64 kd):=(bE gk).trans g0'
 have g3:W1.cell? ⟨gb,go+1,none⟩=some (.slice ba o.data.length bc):=(bE gk).trans g1'
 have k0:W2.cell? ⟨X,0,none⟩=some (.int .i64 kd):=by simp[World.cell?,r2]
 have k1:W2.cell? ⟨X,1,none⟩=some (.slice ba o.data.length bc):=by simp[World.cell?,r2]
 have hl0:((ln:Nat):Int)≠0:=by rw[h1,List.length_cons];omega
 have hl1:(0:Int)<((ln:Nat):Int):=by rw[h1,List.length_cons];omega
 have w1:wrap64 (n+1)=n+1:=IntWalk.wrap64_in _ (by omega)
 clear hr h3 hT hT1 o1 b2 r2 gk g0 g1 hrow hg lt kb e1 e2 b3 r3
 go_enter Tryz.func29,Tryz.ntmps29
 go_wp2
 go_ret2
 obtain⟨e1,e2,r3⟩:=HT.out
 refine⟨_,fun k=>k=X+1,rfl,e1,e2,fun q=>⟨fun k hk=>by omega,fun ha => ?_,(X+1,0),.wrong (CB (by omega) r3) ⟨rfl,fun i _=>rfl⟩ ?_⟩,fun k hk=>by omega⟩
 ·unfold iO at ha
  rw[hkd,if_neg h0,if_neg (by omega)]at ha
  exact absurd ha id
 ·unfold iO
  rw[hkd,if_neg h0,if_neg (by omega)]
theorem NC (hw:l.wf) {o:gz} (hd:(∀x∈o.data,x<256)∧o.data.length≤1000) (hn:0≤n∧n≤3000) (hln:ops.length≤1000) (h:WI l W b K g now (o::ops) tries n out) :
 Calls Tryz.prog 29 #[.pointer (some ⟨b,0,none⟩)] W fun e w'=>∃act OA,e =.returned (.tuple #[act,.bool true])∧WI l w' b K g now (o::ops) tries (n+1) out∧jB K W w'∧(∀q,AX l q (iO (aP l) o) act w' OA)∧∀k,OA k→W.heap.size≤k:=by
 by_cases h0:o.kind=0
 ·exact Ik hw h0 hd hn hln h
 ·by_cases h1:o.kind=1
  ·exact Fp hw h1 hd hn hln h
  ·by_cases h2:o.kind=2
   ·exact Fj hw h2 hd hn hln h
   ·exact Ij h0 h1 h2 hn hln h
end
def rQ (l:cO) (f:Nat) (g:Bool) (p:Pr An Ot) (ops:List gz) (tries n:Int) (out:List ng):Pr An rD:=match g,ops with
 | true,o::rest=>p.bind (fun w=>⟨out,w.s,w.has⟩) fun w =>
    if (w.e=5∨w.e=6)∧tries>0 then fq l f (o::rest) (tries-1) (n+1) out
    else fq l f rest tries 1 (out++[⟨w.pos,w.e,n,w.s,w.has⟩])
 | _,_ => .done ⟨out,bW,false⟩
theorem GN (l:cO) (f:Nat) (tries n:Int) (out:List ng):fq l f [] tries n out =.done ⟨out,bW,false⟩:=by cases f<;>rfl
theorem Lj (l:cO) (o:gz) {w:Ot} (h:iO l o =.done w):¬(w.e=5∨w.e=6):=by
 have hd:∀{a:Ot},(Pr.done a:Pr An Ot) =.done w→a=w:=fun h=>by injection h
 unfold iO at h
 split at h
 ·unfold fZ at h
  split at h
  ·rw[←hd h];decide
  ·split at h
   ·rw[←hd h];decide
   ·cases h
 ·split at h
  ·unfold eD at h
   split at h
   ·rw[←hd h];decide
   ·split at h
    ·rw[←hd h];decide
    ·cases h
  ·rw[←hd h];decide
structure WB (f q:Nat) (g:Bool) (p:Pr An Ot) (ops:List gz) (tries n:Int) (out:List ng):Prop where
 data:∀o∈ops,(∀x∈o.data,x<256)∧o.data.length≤1000
 len:ops.length+out.length≤100
 tr:0≤tries∧tries<9223372036854775808
 n0:0≤n∧n+q≤2500
 qb:q≤1500
 some_:g=true→ops≠[]
 fuel:g=true→tries.toNat+ops.length≤f+1
 again:g=true→∀w,p =.done w→(w.e=5∨w.e=6)→n+q+1≤2500
structure WT (l:Lg) (T:Pr An rD) (q:Nat) (W:World) (b:Nat) (K:Nat→Prop):Prop where
 ex:∃g p ops tries n out f,WX l q W b K g p ops tries n out∧WB f q g p ops tries n out∧T=rQ (aP l) f g p ops tries n out
def J8 (b:Nat) (W:World):Nat:=(match W.cell? ⟨b,12,none⟩with|some (.int _ t)=>t.toNat|_=>0)+(match W.cell? ⟨b,11,none⟩with|some (.slice _ n _)=>n|_=>0)
section
variable {l:Lg} {q:Nat} {W W':World} {b:Nat} {K OA:Nat→Prop} {g:Bool} {now left dn:Value} {ops:List gz} {tries n:Int} {out:List ng} {o:Ot} {T:Pr An rD} {f:Nat} {p:Pr An Ot}
theorem NI (hT:W.heap[b]? = some (.cells (ji b now g l left tries n dn) 89)) (hr:xL W K left ops):J8 b W=tries.toNat+ops.length:=by
 obtain⟨la,ln,lc,rfl,rfl,_⟩:=hr
 unfold ji at hT
 obtain⟨c0,c1,c2,c3,c4,c5,c6,c7,c8,c9,c10,c11,c12,-⟩:=eH hT
 unfold J8
 rw[c11,c12]
structure Rest (l:Lg) (T:Pr An rD) (f q:Nat) (ops:List gz) (tries n:Int) (out:List ng) (m:Nat):Prop where
 data:∀o∈ops,(∀x∈o.data,x<256)∧o.data.length≤1000
 len:ops.length+out.length≤100
 tr:0≤tries∧tries<9223372036854775808
 n0:0≤n∧n+1+q≤2500
 qb:q≤1500
 fuel:tries.toNat+ops.length≤f
 less:tries.toNat+ops.length<m
 tree:T=fq (aP l) f ops tries (n+1) out
theorem LJ {o1:gz} (lt:∀k,K k→k<W.heap.size) (kb:K b) (hT:W.heap[b]? = some (.cells (ji b now true l left tries n dn) 89)) (hA:AX l q (.done o) now W OA) (hO:∀k,OA k→K k∧k≠b) (hr:RX W b K OA left dn (o1::ops) out) (hB:WB f q true (.done o) (o1::ops) tries n out) (hTr:T=rQ (aP l) f true (.done o) (o1::ops) tries n out) :
 Calls Tryz.prog 30 #[.pointer (some ⟨b,0,none⟩),now] W fun e w'=>∃K' ops' tries' n' out',e =.returned (.tuple #[])∧WK K W w' K'∧WI l w' b K' true now ops' tries' n' out'∧Rest l T f q ops' tries' n' out' (tries.toNat+(o1::ops).length):=by
 have hlen:=hB.len
 have hf:=hB.fuel rfl
 have htr:=hB.tr
 rw[List.length_cons]at hlen hf
 by_cases hc:(o.e=5∨o.e=6)∧tries>0
 ·refine(FZ lt kb hT hA hO hr hc.1 ⟨hc.2,htr.2⟩).mono ?_
  rintro e w' ⟨K',rfl,h1,h2⟩
  refine⟨K',_,_,_,_,rfl,h1,h2,hB.data,hB.len,by omega,⟨hB.n0.1,?_⟩,hB.qb,by rw[List.length_cons];omega,by rw[List.length_cons];omega,?_⟩
  ·have:=hB.again rfl o rfl hc.1;omega
  ·rw[hTr];exact if_pos hc
 ·refine(IX lt kb hT hA hO hr (by omega) ⟨by omega,by omega⟩).mono ?_
  rintro e w' ⟨K',rfl,h1,h2⟩
  refine⟨K',_,_,_,_,rfl,h1,h2,fun o ho=>hB.data o (List.mem_cons_of_mem _ ho),by rw[List.length_append];simp only[List.length_cons,List.length_nil];omega,by omega,⟨Int.le_refl _,by have:=hB.qb;omega⟩,hB.qb,by omega,by rw[List.length_cons];omega,?_⟩
  rw[hTr];exact if_neg hc
theorem Fq (hw:l.wf) {m:Nat} (h:WI l W b K g now ops tries n out) (hR:Rest l T f q ops tries n out m) :
 Calls Tryz.prog 29 #[.pointer (some ⟨b,0,none⟩)] W fun e w'=>(ops=[]∧e =.returned (.tuple #[.nilIface,.bool false])∧w'=W)∨∃t rt OA p f',e =.returned (.tuple #[.iface t (dS rt),.bool true])∧WI l w' b K g now ops tries (n+1) out∧jB K W w'∧AX l q p (.iface t (dS rt)) w' OA∧(∀k,OA k→W.heap.size≤k)∧WB f' q true p ops tries (n+1) out∧T=rQ (aP l) f' true p ops tries (n+1) out:=by
 cases ops with
 | nil=>exact(NB h).mono fun e w' ⟨h1,h2⟩ => .inl ⟨rfl,h1,h2⟩
 | cons o ops =>
   have hl:=hR.len
   rw[List.length_cons]at hl
   have hf:=hR.fuel
   rw[List.length_cons]at hf
   refine(NC hw (hR.data o (List.mem_cons_self ..)) ⟨hR.n0.1,by have:=hR.n0;omega⟩ (by omega) h).mono ?_
   rintro e w' ⟨act,OA,rfl,h1,h2,h3,h4⟩
   obtain⟨f',rfl⟩:∃f',f=f'+1:=⟨f-1,by omega⟩
   have ha:=h3 q
   obtain⟨rt,hk⟩:=ha.ex
   have hv:∃t,act =.iface t (dS rt):=by cases hk<;>exact⟨_,rfl⟩
   obtain⟨t,rfl⟩:=hv
   exact .inr ⟨t,rt,OA,_,f',rfl,h1,h2,ha,h4,⟨hR.data,hR.len,hR.tr,⟨by have:=hR.n0;omega,by have:=hR.n0;omega⟩,hR.qb,fun _=>List.cons_ne_nil _ _,fun _=>by rw[List.length_cons];omega,fun _ w hw' he=>absurd he (Lj _ _ hw')⟩,by rw[hR.tree];rfl⟩
end
structure WR (l:Lg) (T:Pr An rD) (q:Nat) (W:World) (b:Nat) (K:Nat→Prop):Prop where
 ex:∃g p ops tries n out f,WX l q W b K g p ops tries n out∧WB f q g p ops tries n out∧T=rQ (aP l) f g p ops tries n out∧(g=true→lQ p)
section
variable {l:Lg} {q:Nat} {W W':World} {b:Nat} {K OA:Nat→Prop} {T:Pr An rD} {g:Bool} {now left dn:Value} {ops:List gz} {tries n:Int} {out:List ng} {p:Pr An Ot}
theorem Qk {w4:World} {s:Nat} {act:Value} (h:WI l w4 b K true now ops tries n out) (WL:∀k,K k→k<s) (RF:∀k,OA k→s≤k) (ha:AX l q p act w4 OA) :
 WX l q ((w4.setCell ⟨b,0,none⟩ act).setCell ⟨b,3,none⟩ (.bool true)) b (fun k=>K k∨OA k) true p ops tries n out:=by
 obtain⟨lt,kb,left,dn,hT,hr⟩:=h
 have o4:Only b w4 ((w4.setCell ⟨b,0,none⟩ act).setCell ⟨b,3,none⟩ (.bool true)):=(Only.set _ _ _).trans (Only.set _ _ _)
 have h4:=gW (C':=ji b act true l left tries n dn) (gW (C':=ji b act true l left tries n dn) hT 0 act) 3 (.bool true)
 have hk:∀k,k<w4.heap.size→k≠b→_:=fun k h1 h2=>o4.block k h1 h2
 have eu:∀k,OA k→k≠b:=fun k hk e=>by have:=RF k hk;have:=WL b kb;omega
 have hok:∀k,K k→¬OA k:=fun k h1 h2=>by have:=WL k h1;have:=RF k h2;omega
 refine⟨fun k hk => ?_,.inl kb,act,left,dn,OA,h4,fun _=>ha.move o4.size fun k h=>hk k (ha.lt k h) (eu k h),fun k hk=>⟨.inr hk,eu k hk⟩,⟨hr.left.move (fun k h1 h2=>hk k h2 h1.2.1) fun k h1 h2=>⟨.inl h1.1,h1.2.1,hok k h1.1,h1.2.2.2⟩,qa hr.row fun g hg=>hk g (lt g (hr.own g hg).1) (hr.own g hg).2.1,fun k hg=>⟨.inl (hr.own k hg).1,(hr.own k hg).2.1,hok k (hr.own k hg).1⟩⟩⟩
 rcases hk with hk|hk
 ·exact Nat.lt_of_lt_of_le (lt k hk) o4.size
 ·exact Nat.lt_of_lt_of_le (ha.lt k hk) o4.size
theorem Nv {w4:World} (h:WI l w4 b K true now ops tries n out) :
 WX l q ((w4.setCell ⟨b,0,none⟩ .nilIface).setCell ⟨b,3,none⟩ (.bool false)) b K false p ops tries n out:=by
 obtain⟨lt,kb,left,dn,hT,hr⟩:=h
 have o4:Only b w4 ((w4.setCell ⟨b,0,none⟩ .nilIface).setCell ⟨b,3,none⟩ (.bool false)):=(Only.set _ _ _).trans (Only.set _ _ _)
 have h4:=gW (C':=ji b .nilIface false l left tries n dn) (gW (C':=ji b .nilIface true l left tries n dn) hT 0 .nilIface) 3 (.bool false)
 exact⟨fun k hk=>Nat.lt_of_lt_of_le (lt k hk) o4.size,kb,_,left,dn,fun _=>False,h4,fun h=>(by cases h),fun k hk=>absurd hk id,hr.moved lt fun k h1 h2=>o4.block k (lt k h1) h2⟩
theorem CE {w4:World} (kb:K b) (u v:Value):WK K w4 ((w4.setCell ⟨b,0,none⟩ u).setCell ⟨b,3,none⟩ v) K:=by
 have o4:Only b w4 ((w4.setCell ⟨b,0,none⟩ u).setCell ⟨b,3,none⟩ v):=(Only.set _ _ _).trans (Only.set _ _ _)
 exact⟨⟨o4.os,o4.tape,o4.output,o4.size,fun k h1 h2=>o4.block k h1 fun e=>h2 (e▸kb)⟩,fun k hk => .inl hk⟩
theorem WK.wide {K K1 K2:Nat→Prop} {W W':World} (h:WK K W W' K1) (hk:∀k,K2 k→K1 k∨W.heap.size≤k):WK K W W' K2 :=
 ⟨h.jL,fun k h2=>by
   rcases hk k h2 with h1|h1
   ·exact h.new k h1
   ·exact .inr h1⟩
theorem ES {f m:Nat} (h:Rest l T f q [] tries n out m) (p:Pr An Ot):WB f q false p [] tries n out∧T=rQ (aP l) f false p [] tries n out :=
 ⟨⟨h.data,h.len,h.tr,⟨h.n0.1,by have:=h.n0;omega⟩,h.qb,fun h=>(by cases h),fun h=>(by cases h),fun h=>(by cases h)⟩,by rw[h.tree,GN];rfl⟩
theorem Du (h:WX l q W b K g p ops tries n out):J8 b W=tries.toNat+ops.length:=by
 obtain⟨-,-,now,left,dn,OA,hT,-,-,hr⟩:=h
 exact NI hT hr.left
theorem settle (hw:l.wf) (h:WT l T q W b K) :
 Calls Tryz.prog 59 #[.pointer (some ⟨b,0,none⟩)] W fun e w'=>∃K',e =.returned (.tuple #[])∧WK K W w' K'∧WR l T q w' b K':=by
 have H0:=aC h
 clear h
 go_enter Tryz.func59,Tryz.ntmps59
 go_wp2_with (fail)
 go_loopw [] (fun wr=>Hid (∃K1,WK K W wr K1∧WT l T q wr b K1)) (fun wr=>J8 b wr)
 case atStart =>
  exact aC ⟨K,.below (Below.refl _ _),H0.out⟩
 case round =>
  obtain⟨K1,hwk,⟨g,p,ops,tries,n,out,f,hwx,hB,hTr⟩⟩:=hrel.out
  clear hrel
  have hme:=Du hwx
  have Lx:=hwx
  obtain⟨lt,kb,now,left,dn,OA,hT,hA,hO,hr⟩:=hwx
  have kK:=hT
  unfold ji at kK
  obtain⟨c0,c1,c2,c3,-⟩:=eH kK
  clear kK
  cases g with
  | false =>
    have HX:=aC (aR hwk (aR Lx (aR hB hTr)))
    clear hwk Lx hB hTr hT hA hr hme lt kb hO
    go_wp2
    go_returns
    obtain⟨hwk,Lx,hB,hTr⟩:=HX.out
    exact⟨K1,rfl,hwk,⟨false,p,ops,tries,n,out,f,Lx,hB,hTr,fun h=>(by cases h)⟩⟩
  | true =>
    obtain⟨o1,rest,rfl⟩:∃o1 rest,ops=o1::rest:=by
     cases ops with
     | nil=>exact absurd rfl (hB.some_ rfl)
     | cons o1 rest=>exact⟨o1,rest,rfl⟩
    have hax:=hA rfl
    obtain⟨rt,hc⟩:=hax.acts
    rcases hc with⟨rfl,-⟩|⟨rfl,-⟩|⟨rfl,-⟩
    all_goals
     first|have c:=(Er hax).next|have c:=(Ep hax).next|have c:=(Eo hax).next
     cases p with
     | ask po pa pk =>
       have HX:=aC (aR hwk (aR lt (aR kb (aR hT (aR hO (aR hr (aR hB hTr)))))))
       clear hwk lt kb hT hO hr hB hTr Lx hA hax hme
       go_wp2_with (fail)
       refine c.mono ?_
       clear c
       rintro e w1 ⟨nv,rfl,hwv,hf,ha⟩
       obtain⟨ba,bc,rfl,-⟩:=hwv
       obtain⟨hwk,lt,kb,hT,hO,hr,hB,hTr⟩:=HX.out
       obtain⟨mh,oM⟩:=jN lt kb hT hO hr hf fH ha
       have H2:=aC (aR hwk (aR mh (aR oM (aR hB hTr))))
       clear hwk lt kb hT hO hr hB hTr hf ha mh oM
       unfold Jo
       go_wp2
       go_returns
       obtain⟨hwk,mh,oM,hB,hTr⟩:=H2.out
       have hb:∀x,Below w1.heap.size w1 (w1.alloc x):=fun x=>(Below.refl _ _).alloc (Nat.le_refl _) _
       refine⟨_,rfl,(hwk.trans oM).trans (.below (hb _)),⟨true,_,_,_,_,_,f,mh.move (hb _).size fun k hk=>(hb _).block k (mh.lt k hk),⟨hB.data,hB.len,hB.tr,hB.n0,hB.qb,hB.some_,hB.fuel,hB.again⟩,hTr,fun _=>trivial⟩⟩
     | done o =>
       have HX:=aC (aR hwk (aR lt (aR kb (aR hT (aR hO (aR hr (aR hB (aR hTr hme))))))))
       clear hwk lt kb hT hO hr hB hTr Lx hA hax hme
       go_wp2_with (fail)
       refine c.mono ?_
       clear c
       rintro e w1 ⟨nv,rfl,hwv,hf,ha⟩
       cases hwv
       obtain⟨hwk,lt,kb,hT,hO,hr,hB,hTr,hme⟩:=HX.out
       obtain⟨mh,oM⟩:=jN lt kb hT hO hr hf fH ha
       have rH:∀k,Grow OA wr w1 k→(K1 k∨Grow OA wr w1 k)∧k≠b:=fun k hk=>⟨.inr hk,fun e=>by
        subst e
        rcases hk with hk|hk
        ·exact(hO k hk).2 rfl
        ·have:=lt k kb;omega⟩
       have hT1:w1.heap[b]? = _:=(hf.block b (lt b kb) fun h=>(hO b h).2 rfl).trans hT
       have hr1:=RX.jN (O':=Grow OA wr w1) hr lt hf fH
       obtain⟨V,hV⟩:∃V,w1.alloc (.cells #[.int .i64 0,.int .i64 0,.int .i64 0,.int .u64 0,.int .u64 0,.slice none 0 0] 34)=V:=⟨_,rfl⟩
       have bV:Below w1.heap.size w1 V:=by rw[←hV];exact(Below.refl _ _).alloc (Nat.le_refl _) _
       have kK:V.heap[b]? = _:=(bV.block b (mh.lt b mh.kb)).trans hT1
       unfold ji at kK
       obtain⟨d0,d1,d2,d3,-⟩:=eH kK
       have cE:=fun V' (hV':Below V.heap.size V V') =>
        have b2:Below w1.heap.size w1 V':=bV.trans (hV'.mono bV.size)
        LJ (fun k hk=>Nat.lt_of_lt_of_le (mh.lt k hk) b2.size) mh.kb ((b2.block b (mh.lt b mh.kb)).trans hT1) (ha.move b2.size fun k hk=>b2.block k (ha.lt k hk)) rH (hr1.moved mh.lt fun k hk _=>b2.block k (mh.lt k hk)) hB hTr
       have HV:=aC hV
       have H2:=aC (aR (hwk.trans oM) (aR bV hme))
       clear hV
       clear hwk lt kb hT hO hr hB hTr hf ha mh oM rH hT1 hr1 bV kK hme c0 c1 c2 c3
       go_wp2_with (fail)
       rw[HV.out]
       go_region_with
        (go_at_call 30
         refine(cE _ (Below.drew (Below.refl _ _))).mono ?_
         clear cE
         rintro e w3 ⟨K3,ops',tries',n',out',rfl,zS,vo,hR⟩
         have cM:=Fq hw vo hR
         obtain⟨aa1,dn3,II,-⟩:=vo.ex
         have kK:=II
         unfold ji at kK
         obtain⟨f0,f1,f2,f3,-⟩:=eH kK
         have H3:=aC (aR zS (aR vo hR))
         clear zS vo hR kK II)
       all_goals go_wp2_with (fail)
       all_goals refine cM.mono ?_
       all_goals clear cM
       all_goals rintro e w4 (⟨rfl,rfl,rfl⟩|⟨t,rt',OA',p',f',rfl,Iw,Xr,XD,N8,hB4,Ud⟩)
       all_goals first
        | (obtain⟨zS,vo,hR⟩:=H3.out
           obtain⟨-,-,-,-,-,-,-,-,-,-,-,-,-,-,-,z0,z3,-⟩:=eH vo.ex.choose_spec.choose_spec.1
           clear zS vo hR
           go_wp2
           obtain⟨zS,vo,hR⟩:=H3.out
           obtain⟨h1,h2⟩:=ES hR (.done o)
           have hx:=Nv (q:=q) (p :=.done o) vo
           have hl:=hR.less
           refine⟨aC ⟨K3,(H2.out.1.trans ((WK.below H2.out.2.1).trans ((WK.below (Below.drew (Below.refl _ _))).trans (zS.trans (CE vo.kb _ _))))),⟨false,_,_,_,_,_,f,hx,h1,h2⟩⟩,?_⟩
           rw[Du hx,H2.out.2.2]
           exact hl)
        | (obtain⟨WM,dn4,Oq,-⟩:=Iw.ex
           obtain⟨zS,vo,hR⟩:=H3.out
           have hl:=hR.less
           have hx:=Qk Iw vo.lt N8 XD
           have Iu:WK K3 w3 w4 (fun k=>K3 k∨OA' k):=⟨Xr,fun k hk=>hk.imp id (N8 k)⟩
           have H4:=aC (aR zS (aR Iu (aR hx (aR hB4 (aR Ud (aR hl vo.kb))))))
           have kK:=Oq
           unfold ji at kK
           obtain⟨g0,g1,g2,g3,-,-,-,-,-,-,-,-,-,-,-,z0,z3,-⟩:=eH kK
           clear kK Oq zS vo hR hl hx Iu Xr XD N8 hB4 Ud Iw
           go_wp2
           obtain⟨zS,Iu,hx,hB4,Ud,hl,ZI⟩:=H4.out
           refine⟨aC ⟨_,(H2.out.1.trans ((WK.below H2.out.2.1).trans ((WK.below (Below.drew (Below.refl _ _))).trans (zS.trans (Iu.trans (CE (.inl ZI) _ _)))))),⟨true,_,_,_,_,_,f',hx,hB4,Ud⟩⟩,?_⟩
           rw[Du hx,H2.out.2.2]
           exact hl)
end
