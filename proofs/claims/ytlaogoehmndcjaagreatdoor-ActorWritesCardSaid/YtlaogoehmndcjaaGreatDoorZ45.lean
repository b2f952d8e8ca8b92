import Derived.Test.YtlaogoehmndcjaaGreatDoorZ44
import Derived.Deep.RegionWith
import Derived.Maps.AppendAt
import Derived.Deep.RegionLaw
import Derived.OwnWalk
set_option linter.unusedVariables false
set_option maxHeartbeats 1600000
set_option linter.unusedSectionVars false
set_option linter.unusedSimpArgs false
namespace Go.Proofs.YtlaogoehmndcjaaGreatDoor.Sy
open Go RowKit Lib AS Base Pr Ba
section
variable {l:Lg} {q:Nat} {W:World} {b:Nat} {K:Nat→Prop} {p:Pr An Ot} {ops:List gz} {tries n:Int} {out:List ng}
def Ff:Value :=.tuple #[.agg #[.int .i64 0,.int .i64 0,.int .i64 0,.int .u64 0,.int .u64 0,.slice none 0 0],.bool false]
theorem Jc {w:World} {now left dn:Value} (hT:w.heap[b]? = some (.cells (ji b now false l left tries n dn) 89)) :
 Calls Tryz.prog 33 #[.pointer (some ⟨b,0,none⟩)] w fun e w'=>e =.returned Ff∧Below w.heap.size w w':=by
 unfold ji at hT
 have htl:=(Array.getElem?_eq_some_iff.1 hT).1
 obtain⟨X,hX⟩:∃X,w.heap.size=X:=⟨_,rfl⟩
 obtain⟨W1,hW1⟩:∃W1,w.alloc (.cells #[.int .i64 0,.int .i64 0,.int .i64 0,.int .u64 0,.int .u64 0,.slice none 0 0] 34)=W1:=⟨_,rfl⟩
 have b1:Below X w W1:=by rw[←hW1,←hX];exact(Below.refl _ _).alloc (Nat.le_refl _) _
 have r1:W1.heap[X]? = some (.cells #[.int .i64 0,.int .i64 0,.int .i64 0,.int .u64 0,.int .u64 0,.slice none 0 0] 34):=by rw[←hW1,←hX];exact aZ _ _
 obtain⟨c0,c1,c2,c3,-⟩:=eH ((b1.block b (by omega)).trans hT)
 obtain⟨d0,d1,d2,d3,d4,d5,e0,e1,e2,e3,e4,e5⟩:=yz r1
 have h2:=K5 r1 (.int .i64 0) (.int .i64 0) (.int .i64 0) (.int .u64 0) (.int .u64 0) (.slice none 0 0)
 have ho:=BM (X:=X) W1 (.int .i64 0) (.int .i64 0) (.int .i64 0) (.int .u64 0) (.int .u64 0) (.slice none 0 0)
 obtain⟨W2,hW2⟩:∃W2,((((((W1.setCell ⟨X,0,none⟩ (.int .i64 0)).setCell ⟨X,1,none⟩ (.int .i64 0)).setCell ⟨X,2,none⟩ (.int .i64 0)).setCell ⟨X,3,none⟩ (.int .u64 0)).setCell ⟨X,4,none⟩ (.int .u64 0)).setCell ⟨X,5,none⟩ (.slice none 0 0))=W2:=⟨_,rfl⟩
 rw[hW2]at h2 ho
 have H:=aC (aR b1 (aR h2 (aR ho hT)))
 clear b1 h2 ho r1 hT
 go_enter Tryz.func33,Tryz.ntmps33
 go_wp2
 obtain⟨k0,k1,k2,k3,k4,k5,-⟩:=yz H.out.2.1
 refine bodyPost_ret (v:=Ff) (by simp[Ff,results,Tryz.results33,go_sem,k0,k1,k2,k3,k4,k5]) rfl ?_
 refine⟨rfl,?_⟩
 obtain⟨b1,-,ho,-⟩:=H.out
 have s1:W1.heap.size=X+1:=by rw[←hW1,←hX];simp
 rw[hX]
 exact⟨ho.os.trans b1.os,ho.tape.trans b1.tape,ho.output.trans b1.output,Nat.le_trans b1.size ho.size,fun k hk=>(ho.block k (by omega) (by omega)).trans (b1.block k hk)⟩
theorem AQ {w W1 w1 W2:World} {X:Nat} {K1:Nat→Prop} {g:Bool} (hX:w.heap.size=X) (b1:Below X w W1) (s1:W1.heap.size=X+1) (hlt:∀k,K k→k<X) (hwk:WK K W1 w1 K1) (hwx:WX l q w1 b K1 g p ops tries n out) (ho:Only X w1 W2) :
 WK K w W2 K1∧WX l q W2 b K1 g p ops tries n out∧∀k,K1 k→W2.heap[k]? = w1.heap[k]? := by
 have hne:∀k,K1 k→W2.heap[k]? = w1.heap[k]? := fun k hk=>ho.block k (hwx.lt k hk) (by rcases hwk.new k hk with h|h;have:=hlt k h;omega;omega)
 refine⟨⟨⟨?_,?_,?_,?_,fun k hk hn => ?_⟩,fun k hk => ?_⟩,hwx.move ho.size hne,hne⟩
 ·exact ho.os.trans (hwk.jL.os.trans b1.os)
 ·exact ho.tape.trans (hwk.jL.tape.trans b1.tape)
 ·exact ho.output.trans (hwk.jL.output.trans b1.output)
 ·have:=hwk.jL.size;have:=ho.size;omega
 ·exact(ho.block k (by have:=hwk.jL.size;omega) (by omega)).trans ((hwk.jL.block k (by omega) hn).trans (b1.block k (by omega)))
 ·exact(hwk.new k hk).imp id fun h=>by omega
theorem PE (h:WX l q W b K false p ops tries n out) :
 Calls Tryz.prog 9 #[.pointer (some ⟨b,0,none⟩)] W fun e w'=>e =.returned Ff∧WK K W w' K∧WX l q w' b K false p ops tries n out:=by
 obtain⟨X,hX⟩:∃X,W.heap.size=X:=⟨_,rfl⟩
 obtain⟨W1,hW1⟩:∃W1,W.alloc (.cells #[.int .i64 0,.int .i64 0,.int .i64 0,.int .u64 0,.int .u64 0,.slice none 0 0] 34)=W1:=⟨_,rfl⟩
 have s1:W1.heap.size=X+1:=by rw[←hW1,←hX];simp
 have b1:Below X W W1:=by rw[←hW1,←hX];exact(Below.refl _ _).alloc (Nat.le_refl _) _
 have r1:W1.heap[X]? = some (.cells #[.int .i64 0,.int .i64 0,.int .i64 0,.int .u64 0,.int .u64 0,.slice none 0 0] 34):=by rw[←hW1,←hX];exact aZ _ _
 have hlt:∀k,K k→k<X:=fun k hk=>by have:=h.lt k hk;omega
 have hw1:=h.move (W':=W1) (by omega) fun k hk=>b1.block k (hlt k hk)
 obtain⟨now,left,dn,OA,hT,-⟩:=hw1.ex
 have c:=Jc hT
 have HT:=aC (aR hlt (aR b1 (aR r1 hw1)))
 clear b1 r1 hlt h hT hw1
 go_enter Tryz.func9,Tryz.ntmps9
 go_wp2_with (fail)
 refine c.mono ?_
 clear c
 unfold Ff
 rintro e w1 ⟨rfl,hb⟩
 have hx:=(hb.block X (by omega)).trans HT.out.2.2.1
 obtain⟨d0,d1,d2,d3,d4,d5,e0,e1,e2,e3,e4,e5⟩:=yz hx
 have h2:=K5 hx (.int .i64 0) (.int .i64 0) (.int .i64 0) (.int .u64 0) (.int .u64 0) (.slice none 0 0)
 have ho:=BM (X:=X) w1 (.int .i64 0) (.int .i64 0) (.int .i64 0) (.int .u64 0) (.int .u64 0) (.slice none 0 0)
 obtain⟨W2,hW2⟩:∃W2,((((((w1.setCell ⟨X,0,none⟩ (.int .i64 0)).setCell ⟨X,1,none⟩ (.int .i64 0)).setCell ⟨X,2,none⟩ (.int .i64 0)).setCell ⟨X,3,none⟩ (.int .u64 0)).setCell ⟨X,4,none⟩ (.int .u64 0)).setCell ⟨X,5,none⟩ (.slice none 0 0))=W2:=⟨_,rfl⟩
 rw[hW2]at h2 ho
 have H2:=aC (aR h2 (aR ho hb))
 clear hb hx h2 ho
 go_wp2
 obtain⟨k0,k1,k2,k3,k4,k5,-⟩:=yz H2.out.1
 refine bodyPost_ret (v:=Ff) (by simp[Ff,results,Tryz.results9,go_sem,k0,k1,k2,k3,k4,k5]) rfl ?_
 obtain⟨-,ho,hb⟩:=H2.out
 obtain⟨hlt,b1,-,hw1⟩:=HT.out
 obtain⟨h1,h2,h3⟩:=AQ hX b1 s1 hlt (.below hb) (hw1.move hb.size fun k hk=>hb.block k (hw1.lt k hk)) ho
 exact⟨rfl,h1,h2⟩
end
section
variable {l:Lg} {q:Nat} {W:World} {b:Nat} {K:Nat→Prop} {p:Pr An Ot} {ops:List gz} {tries n:Int} {out:List ng}
theorem Gm {w:World} {b:Nat} {t:TypeId} {v0 v1 v2 v3:Value} (h:w.heap[b]? = some (.cells #[v0,v1,v2,v3] t (0,0))):w.cell? ⟨b,0,none⟩=some v0∧w.cell? ⟨b,1,none⟩=some v1∧w.cell? ⟨b,2,none⟩=some v2∧w.cell? ⟨b,3,none⟩=some v3∧w.frozen? ⟨b,0,none⟩=false∧w.frozen? ⟨b,1,none⟩=false∧w.frozen? ⟨b,2,none⟩=false∧w.frozen? ⟨b,3,none⟩=false:=by
 refine⟨?_,?_,?_,?_,?_,?_,?_,?_⟩<;>simp[World.cell?,World.frozen?,h]
theorem PZ {w:World} {b:Nat} {t:TypeId} {v0 v1 v2 v3:Value} (h:w.heap[b]? = some (.cells #[v0,v1,v2,v3] t (0,0))) (u0 u1 u2 u3:Value):((((w.setCell ⟨b,0,none⟩ u0).setCell ⟨b,1,none⟩ u1).setCell ⟨b,2,none⟩ u2).setCell ⟨b,3,none⟩ u3).heap[b]? = some (.cells #[u0,u1,u2,u3] t (0,0)) :=
 gW (gW (gW (gW h 0 u0) 1 u1) 2 u2) 3 u3
theorem JO {X:Nat} (x:World) (v0 v1 v2 v3:Value):Only X x ((((x.setCell ⟨X,0,none⟩ v0).setCell ⟨X,1,none⟩ v1).setCell ⟨X,2,none⟩ v2).setCell ⟨X,3,none⟩ v3) :=
 (((Only.set _ _ _).trans (Only.set _ _ _)).trans (Only.set _ _ _)).trans (Only.set _ _ _)
theorem KR (h:WX l q W b K false p ops tries n out) :
 Calls Tryz.prog 10 #[.pointer (some ⟨b,0,none⟩)] W fun e w'=>e =.returned (iq bW false)∧WK K W w' K∧WX l q w' b K false p ops tries n out:=by
 obtain⟨X,hX⟩:∃X,W.heap.size=X:=⟨_,rfl⟩
 obtain⟨W1,hW1⟩:∃W1,W.alloc (.cells #[.int .i64 0,.int .i32 0,.int .i64 0,.int .i64 0] 39)=W1:=⟨_,rfl⟩
 have s1:W1.heap.size=X+1:=by rw[←hW1,←hX];simp
 have b1:Below X W W1:=by rw[←hW1,←hX];exact(Below.refl _ _).alloc (Nat.le_refl _) _
 have r1:W1.heap[X]? = some (.cells #[.int .i64 0,.int .i32 0,.int .i64 0,.int .i64 0] 39):=by rw[←hW1,←hX];exact aZ _ _
 have hlt:∀k,K k→k<X:=fun k hk=>by have:=h.lt k hk;omega
 have hw1:=h.move (W':=W1) (by omega) fun k hk=>b1.block k (hlt k hk)
 obtain⟨now,left,dn,OA,hT,-⟩:=hw1.ex
 unfold ji at hT
 obtain⟨c0,c1,c2,c3,-⟩:=eH hT
 obtain⟨d0,d1,d2,d3,e0,e1,e2,e3⟩:=Gm r1
 have h2:=PZ r1 (.int .i64 0) (.int .i32 0) (.int .i64 0) (.int .i64 0)
 have ho:=JO (X:=X) W1 (.int .i64 0) (.int .i32 0) (.int .i64 0) (.int .i64 0)
 obtain⟨W2,hW2⟩:∃W2,((((W1.setCell ⟨X,0,none⟩ (.int .i64 0)).setCell ⟨X,1,none⟩ (.int .i32 0)).setCell ⟨X,2,none⟩ (.int .i64 0)).setCell ⟨X,3,none⟩ (.int .i64 0))=W2:=⟨_,rfl⟩
 rw[hW2]at h2 ho
 have H:=aC (aR hlt (aR b1 (aR hw1 (aR h2 ho))))
 clear b1 h2 ho r1 hT hw1 hlt h
 go_enter Tryz.func10,Tryz.ntmps10
 go_wp2
 obtain⟨hlt,b1,hw1,h2,ho⟩:=H.out
 obtain⟨k0,k1,k2,k3,-⟩:=Gm h2
 refine bodyPost_ret (v:=iq bW false) (by simp[iq,bW,results,Tryz.results10,go_sem,k0,k1,k2,k3]) rfl ?_
 obtain⟨h1,h2,h3⟩:=AQ hX b1 s1 hlt (.below (Below.refl _ _)) hw1 ho
 exact⟨rfl,h1,h2⟩
end
structure WI (l:Lg) (W:World) (b:Nat) (K:Nat→Prop) (g:Bool) (now:Value) (ops:List gz) (tries n:Int) (out:List ng):Prop where
 lt:∀k,K k→k<W.heap.size
 kb:K b
 ex:∃left dn,W.heap[b]? = some (.cells (ji b now g l left tries n dn) 89)∧RX W b K (fun _=>False) left dn ops out
section
variable {l:Lg} {W W':World} {b:Nat} {K:Nat→Prop} {g:Bool} {now left dn:Value} {ops:List gz} {tries n:Int} {out:List ng}
theorem RX.moved {W W':World} {K OA:Nat→Prop} (h:RX W b K OA left dn ops out) (hlt:∀k,K k→k<W.heap.size) (hkk:∀k,K k→k≠b→W'.heap[k]? = W.heap[k]?):RX W' b K OA left dn ops out :=
 ⟨h.left.move (fun k hk _=>hkk k hk.1 hk.2.1) fun k hk _=>hk,qa h.row fun g hg=>hkk g (h.own g hg).1 (h.own g hg).2.1,h.own⟩
theorem WI.moved (h:WI l W b K g now ops tries n out) (hs:W.heap.size≤W'.heap.size) (hkk:∀k,K k→W'.heap[k]? = W.heap[k]?):WI l W' b K g now ops tries n out:=by
 obtain⟨lt,kb,left,dn,hT,hr⟩:=h
 exact⟨fun k hk=>Nat.lt_of_lt_of_le (lt k hk) hs,kb,left,dn,(hkk b kb).trans hT,hr.moved lt fun k hk _=>hkk k hk⟩
theorem sH {W1:World} (lt:∀k,K k→k<W.heap.size) (kb:K b) (hT:W1.heap[b]? = some (.cells (ji b now g l left tries n dn) 89)) (hr:RX W b K (fun _=>False) left dn ops out) (ho:Only b W W1) {W':World} (hb:Below W1.heap.size W1 W') :
 WI l W' b K g now ops tries n out∧jB K W W':=by
 have hs:W.heap.size≤W'.heap.size:=Nat.le_trans ho.size hb.size
 have hk:∀k,k<W.heap.size→k≠b→W'.heap[k]? = W.heap[k]? := fun k hk hn=>(hb.block k (Nat.lt_of_lt_of_le hk ho.size)).trans (ho.block k hk hn)
 refine⟨⟨fun k hk=>Nat.lt_of_lt_of_le (lt k hk) hs,kb,left,dn,(hb.block b (Nat.lt_of_lt_of_le (lt b kb) ho.size)).trans hT,hr.moved lt fun k h1 h2=>hk k (lt k h1) h2⟩,⟨?_,?_,?_,hs,fun k h1 h2=>hk k h1 fun e=>h2 (e▸kb)⟩⟩
 ·exact hb.os.trans ho.os
 ·exact hb.tape.trans ho.tape
 ·exact hb.output.trans ho.output
theorem NB (h:WI l W b K g now [] tries n out) :
 Calls Tryz.prog 29 #[.pointer (some ⟨b,0,none⟩)] W fun e w'=>e =.returned (.tuple #[.nilIface,.bool false])∧w'=W:=by
 obtain⟨lt,kb,left,dn,hT,hr⟩:=h
 obtain⟨la,ln,lc,rfl,h1,h2,h3⟩:=hr.left
 unfold ji at hT
 obtain⟨c0,c1,c2,c3,c4,c5,c6,c7,c8,c9,c10,c11,c12,c13,c14,-⟩:=eH hT
 have hl:((ln:Nat):Int)=0:=by rw[h1];rfl
 clear hr h3 hT
 go_enter Tryz.func29,Tryz.ntmps29
 go_wp2
 go_ret2
 exact⟨rfl,rfl⟩
theorem Ik (hw:l.wf) {o:gz} (ho:o.kind=0) (hd:(∀x∈o.data,x<256)∧o.data.length≤1000) (hn:0≤n∧n≤3000) (hln:ops.length≤1000) (h:WI l W b K g now (o::ops) tries n out) :
 Calls Tryz.prog 29 #[.pointer (some ⟨b,0,none⟩)] W fun e w'=>∃act OA,e =.returned (.tuple #[act,.bool true])∧WI l w' b K g now (o::ops) tries (n+1) out∧jB K W w'∧(∀q,AX l q (iO (aP l) o) act w' OA)∧∀k,OA k→W.heap.size≤k:=by
 obtain⟨lt,kb,left,dn,hT,hr⟩:=h
 obtain⟨la,ln,lc,rfl,h1,h2,h3⟩:=hr.left
 obtain⟨gb,go,ba,bc,rfl,hg,g0,g1,hrow⟩:=h3 0 o rfl
 have hbW:=lt b kb
 obtain⟨W1,hW1⟩:∃W1,W.setCell ⟨b,13,none⟩ (.int .i64 (n+1))=W1:=⟨_,rfl⟩
 have o1:Only b W W1:=by rw[←hW1];exact Only.set _ _ _
 have hT1:W1.heap[b]? = some (.cells (ji b now g l (.slice (some ⟨gb,go,none⟩) ln lc) tries (n+1) dn) 89):=by rw[←hW1];exact gW hT 13 _
 have hgl:gb<W.heap.size:=World.block_lt_of_cell? W _ g0
 have gk:W1.heap[gb]? = W.heap[gb]? := o1.block gb hgl hg.2.1
 obtain⟨X,hX⟩:∃X,W1.heap.size=X:=⟨_,rfl⟩
 obtain⟨W2,hW2⟩:∃W2,W1.alloc (.cells #[.int .i64 o.kind,.slice ba o.data.length bc] 67)=W2:=⟨_,rfl⟩
 have b2:Below X W1 W2:=by rw[←hW2,←hX];exact(Below.refl _ _).alloc (Nat.le_refl _) _
 have r2:W2.heap[X]? = some (.cells #[.int .i64 o.kind,.slice ba o.data.length bc] 67):=by rw[←hW2,←hX];exact aZ _ _
 have s0:=o1.size
 have hrw:∀V,Below W2.heap.size W2 V→∀w',Below V.heap.size V w'→fK w' ba o.data:=fun V hV w' hb j x hx=>by
  obtain⟨bb,bo,e,_,hk,hc⟩:=hrow j x hx
  have hl:bb<W.heap.size:=World.block_lt_of_cell? W _ hc
  have:=b2.size
  have:=hV.size
  exact⟨bb,bo,e,(bE ((hb.block bb (by omega)).trans ((hV.block bb (by omega)).trans ((b2.block bb (by omega)).trans (o1.block bb hl hk.2.1))))).trans hc⟩
 have c:∀V,Below W2.heap.size W2 V→Calls Tryz.prog 57 #[.agg #[.int .i64 l.base,.int .i64 l.term,.int .i64 l.aV,.int .i64 l.subs,.int .i32 l.bG,.int .i32 l.dQ,.int .i32 l.str],.slice ba o.data.length bc] V fun e w'=>∃rt,e =.returned (dS rt)∧Below W2.heap.size W2 w'∧(∀q,AX l q (fZ (aP l) o.data) (.iface 136 (dS rt)) w' (Made V w'))∧∀k,Made V w' k→W.heap.size≤k:=fun V hV=>by
  refine(Hz hw hd.1 hd.2 (by have:=b2.size;have:=hV.size;omega) (hrw V hV)).mono ?_
  rintro e w' ⟨rt,rfl,hb,hax⟩
  refine⟨rt,rfl,hV.trans (hb.mono hV.size),hax,fun k hk => ?_⟩
  have:=b2.size
  have:=hV.size
  rcases hk with hk|hk
  ·exact absurd hk id
  ·omega
 rw[ho]at hW2 r2
 have HT:=aC (aR lt (aR kb (aR hT1 (aR hr (aR o1 b2)))))
 obtain⟨f0,f1,f2,f3,f4,f5,f6,f7,f8,f9,f10,f11,f12,f13,f14,-⟩:=eH ((b2.block b (by omega)).trans hT1)
 unfold ji at hT hT1
 obtain⟨c0,c1,c2,c3,c4,c5,c6,c7,c8,c9,c10,c11,c12,c13,c14,-,-,-,-,Py,-⟩:=eH hT
 obtain⟨d0,d1,d2,d3,d4,d5,d6,d7,d8,d9,d10,d11,d12,d13,d14,-⟩:=eH hT1
 have g0':W.cell? ⟨gb,go,none⟩=some (.int .i64 0):=by rw[←ho];exact g0
 have g1':W.cell? ⟨gb,go+1,none⟩=some (.slice ba o.data.length bc):=g1
 have g2:W1.cell? ⟨gb,go,none⟩=some (.int .i64 0):=(bE gk).trans g0'
 have g3:W1.cell? ⟨gb,go+1,none⟩=some (.slice ba o.data.length bc):=(bE gk).trans g1'
 have k0:W2.cell? ⟨X,0,none⟩=some (.int .i64 0):=by simp[World.cell?,r2]
 have k1:W2.cell? ⟨X,1,none⟩=some (.slice ba o.data.length bc):=by simp[World.cell?,r2]
 have hl0:((ln:Nat):Int)≠0:=by rw[h1,List.length_cons];omega
 have hl1:(0:Int)<((ln:Nat):Int):=by rw[h1,List.length_cons];omega
 have w1:wrap64 (n+1)=n+1:=IntWalk.wrap64_in _ (by omega)
 clear hr h3 hT hT1 o1 b2 r2 gk g0 g1 hrow hrw hg lt kb
 go_enter Tryz.func29,Tryz.ntmps29
 go_wp2_with (fail)
 go_region_with
  (go_at_call 57
   refine(c _ (Below.drew (Below.refl _ _))).mono ?_
   clear c
   rintro e w3 ⟨rt,rfl,hb3,hax⟩
   have H3:=aC (aR hb3 hax)
   clear hb3 hax)
 all_goals go_wp2
 all_goals go_ret2
 all_goals obtain⟨hb3,hax,hnew⟩:=H3.out
 all_goals obtain⟨lt,kb,hT1,hr,o1,b2⟩:=HT.out
 all_goals obtain⟨e1,e2⟩:=sH lt kb hT1 hr o1 (hX.symm▸b2.trans (hb3.mono (by have:=b2.size;omega)))
 all_goals exact⟨_,_,rfl,e1,e2,fun q=>by rw[show iO (aP l) o=fZ (aP l) o.data from if_pos ho];exact hax q,hnew⟩
end
section
variable {l:Lg} {q:Nat} {W W':World} {b:Nat} {K OA:Nat→Prop} {g:Bool} {now left dn:Value} {ops:List gz} {tries n:Int} {out:List ng} {o:Ot}
theorem RX.Nt {K OA:Nat→Prop} (h:RX W b K OA left dn ops out):RX W b K (fun _=>False) left dn ops out :=
 ⟨h.left.move (fun _ _ _=>rfl) fun k hk _=>⟨hk.1,hk.2.1,id,hk.2.2.2⟩,h.row,fun k hk=>⟨(h.own k hk).1,(h.own k hk).2.1,id⟩⟩
theorem uM {x y:Nat×Nat} (h:dS x=dS y):x=y:=by
 injection h with h
 injection h with h
 injection h with h1 h2
 obtain⟨x1,x2⟩:=x
 obtain⟨y1,y2⟩:=y
 simp only at h1 h2
 have:x2=y2:=by omega
 rw[h1,this]
theorem Er {p:Pr An Ot} {rt:Nat×Nat} (h:AX l q p (.iface 136 (dS rt)) W OA):Gx l q p (.iface 136 (dS rt)) W OA rt 278 279 280:=by
 obtain⟨rt',⟨e,h⟩|⟨e,h⟩|⟨e,h⟩⟩:=h.acts
 ·injection e with _ e;obtain rfl:=uM e;exact h
 ·injection e with e _;cases e
 ·injection e with e _;cases e
theorem Ep {p:Pr An Ot} {rt:Nat×Nat} (h:AX l q p (.iface 138 (dS rt)) W OA):Gx l q p (.iface 138 (dS rt)) W OA rt 282 283 284:=by
 obtain⟨rt',⟨e,h⟩|⟨e,h⟩|⟨e,h⟩⟩:=h.acts
 ·injection e with e _;cases e
 ·injection e with _ e;obtain rfl:=uM e;exact h
 ·injection e with e _;cases e
theorem Eo {p:Pr An Ot} {rt:Nat×Nat} (h:AX l q p (.iface 140 (dS rt)) W OA):Gx l q p (.iface 140 (dS rt)) W OA rt 43 288 289:=by
 obtain⟨rt',⟨e,h⟩|⟨e,h⟩|⟨e,h⟩⟩:=h.acts
 ·injection e with e _;cases e
 ·injection e with e _;cases e
 ·injection e with _ e;obtain rfl:=uM e;exact h
theorem fH {O:Nat→Prop} {w w':World}:∀k,Grow O w w' k→O k∨w.heap.size≤k:=fun k hk=>hk.imp id fun h=>h.1
theorem FZ (lt:∀k,K k→k<W.heap.size) (kb:K b) (hT:W.heap[b]? = some (.cells (ji b now true l left tries n dn) 89)) (hA:AX l q (.done o) now W OA) (hO:∀k,OA k→K k∧k≠b) (hr:RX W b K OA left dn ops out) (he:o.e=5∨o.e=6) (ht:0<tries∧tries<9223372036854775808) :
 Calls Tryz.prog 30 #[.pointer (some ⟨b,0,none⟩),now] W fun e w'=>∃K',e =.returned (.tuple #[])∧WK K W w' K'∧WI l w' b K' true now ops (tries-1) n out:=by
 obtain⟨rt,hc⟩:=hA.acts
 have w0:wrap64 (tries-1)=tries-1:=IntWalk.wrap64_in _ (by omega)
 have ht1:=ht.1
 obtain⟨⟨os,oh,op,oe⟩,rfl⟩:∃o',o=o':=⟨_,rfl⟩
 rcases hc with⟨rfl,hc⟩|⟨rfl,hc⟩|⟨rfl,hc⟩
 ·have c:=hc.result
  have HT:=aC (aR lt (aR kb (aR hT (aR hO hr))))
  clear hc hA lt kb hT hO hr
  replace he:oe=5∨oe=6:=he
  rcases he with rfl|rfl
  all_goals go_enter Tryz.func30,Tryz.ntmps30
  all_goals go_wp2_with (fail)
  all_goals refine c.mono ?_
  all_goals clear c
  all_goals rintro e w1 ⟨rfl,hf,ha⟩
  all_goals obtain⟨lt,kb,hT,hO,hr⟩:=HT.out
  all_goals obtain⟨hwx,hwk⟩:=jN lt kb hT hO hr hf fH ha
  all_goals have hT1:w1.heap[b]? = _:=(hf.block b (lt b kb) fun h=>(hO b h).2 rfl).trans hT
  all_goals have hr1:=(RX.jN (O':=Grow OA W w1) hr lt hf fH).Nt
  all_goals obtain⟨W2,hW2⟩:∃W2,w1.setCell ⟨b,12,none⟩ (.int .i64 (tries-1))=W2:=⟨_,rfl⟩
  all_goals have o2:Only b w1 W2:=by rw[←hW2];exact Only.set _ _ _
  all_goals have nO:=gW (C':=ji b _ true l left (tries-1) n dn) hT1 12 (.int .i64 (tries-1))
  all_goals rw[hW2]at nO
  all_goals obtain⟨e1,e2⟩:=sH hwx.lt hwx.kb nO hr1 o2 (Below.refl _ _)
  all_goals have H2:=aC (aR hwk (aR e1 e2))
  all_goals unfold ji at hT1
  all_goals obtain⟨f0,f1,f2,f3,f4,f5,f6,f7,f8,f9,f10,f11,f12,f13,f14,z0,z3,Pz,z12,Py,VD⟩:=eH hT1
  all_goals clear lt kb hT hO hr hf ha hwx hwk hT1 hr1 o2 nO e1 e2
  all_goals go_wp2
  all_goals refine bodyPost_ret (v :=.tuple #[]) (by simp[results,Tryz.results30,go_sem]) rfl ?_
  all_goals obtain⟨h1,h2,h3⟩:=H2.out
  all_goals exact⟨_,rfl,h1.trans ⟨h3,fun k hk => .inl hk⟩,h2⟩
 ·have c:=hc.result
  have HT:=aC (aR lt (aR kb (aR hT (aR hO hr))))
  clear hc hA lt kb hT hO hr
  replace he:oe=5∨oe=6:=he
  rcases he with rfl|rfl
  all_goals go_enter Tryz.func30,Tryz.ntmps30
  all_goals go_wp2_with (fail)
  all_goals refine c.mono ?_
  all_goals clear c
  all_goals rintro e w1 ⟨rfl,hf,ha⟩
  all_goals obtain⟨lt,kb,hT,hO,hr⟩:=HT.out
  all_goals obtain⟨hwx,hwk⟩:=jN lt kb hT hO hr hf fH ha
  all_goals have hT1:w1.heap[b]? = _:=(hf.block b (lt b kb) fun h=>(hO b h).2 rfl).trans hT
  all_goals have hr1:=(RX.jN (O':=Grow OA W w1) hr lt hf fH).Nt
  all_goals obtain⟨W2,hW2⟩:∃W2,w1.setCell ⟨b,12,none⟩ (.int .i64 (tries-1))=W2:=⟨_,rfl⟩
  all_goals have o2:Only b w1 W2:=by rw[←hW2];exact Only.set _ _ _
  all_goals have nO:=gW (C':=ji b _ true l left (tries-1) n dn) hT1 12 (.int .i64 (tries-1))
  all_goals rw[hW2]at nO
  all_goals obtain⟨e1,e2⟩:=sH hwx.lt hwx.kb nO hr1 o2 (Below.refl _ _)
  all_goals have H2:=aC (aR hwk (aR e1 e2))
  all_goals unfold ji at hT1
  all_goals obtain⟨f0,f1,f2,f3,f4,f5,f6,f7,f8,f9,f10,f11,f12,f13,f14,z0,z3,Pz,z12,Py,VD⟩:=eH hT1
  all_goals clear lt kb hT hO hr hf ha hwx hwk hT1 hr1 o2 nO e1 e2
  all_goals go_wp2
  all_goals refine bodyPost_ret (v :=.tuple #[]) (by simp[results,Tryz.results30,go_sem]) rfl ?_
  all_goals obtain⟨h1,h2,h3⟩:=H2.out
  all_goals exact⟨_,rfl,h1.trans ⟨h3,fun k hk => .inl hk⟩,h2⟩
 ·have c:=hc.result
  have HT:=aC (aR lt (aR kb (aR hT (aR hO hr))))
  clear hc hA lt kb hT hO hr
  replace he:oe=5∨oe=6:=he
  rcases he with rfl|rfl
  all_goals go_enter Tryz.func30,Tryz.ntmps30
  all_goals go_wp2_with (fail)
  all_goals refine c.mono ?_
  all_goals clear c
  all_goals rintro e w1 ⟨rfl,hf,ha⟩
  all_goals obtain⟨lt,kb,hT,hO,hr⟩:=HT.out
  all_goals obtain⟨hwx,hwk⟩:=jN lt kb hT hO hr hf fH ha
  all_goals have hT1:w1.heap[b]? = _:=(hf.block b (lt b kb) fun h=>(hO b h).2 rfl).trans hT
  all_goals have hr1:=(RX.jN (O':=Grow OA W w1) hr lt hf fH).Nt
  all_goals obtain⟨W2,hW2⟩:∃W2,w1.setCell ⟨b,12,none⟩ (.int .i64 (tries-1))=W2:=⟨_,rfl⟩
  all_goals have o2:Only b w1 W2:=by rw[←hW2];exact Only.set _ _ _
  all_goals have nO:=gW (C':=ji b _ true l left (tries-1) n dn) hT1 12 (.int .i64 (tries-1))
  all_goals rw[hW2]at nO
  all_goals obtain⟨e1,e2⟩:=sH hwx.lt hwx.kb nO hr1 o2 (Below.refl _ _)
  all_goals have H2:=aC (aR hwk (aR e1 e2))
  all_goals unfold ji at hT1
  all_goals obtain⟨f0,f1,f2,f3,f4,f5,f6,f7,f8,f9,f10,f11,f12,f13,f14,z0,z3,Pz,z12,Py,VD⟩:=eH hT1
  all_goals clear lt kb hT hO hr hf ha hwx hwk hT1 hr1 o2 nO e1 e2
  all_goals go_wp2
  all_goals refine bodyPost_ret (v :=.tuple #[]) (by simp[results,Tryz.results30,go_sem]) rfl ?_
  all_goals obtain⟨h1,h2,h3⟩:=H2.out
  all_goals exact⟨_,rfl,h1.trans ⟨h3,fun k hk => .inl hk⟩,h2⟩
end
theorem pz {P:Program} {ops:Array Oper} {o:Oper} {a:Act} {w:World} {K:Act→World→Prop} {Q:Exit→Act→World→Prop} {E:Prop} (hg:o.guard=none) (s x:Operand) (t:TypeId)
 (hop:o.op =.call { callee :=.builtin .append,args :=#[s,x],argTypes :=#[t,t] })
 (base:Nat) (e:TypeId) (i:TypeInfo) (z:Value) (size bytes:Nat) (ht:P.underlying t=some (.slice e)) (hi:P.info? e=some i) (hz:i.zero=some z)
 (hsize:i.size=size) (hby:i.bytes=bytes) (hzs:z.cells.size=size) (hsz:0<size)
 (v:Value) (n:Nat) (xs:List Value) (hs:a.eval s=v) (hown:w.ownsRow base e size v n xs)
 (ad:Addr) (m c:Nat) (news:List Value) (hx:a.eval x =.slice (some ad) m c) (hl:news.length=m*size) (hnews:∀j u,news[j]? = some u→w.cell? (ad.add j)=some u) (h1:∀u∈news,u.oneCell'=true)
 (h63:n+m≤maxLen) (hbytes:(n+m)*bytes≤140737488355328) (hbase:base≤w.heap.size)
 (h:∀v' w',w'.ownsRow base e size v' (n+m) (xs++news)→w.grownBy w' v.ownBlock→(v'.ownBlock=v.ownBlock∨v'.ownBlock=some w.heap.size)→K (a.put o.dst v') w') :
 if Region.wanted o (yielded ops a.tmps)=true then Oper.wp P o a w K Q else E:=by
 have hw:Region.wanted o (yielded ops a.tmps)=true:=by simp[Region.wanted,hg]
 rw[if_pos hw]
 obtain⟨v',w',hrun,r1,r2,_,r3⟩:=run_append_own_at (P:=P) (w:=w) base t o.type e i z size bytes ht hi hz hsize hby hzs hsz v n xs hown ad m c news hl hnews h1 h63 hbytes hbase
 unfold Oper.wp
 simp[execOp,hop,resolve,invoke,builtin,hs,hx,hrun,Result.andThen]
 exact h v' w' r1 r2 r3
theorem lC {w:World} {base:Nat} {e:TypeId} {size:Nat} {v:Value} {n:Nat} {xs:List Value} (h:w.ownsRow base e size v n xs):∃ca cc,v =.slice ca n cc:=by
 rcases h.2 with⟨rfl,rfl⟩|⟨g,cap,cur,rfl,_⟩
 ·exact⟨_,_,rfl⟩
 ·exact⟨_,_,rfl⟩
theorem xJ:(Tryz.prog.info? 78).map (fun i=>(i.zero,i.size,i.bytes))=some (some (.agg #[.int .i64 0,.int .i64 0,.int .i64 0,.int .i64 0,.int .i32 0,.int .i64 0,.int .i64 0,.bool false]),8,64):=by kernel_rfl
theorem YM {w:World} {b:Nat} {t:TypeId} {v0 v1 v2 v3 v4 v5 v6 v7:Value} (h:w.heap[b]? = some (.cells #[v0,v1,v2,v3,v4,v5,v6,v7] t (0,0))):w.cell? ⟨b,0,none⟩=some v0∧w.cell? ⟨b,1,none⟩=some v1∧w.cell? ⟨b,2,none⟩=some v2∧w.cell? ⟨b,3,none⟩=some v3∧w.cell? ⟨b,4,none⟩=some v4∧w.cell? ⟨b,5,none⟩=some v5∧w.cell? ⟨b,6,none⟩=some v6∧w.cell? ⟨b,7,none⟩=some v7∧w.frozen? ⟨b,0,none⟩=false∧w.frozen? ⟨b,1,none⟩=false∧w.frozen? ⟨b,2,none⟩=false∧w.frozen? ⟨b,3,none⟩=false∧w.frozen? ⟨b,4,none⟩=false∧w.frozen? ⟨b,5,none⟩=false∧w.frozen? ⟨b,6,none⟩=false∧w.frozen? ⟨b,7,none⟩=false:=by
 refine⟨?_,?_,?_,?_,?_,?_,?_,?_,?_,?_,?_,?_,?_,?_,?_,?_⟩<;>simp[World.cell?,World.frozen?,h]
section
variable {l:Lg} {q:Nat} {W W':World} {b:Nat} {K OA:Nat→Prop} {g:Bool} {now left dn:Value} {ops:List gz} {tries n:Int} {out:List ng} {o:Ot}
theorem Cf {w1 V w2 W3 D w5 W6:World} {X:Nat} {K1 K2 O2:Nat→Prop} {v5 left':Value} {s:ng} {op1:gz} {gb go lc:Nat} (hwk:WK K W w1 K1) (kb:K b) (hX:w1.heap.size=X) (bV:Below X w1 V) (oM:WK K1 V w2 K2) (Y2:∀k,K2 k→k<w2.heap.size) (Y3:K2 b)
 (hr:RX w2 b K2 O2 (.slice (some ⟨gb,go,none⟩) (ops.length+1) lc) dn (op1::ops) out) (hX2:∀k,K2 k→k≠X) (ltW:∀k,K k→k<W.heap.size) (o3:Only X w2 W3) (hD:Below W3.heap.size W3 D) (r1:w5.ownsRow 0 78 8 v5 (out.length+1) (out.flatMap uE++uE s)) (r2:D.grownBy w5 dn.ownBlock) (r3:v5.ownBlock=dn.ownBlock∨v5.ownBlock=some D.heap.size)
 (o6:Only b w5 W6) (h6:W6.heap[b]? = some (.cells (ji b now true l left' tries 0 v5) 89)) (hl:∃la WO,left' =.slice la ops.length WO∧ops.length≤WO∧(ops≠[]→la=some ⟨gb,go+2,none⟩)) :
 ∃K',WK K W W6 K'∧WI l W6 b K' true now ops tries 0 (out++[s]):=by
 have t1:=hwk.jL.size
 have t2:=bV.size
 have t3:=oM.jL.size
 have t4:=o3.size
 have t5:=hD.size
 have t6:=r2.size
 have t7:=o6.size
 have hbD:b≠D.heap.size:=by have:=Y2 b Y3;omega
 have hown:∀k,dn.ownBlock=some k→K2 k:=fun k hk=>(hr.own k hk).1
 have keep:∀k,k<w2.heap.size→k≠b→k≠X→dn.ownBlock≠some k→W6.heap[k]? = w2.heap[k]? := fun k h1 h2 h3 h4 =>
  (o6.block k (by omega) h2).trans ((r2.block k (by omega) (fun e=>h4 e.symm)).trans ((hD.block k (by omega)).trans (o3.block k h1 h3)))
 have hv5:∀k,v5.ownBlock=some k→dn.ownBlock=some k∨k=D.heap.size:=fun k hk=>by
  rcases r3 with h|h
  ·exact .inl (h.symm.trans hk)
  ·rw[hk]at h;injection h with h;exact .inr h
 refine⟨fun k=>K2 k∨v5.ownBlock=some k,⟨⟨?_,?_,?_,by omega,fun k h1 h2 => ?_⟩,fun k hk => ?_⟩,⟨fun k hk => ?_,.inl Y3,left',v5,h6,⟨?_,?_,fun k hk=>⟨.inr hk,fun e => ?_,id⟩⟩⟩⟩
 ·exact o6.os.trans (r2.os.trans (hD.os.trans (o3.os.trans (oM.jL.os.trans (bV.os.trans hwk.jL.os)))))
 ·exact o6.tape.trans (r2.tape.trans (hD.tape.trans (o3.tape.trans (oM.jL.tape.trans (bV.tape.trans hwk.jL.tape)))))
 ·exact o6.output.trans (r2.output.trans (hD.output.trans (o3.output.trans (oM.jL.output.trans (bV.output.trans hwk.jL.output)))))
 ·have n1:¬K1 k:=fun h=>by
   rcases hwk.new k h with h|h
   ·exact h2 h
   ·omega
  have n2:¬K2 k:=fun h=>by
   rcases oM.new k h with h|h
   ·exact n1 h
   ·omega
  exact(keep k (by omega) (fun e=>h2 (e▸kb)) (by omega) fun e=>n2 (hown k e)).trans ((oM.jL.block k (by omega) n1).trans ((bV.block k (by omega)).trans (hwk.jL.block k h1 h2)))
 ·have:∀k,K2 k→K k∨W.heap.size≤k:=fun k h=>by
   rcases oM.new k h with h|h
   ·exact hwk.new k h
   ·exact .inr (by omega)
  rcases hk with hk|hk
  ·exact this k hk
  ·rcases hv5 k hk with h|h
   ·exact this k (hown k h)
   ·exact .inr (by omega)
 ·rcases hk with hk|hk
  ·have:=Y2 k hk;omega
  ·have:=(r1.lt k hk).2;omega
 ·obtain⟨la,ln,lc0,e0,e1,e2,h3⟩:=hr.left
  obtain⟨la',WO,rfl,hlc,hla⟩:=hl
  injection e0 with e0 _ _
  subst e0
  refine⟨la',ops.length,WO,rfl,rfl,hlc,fun j o hj => ?_⟩
  obtain⟨g,g0,ba,bc,hg,hk,c1,c2,hrow⟩:=h3 (j+1) o hj
  have hg2:gb=g∧go=g0:=by injection hg with hg;injection hg with h1 h2 _;exact⟨h1,h2⟩
  obtain⟨rfl,rfl⟩:=hg2
  have hne:ops≠[]:=fun e=>by rw[e]at hj;cases hj
  have hkk:∀k,(K2 k∧k≠b∧¬O2 k∧dn.ownBlock≠some k)→k<w2.heap.size→W6.heap[k]? = w2.heap[k]? := fun k hk h1=>keep k h1 hk.2.1 (hX2 k hk.1) hk.2.2.2
  have hKK:∀k,(K2 k∧k≠b∧¬O2 k∧dn.ownBlock≠some k)→k<w2.heap.size→(K2 k∨v5.ownBlock=some k)∧k≠b∧¬False∧v5.ownBlock≠some k:=fun k hk h1=>⟨.inl hk.1,hk.2.1,id,fun e=>by
   rcases hv5 k e with h|h
   ·exact hk.2.2.2 h
   ·omega⟩
  have l1:gb<w2.heap.size:=World.block_lt_of_cell? w2 _ c1
  refine⟨gb,go+2,ba,bc,hla hne,hKK gb hk l1,?_,?_,fun i x hx => ?_⟩
  ·rw[show go+2+2*j=go+2*(j+1) by omega];exact(bE (hkk gb hk l1)).trans c1
  ·rw[show go+2+2*j+1=go+2*(j+1)+1 by omega];exact(bE (hkk gb hk l1)).trans c2
  ·obtain⟨bb,bo,e2,hn,hb,hc⟩:=hrow i x hx
   have l2:bb<w2.heap.size:=World.block_lt_of_cell? w2 _ hc
   exact⟨bb,bo,e2,hn,hKK bb hb l2,(bE (hkk bb hb l2)).trans hc⟩
 ·rw[List.flatMap_append,List.length_append]
  simp only[List.flatMap_cons,List.flatMap_nil,List.append_nil,List.length_cons,List.length_nil]
  exact qa r1 fun g hg=>o6.block g (r1.lt g hg).2 fun e=>by
   subst e
   rcases hv5 g hg with h|h
   ·exact(hr.own g h).2.1 rfl
   ·exact hbD h
 ·subst e
  rcases hv5 k hk with h|h
  ·exact(hr.own k h).2.1 rfl
  ·exact hbD h
end
