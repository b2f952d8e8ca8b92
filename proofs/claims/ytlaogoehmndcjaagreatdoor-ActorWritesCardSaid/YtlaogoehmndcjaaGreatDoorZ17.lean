import Derived.Test.YtlaogoehmndcjaaGreatDoorZ15
import Derived.Deep.RegionHeld3
import Derived.Deep.QuietTactic
set_option maxRecDepth 1000000
set_option maxHeartbeats 3200000
set_option linter.unusedVariables false
set_option linter.unusedSectionVars false
set_option linter.unusedSimpArgs false
namespace Go.Proofs.YtlaogoehmndcjaaGreatDoor.Sy
open Go RowKit Lib Base Ba
def eG (told:Value) (a k p n v w:Int) (ends:Bool):Array Value :=#[told,.int .i64 a,.int .i64 k,.int .i64 p,.int .i64 n,.int .u64 v,.int .u64 w,.slice none 0 0,.bool ends]
structure Only (tb:Nat) (w w':World):Prop where
 os:w'.os=w.os
 tape:w'.tape=w.tape
 output:w'.output=w.output
 size:w.heap.size≤w'.heap.size
 block:∀b,b<w.heap.size→b≠tb→w'.heap[b]? = w.heap[b]?
theorem Only.trans {tb:Nat} {x y z:World} (h:Only tb x y) (k:Only tb y z):Only tb x z :=
 ⟨k.os.trans h.os,k.tape.trans h.tape,k.output.trans h.output,Nat.le_trans h.size k.size,fun b hb hn=>(k.block b (Nat.lt_of_lt_of_le hb h.size) hn).trans (h.block b hb hn)⟩
theorem Only.of_below {tb:Nat} {x y:World} (h:Below x.heap.size x y):Only tb x y:=⟨h.os,h.tape,h.output,h.size,fun b hb _=>h.block b hb⟩
theorem Only.set {tb:Nat} (x:World) (o:Nat) (v:Value):Only tb x (x.setCell ⟨tb,o,none⟩ v) :=
 ⟨rfl,rfl,rfl,by show x.heap.size≤(x.heap.modify _ _).size;rw[Array.size_modify];exact Nat.le_refl _,fun b _ hn=>Below.heap_setCell x ⟨tb,o,none⟩ v b hn⟩
theorem L8 {w:World} {b:Nat} {t:TypeId} {v0 v1 v2 v3 v4 v5 v6 v7 v8:Value} (h:w.heap[b]? = some (.cells #[v0,v1,v2,v3,v4,v5,v6,v7,v8] t (0,0))):w.cell? ⟨b,0,none⟩=some v0∧w.cell? ⟨b,1,none⟩=some v1∧w.cell? ⟨b,2,none⟩=some v2∧w.cell? ⟨b,3,none⟩=some v3∧w.cell? ⟨b,4,none⟩=some v4∧w.cell? ⟨b,5,none⟩=some v5∧w.cell? ⟨b,6,none⟩=some v6∧w.cell? ⟨b,7,none⟩=some v7∧w.cell? ⟨b,8,none⟩=some v8∧(w.frozen? ⟨b,1,none⟩=false∧w.frozen? ⟨b,2,none⟩=false∧w.frozen? ⟨b,3,none⟩=false∧w.frozen? ⟨b,4,none⟩=false∧w.frozen? ⟨b,5,none⟩=false∧w.frozen? ⟨b,6,none⟩=false∧w.frozen? ⟨b,7,none⟩=false∧w.frozen? ⟨b,8,none⟩=false):=by
 refine⟨?_,?_,?_,?_,?_,?_,?_,?_,?_,?_,?_,?_,?_,?_,?_,?_,?_⟩<;>simp[World.cell?,World.frozen?,h]
theorem uF {w:World} {b:Nat} {t:TypeId} {v0 v1 v2:Value} (h:w.heap[b]? = some (.cells #[v0,v1,v2] t)) (u:Value):(w.setCell ⟨b,0,none⟩ u).heap[b]? = some (.cells #[u,v1,v2] t)∧(w.setCell ⟨b,1,none⟩ u).heap[b]? = some (.cells #[v0,u,v2] t)∧(w.setCell ⟨b,2,none⟩ u).heap[b]? = some (.cells #[v0,v1,u] t):=by
 obtain⟨hlt,hk⟩:=Array.getElem?_eq_some_iff.1 h
 refine⟨?_,?_,?_⟩<;>(show(w.heap.modify b _)[b]? = _;rw[Array.getElem?_eq_getElem (by rw[Array.size_modify];exact hlt),Array.getElem_modify_self,hk];rfl)
theorem VQ {w:World} {b:Nat} {t:TypeId} {v0 v1 v2:Value} (h:w.heap[b]? = some (.cells #[v0,v1,v2] t)) (u0 u1 u2:Value):(((w.setCell ⟨b,0,none⟩ u0).setCell ⟨b,1,none⟩ u1).setCell ⟨b,2,none⟩ u2).drew.heap[b]? = some (.cells #[u0,u1,u2] t) :=
 (uF (uF (uF h u0).1 u1).2.1 u2).2.2
theorem below_drewN {s:Nat} {x:World} (n:Nat) {w:World} (h:Below s x w):Below s x (w.drewN n):=⟨h.os,h.tape,h.output,h.size,h.block⟩
theorem yP (tb gb go n cap:Nat) (a k p m v u:Int) (k1 p1 m1 v1 u1 V:Int) (dn:Bool) (ba:Option Addr) (bn bc:Nat) (ha:0≤a∧a<n) (hn:n≤1000000) (w:World) (hT:w.heap[tb]? = some (.cells (eG (.slice (some ⟨gb,go,none⟩) n cap) a k p m v u false) 36)) (hg:gb≠tb)
 (h0:w.cell? ⟨gb,go+a.toNat*3,none⟩=some (.int .u64 V)) (h1:w.cell? ⟨gb,go+a.toNat*3+1,none⟩=some (.bool dn)) (h2:w.cell? ⟨gb,go+a.toNat*3+2,none⟩=some (.slice ba bn bc)) :
 Calls Tryz.prog 66 #[.pointer (some ⟨tb,0,none⟩),.agg #[.int .i64 k1,.int .i64 p1,.int .i64 m1,.int .u64 v1,.int .u64 u1,.slice none 0 0]] w fun e w'=>e =.returned (.tuple #[.agg #[.int .u64 V,.bool dn,.slice ba bn bc],.bool true])∧w'.heap[tb]? = some (.cells (eG (.slice (some ⟨gb,go,none⟩) n cap) (a+1) k p m v u false) 36)∧Only tb w w':=by
 unfold eG at hT ⊢
 obtain⟨A,rfl⟩:∃A:Nat,a=A:=⟨a.toNat,by omega⟩
 rw[Int.toNat_natCast]at h0 h1 h2
 have hA:¬(A:Int)≥n:=by omega
 have hAn:(A:Int)<n:=by omega
 have e1:wrap64 ((A:Int)+1)=(A:Int)+1:=IntWalk.wrap64_in _ (by omega)
 have e2:wrap64 ((A:Int)+1-1)=(A:Int):=(IntWalk.wrap64_in _ (by omega)).trans (by omega)
 have e3:wrap64 (A:Int)=(A:Int):=IntWalk.wrap64_in _ (by omega)
 have e4:IntKind.i64.wrap (A:Int)=(A:Int):=wrap_small _ (by omega) (by omega)
 have RI:(0:Int)≤(A:Int):=by omega
 have htl:=(Array.getElem?_eq_some_iff.1 hT).1
 have hgl:gb<w.heap.size:=World.block_lt_of_cell? w _ h0
 obtain⟨W1,hW1⟩:∃W1,w.alloc (.cells #[.int .i64 k1,.int .i64 p1,.int .i64 m1,.int .u64 v1,.int .u64 u1,.slice none 0 0] 34)=W1:=⟨_,rfl⟩
 obtain⟨X,hX⟩:∃X,w.heap.size=X:=⟨_,rfl⟩
 have s1:W1.heap.size=X+1:=by rw[←hW1,←hX];simp
 have b1:Below X w W1:=by rw[←hW1,←hX];exact(Below.refl _ _).alloc (Nat.le_refl _) _
 obtain⟨W2,hW2⟩:∃W2,W1.alloc (.cells #[.int .u64 0,.bool false,.slice none 0 0] 51)=W2:=⟨_,rfl⟩
 have b2:Below X w W2:=by rw[←hW2];exact b1.alloc (by omega) _
 have r2:W2.heap[X+1]? = some (.cells #[.int .u64 0,.bool false,.slice none 0 0] 51):=by rw[←hW2,←s1];exact aZ _ _
 have nO:W2.heap[tb]? = _:=(b2.block tb (by omega)).trans hT
 obtain⟨c0,c1,c2,c3,c4,c5,c6,c7,c8,f1,f2,f3,f4,f5,f6,f7,f8⟩:=L8 nO
 have HT:=aC (aR nO (aR b2 (aR r2 (aR htl (aR hgl (aR h0 (aR h1 (aR h2 hg))))))))
 clear b1 b2 nO hT h0 h1 h2 r2 htl hgl ha hn hg
 go_enter Tryz.func66,Tryz.ntmps66
 go_wp2
 go_quiet (fail)
 go_wp2
 obtain⟨nO,b2,r2,htl,hgl,h0,h1,h2,hg⟩:=HT.out
 obtain⟨W3,hW3⟩:∃W3,(W2.drewN nq).setCell ⟨tb,1,none⟩ (.int .i64 ((A:Int)+1))=W3:=⟨_,rfl⟩
 have II:W3.heap[tb]? = some (.cells #[.slice (some ⟨gb,go,none⟩) n cap,.int .i64 ((A:Int)+1),.int .i64 k,.int .i64 p,.int .i64 m,.int .u64 v,.int .u64 u,.slice none 0 0,.bool false] 36):=by
  rw[←hW3]
  obtain⟨hlt,hk⟩:=Array.getElem?_eq_some_iff.1 nO
  show(W2.heap.modify tb _)[tb]? = _
  rw[Array.getElem?_eq_getElem (by rw[Array.size_modify];exact hlt),Array.getElem_modify_self,hk]
  rfl
 have b3:Only tb W2 W3:=by rw[←hW3];exact(Only.of_below (below_drewN nq (Below.refl _ W2))).trans (Only.set _ _ _)
 obtain⟨d0,d1,d2,d3,d4,d5,d6,d7,d8,_⟩:=L8 II
 have hz2:X+1<W2.heap.size:=(Array.getElem?_eq_some_iff.1 r2).1
 have hgb:W3.heap[gb]? = w.heap[gb]? :=(b3.block gb (by omega) hg).trans (b2.block gb (by omega))
 have g0:W3.cell? ⟨gb,go+A*3,none⟩=some (.int .u64 V):=by simp only[World.cell?]at h0 ⊢;rw[hgb];exact h0
 have g1:W3.cell? ⟨gb,go+A*3+1,none⟩=some (.bool dn):=by simp only[World.cell?]at h1 ⊢;rw[hgb];exact h1
 have g2:W3.cell? ⟨gb,go+A*3+2,none⟩=some (.slice ba bn bc):=by simp only[World.cell?]at h2 ⊢;rw[hgb];exact h2
 have r3:W3.heap[X+1]? = _:=(b3.block (X+1) hz2 (by omega)).trans r2
 have o3:Only tb w W3:=(Only.of_below (hX▸b2)).trans b3
 have H3:=aC (aR II (aR o3 r3))
 have q0:W3.cell? ⟨X+1,0,none⟩=some (.int .u64 0):=by simp[World.cell?,r3]
 have q1:W3.cell? ⟨X+1,1,none⟩=some (.bool false):=by simp[World.cell?,r3]
 have q2:W3.cell? ⟨X+1,2,none⟩=some (.slice none 0 0):=by simp[World.cell?,r3]
 have q3:W3.frozen? ⟨X+1,0,none⟩=false:=by simp[World.frozen?,r3]
 have q4:W3.frozen? ⟨X+1,1,none⟩=false:=by simp[World.frozen?,r3]
 have q5:W3.frozen? ⟨X+1,2,none⟩=false:=by simp[World.frozen?,r3]
 rw[hW3]
 clear nO b2 r2 h0 h1 h2 b3 II hgb r3 o3 c0 c1 c2 c3 c4 c5 c6 c7 c8 f1 f2 f3 f4 f5 f6 f7 f8 hW3 hW2 hW1
 go_region
 go_wp2
 have hne:tb≠X+1:=by omega
 have r4:=VQ H3.out.2.2 (.int .u64 V) (.bool dn) (.slice ba bn bc)
 obtain⟨W4,Bl⟩:∃W4,(((W3.setCell ⟨X+1,0,none⟩ (.int .u64 V)).setCell ⟨X+1,1,none⟩ (.bool dn)).setCell ⟨X+1,2,none⟩ (.slice ba bn bc)).drew=W4:=⟨_,rfl⟩
 have o4:Only (X+1) W3 W4:=by rw[←Bl];exact(((Only.set _ _ _).trans (Only.set _ _ _)).trans (Only.set _ _ _)).trans (Only.of_below (Below.drew (Below.refl _ _)))
 rw[Bl]at r4 ⊢
 have k0:W4.cell? ⟨X+1,0,none⟩=some (.int .u64 V):=by simp[World.cell?,r4]
 have k1':W4.cell? ⟨X+1,1,none⟩=some (.bool dn):=by simp[World.cell?,r4]
 have k2:W4.cell? ⟨X+1,2,none⟩=some (.slice ba bn bc):=by simp[World.cell?,r4]
 have ht3:tb<W3.heap.size:=(Array.getElem?_eq_some_iff.1 H3.out.1).1
 refine bodyPost_ret (v :=.tuple #[.agg #[.int .u64 V,.bool dn,.slice ba bn bc],.bool true]) (by simp[results,Tryz.results66,go_sem,k0,k1',k2]) rfl ⟨rfl,?_,?_⟩
 ·exact(o4.block tb ht3 hne).trans H3.out.1
 ·have o3:=H3.out.2.1
  exact⟨o4.os.trans o3.os,o4.tape.trans o3.tape,o4.output.trans o3.output,Nat.le_trans o3.size o4.size,fun b hb hn=>(o4.block b (Nat.lt_of_lt_of_le hb o3.size) (by omega)).trans (o3.block b hb hn)⟩
theorem mo {w:World} {b:Nat} {t:TypeId} {v0 v1 v2 v3 v4 v5 v6 v7 v8:Value} (h:w.heap[b]? = some (.cells #[v0,v1,v2,v3,v4,v5,v6,v7,v8] t)) (u:Value) :
 (w.setCell ⟨b,2,none⟩ u).heap[b]? = some (.cells #[v0,v1,u,v3,v4,v5,v6,v7,v8] t)∧(w.setCell ⟨b,3,none⟩ u).heap[b]? = some (.cells #[v0,v1,v2,u,v4,v5,v6,v7,v8] t)∧(w.setCell ⟨b,4,none⟩ u).heap[b]? = some (.cells #[v0,v1,v2,v3,u,v5,v6,v7,v8] t)∧(w.setCell ⟨b,5,none⟩ u).heap[b]? = some (.cells #[v0,v1,v2,v3,v4,u,v6,v7,v8] t)∧(w.setCell ⟨b,6,none⟩ u).heap[b]? = some (.cells #[v0,v1,v2,v3,v4,v5,u,v7,v8] t)∧(w.setCell ⟨b,7,none⟩ u).heap[b]? = some (.cells #[v0,v1,v2,v3,v4,v5,v6,u,v8] t)∧(w.setCell ⟨b,8,none⟩ u).heap[b]? = some (.cells #[v0,v1,v2,v3,v4,v5,v6,v7,u] t):=by
 obtain⟨hlt,hk⟩:=Array.getElem?_eq_some_iff.1 h
 refine⟨?_,?_,?_,?_,?_,?_,?_⟩<;>(show(w.heap.modify b _)[b]? = _;rw[Array.getElem?_eq_getElem (by rw[Array.size_modify];exact hlt),Array.getElem_modify_self,hk];rfl)
theorem yO (tb n cap:Nat) (ga:Option Addr) (a k p m v u:Int) (k1 p1 m1 v1 u1:Int) (ha:a≥n) (w:World) (hT:w.heap[tb]? = some (.cells (eG (.slice ga n cap) a k p m v u false) 36)) :
 Calls Tryz.prog 66 #[.pointer (some ⟨tb,0,none⟩),.agg #[.int .i64 k1,.int .i64 p1,.int .i64 m1,.int .u64 v1,.int .u64 u1,.slice none 0 0]] w fun e w'=>e =.returned (.tuple #[.agg #[.int .u64 0,.bool false,.slice none 0 0],.bool false])∧w'.heap[tb]? = some (.cells (eG (.slice ga n cap) a k1 p1 m1 v1 u1 true) 36)∧Only tb w w':=by
 unfold eG at hT ⊢
 have htl:=(Array.getElem?_eq_some_iff.1 hT).1
 obtain⟨W1,hW1⟩:∃W1,w.alloc (.cells #[.int .i64 k1,.int .i64 p1,.int .i64 m1,.int .u64 v1,.int .u64 u1,.slice none 0 0] 34)=W1:=⟨_,rfl⟩
 obtain⟨X,hX⟩:∃X,w.heap.size=X:=⟨_,rfl⟩
 have s1:W1.heap.size=X+1:=by rw[←hW1,←hX];simp
 have b1:Below X w W1:=by rw[←hW1,←hX];exact(Below.refl _ _).alloc (Nat.le_refl _) _
 have ra:W1.heap[X]? = some (.cells #[.int .i64 k1,.int .i64 p1,.int .i64 m1,.int .u64 v1,.int .u64 u1,.slice none 0 0] 34):=by rw[←hW1,←hX];exact aZ _ _
 obtain⟨W2,hW2⟩:∃W2,W1.alloc (.cells #[.int .u64 0,.bool false,.slice none 0 0] 51)=W2:=⟨_,rfl⟩
 have b2:Below X w W2:=by rw[←hW2];exact b1.alloc (by omega) _
 have r2:W2.heap[X+1]? = some (.cells #[.int .u64 0,.bool false,.slice none 0 0] 51):=by rw[←hW2,←s1];exact aZ _ _
 have Da:W2.heap[X]? = some (.cells #[.int .i64 k1,.int .i64 p1,.int .i64 m1,.int .u64 v1,.int .u64 u1,.slice none 0 0] 34):=by rw[←hW2];exact(Below.heap_alloc _ _ _ (by omega)).trans ra
 have nO:W2.heap[tb]? = _:=(b2.block tb (by omega)).trans hT
 obtain⟨c0,c1,c2,c3,c4,c5,c6,c7,c8,f1,f2,f3,f4,f5,f6,f7,f8⟩:=L8 nO
 have HT:=aC (aR nO (aR b2 (aR r2 (aR htl Da))))
 have q0:W2.cell? ⟨X+1,0,none⟩=some (.int .u64 0):=by simp[World.cell?,r2]
 have q1:W2.cell? ⟨X+1,1,none⟩=some (.bool false):=by simp[World.cell?,r2]
 have q2:W2.cell? ⟨X+1,2,none⟩=some (.slice none 0 0):=by simp[World.cell?,r2]
 have q3:W2.frozen? ⟨X+1,0,none⟩=false:=by simp[World.frozen?,r2]
 have q4:W2.frozen? ⟨X+1,1,none⟩=false:=by simp[World.frozen?,r2]
 have q5:W2.frozen? ⟨X+1,2,none⟩=false:=by simp[World.frozen?,r2]
 have z0:W2.cell? ⟨X,0,none⟩=some (.int .i64 k1):=by simp[World.cell?,Da]
 have z1:W2.cell? ⟨X,1,none⟩=some (.int .i64 p1):=by simp[World.cell?,Da]
 have z2:W2.cell? ⟨X,2,none⟩=some (.int .i64 m1):=by simp[World.cell?,Da]
 have z3:W2.cell? ⟨X,3,none⟩=some (.int .u64 v1):=by simp[World.cell?,Da]
 have z4:W2.cell? ⟨X,4,none⟩=some (.int .u64 u1):=by simp[World.cell?,Da]
 have z5:W2.cell? ⟨X,5,none⟩=some (.slice none 0 0):=by simp[World.cell?,Da]
 have hn1:¬(X+1=tb):=by omega
 have hn2:¬(tb=X+1):=by omega
 have hn3:¬(X=tb):=by omega
 have N8:¬(tb=X):=by omega
 clear b1 b2 nO hT r2 htl ra Da
 go_enter Tryz.func66,Tryz.ntmps66
 go_wp2
 go_quiet (fail)
 go_wp2
 obtain⟨nO,b2,r2,htl,Da⟩:=HT.out
 have t0:(W2.drewN nq).heap[tb]? = some (.cells #[.slice ga n cap,.int .i64 a,.int .i64 k,.int .i64 p,.int .i64 m,.int .u64 v,.int .u64 u,.slice none 0 0,.bool false] 36):=nO
 have t1:=(mo t0 (.int .i64 k1)).1
 have t2:=(mo t1 (.int .i64 p1)).2.1
 have t3:=(mo t2 (.int .i64 m1)).2.2.1
 have t4:=(mo t3 (.int .u64 v1)).2.2.2.1
 have t5:=(mo t4 (.int .u64 u1)).2.2.2.2.1
 have t6:=(mo t5 (.slice none 0 0)).2.2.2.2.2.1
 have t7:=(mo t6 (.bool true)).2.2.2.2.2.2
 obtain⟨W3,hW3⟩:∃W3,((((((((W2.drewN nq).setCell ⟨tb,2,none⟩ (.int .i64 k1)).setCell ⟨tb,3,none⟩ (.int .i64 p1)).setCell ⟨tb,4,none⟩ (.int .i64 m1)).setCell ⟨tb,5,none⟩ (.int .u64 v1)).setCell ⟨tb,6,none⟩ (.int .u64 u1)).setCell ⟨tb,7,none⟩ (.slice none 0 0)).setCell ⟨tb,8,none⟩ (.bool true))=W3:=⟨_,rfl⟩
 have o3:Only tb W2 W3:=by
  rw[←hW3]
  exact(Only.of_below (below_drewN nq (Below.refl _ W2))).trans (((((((Only.set _ _ _).trans (Only.set _ _ _)).trans (Only.set _ _ _)).trans (Only.set _ _ _)).trans (Only.set _ _ _)).trans (Only.set _ _ _)).trans (Only.set _ _ _))
 rw[hW3]at t7 ⊢
 have hz2:X+1<W2.heap.size:=(Array.getElem?_eq_some_iff.1 r2).1
 have r3:W3.heap[X+1]? = some (.cells #[.int .u64 0,.bool false,.slice none 0 0] 51):=(o3.block (X+1) hz2 hn1).trans r2
 have r4:=(uF (uF (uF r3 (.int .u64 0)).1 (.bool false)).2.1 (.slice none 0 0)).2.2
 obtain⟨W4,Bl⟩:∃W4,((W3.setCell ⟨X+1,0,none⟩ (.int .u64 0)).setCell ⟨X+1,1,none⟩ (.bool false)).setCell ⟨X+1,2,none⟩ (.slice none 0 0)=W4:=⟨_,rfl⟩
 have o4:Only (X+1) W3 W4:=by rw[←Bl];exact((Only.set _ _ _).trans (Only.set _ _ _)).trans (Only.set _ _ _)
 rw[Bl]at r4 ⊢
 have k0:W4.cell? ⟨X+1,0,none⟩=some (.int .u64 0):=by simp[World.cell?,r4]
 have k1':W4.cell? ⟨X+1,1,none⟩=some (.bool false):=by simp[World.cell?,r4]
 have k2:W4.cell? ⟨X+1,2,none⟩=some (.slice none 0 0):=by simp[World.cell?,r4]
 have ht3:tb<W3.heap.size:=(Array.getElem?_eq_some_iff.1 t7).1
 have o2:Only tb w W3:=(Only.of_below (hX▸b2)).trans o3
 clear t0 t1 t2 t3 t4 t5 t6 hW3 Bl
 refine bodyPost_ret (v :=.tuple #[.agg #[.int .u64 0,.bool false,.slice none 0 0],.bool false]) (by simp[results,Tryz.results66,go_sem,k0,k1',k2]) rfl ⟨rfl,?_,?_⟩
 ·exact(o4.block tb ht3 hn2).trans t7
 ·exact⟨o4.os.trans o2.os,o4.tape.trans o2.tape,o4.output.trans o2.output,Nat.le_trans o2.size o4.size,fun b hb hn=>(o4.block b (Nat.lt_of_lt_of_le hb o2.size) (by omega)).trans (o2.block b hb hn)⟩
theorem Lt (at_ wd:Int) (tb gb go n cap:Nat) (a k p m v u:Int) (V:Int) (dn:Bool) (ba:Option Addr) (bn bc:Nat) (ha:0≤a∧a<n) (hn:n≤1000000) (w:World) (hT:w.heap[tb]? = some (.cells (eG (.slice (some ⟨gb,go,none⟩) n cap) a k p m v u false) 36)) (hg:gb≠tb)
 (h0:w.cell? ⟨gb,go+a.toNat*3,none⟩=some (.int .u64 V)) (h1:w.cell? ⟨gb,go+a.toNat*3+1,none⟩=some (.bool dn)) (h2:w.cell? ⟨gb,go+a.toNat*3+2,none⟩=some (.slice ba bn bc)) :
 Calls Tryz.prog 39 #[.pointer (some ⟨tb,0,none⟩),.int .i64 at_,.int .i64 wd] w fun e w'=>e =.returned (.tuple #[.int .u64 V,.bool true])∧w'.heap[tb]? = some (.cells (eG (.slice (some ⟨gb,go,none⟩) n cap) (a+1) k p m v u false) 36)∧Only tb w w':=by
 have c:=yP tb gb go n cap a k p m v u 1 at_ wd 0 0 V dn ba bn bc ha hn w hT hg h0 h1 h2
 have htl:=(Array.getElem?_eq_some_iff.1 hT).1
 have HL:=aC htl
 clear hT h0 h1 h2 htl
 go_enter Tryz.func39,Tryz.ntmps39
 go_wp2_with (go_at_call 66;refine c.mono ?_;clear c;rintro e w1 ⟨rfl,hT1,rH⟩;have H1:=aC (aR hT1 rH);clear hT1 rH)
 go_ret2
 refine⟨rfl,?_,?_⟩
 ·exact(Below.heap_alloc _ _ _ (Array.getElem?_eq_some_iff.1 H1.out.1).1).trans H1.out.1
 ·exact H1.out.2.trans (Only.of_below ((Below.refl _ _).alloc (Nat.le_refl _) _))
theorem Ls (at_ wd:Int) (tb n cap:Nat) (ga:Option Addr) (a k p m v u:Int) (ha:a≥n) (w:World) (hT:w.heap[tb]? = some (.cells (eG (.slice ga n cap) a k p m v u false) 36)) :
 Calls Tryz.prog 39 #[.pointer (some ⟨tb,0,none⟩),.int .i64 at_,.int .i64 wd] w fun e w'=>e =.returned (.tuple #[.int .u64 0,.bool false])∧w'.heap[tb]? = some (.cells (eG (.slice ga n cap) a 1 at_ wd 0 0 true) 36)∧Only tb w w':=by
 have c:=yO tb n cap ga a k p m v u 1 at_ wd 0 0 ha w hT
 have htl:=(Array.getElem?_eq_some_iff.1 hT).1
 have HL:=aC htl
 clear hT htl
 go_enter Tryz.func39,Tryz.ntmps39
 go_wp2_with (go_at_call 66;refine c.mono ?_;clear c;rintro e w1 ⟨rfl,hT1,rH⟩;have H1:=aC (aR hT1 rH);clear hT1 rH)
 go_ret2
 refine⟨rfl,?_,?_⟩
 ·exact(Below.heap_alloc _ _ _ (Array.getElem?_eq_some_iff.1 H1.out.1).1).trans H1.out.1
 ·exact H1.out.2.trans (Only.of_below ((Below.refl _ _).alloc (Nat.le_refl _) _))
theorem GZ (at_ wd val:Int) (tb gb go n cap:Nat) (a k p m v u:Int) (V:Int) (dn:Bool) (ba:Option Addr) (bn bc:Nat) (ha:0≤a∧a<n) (hn:n≤1000000) (w:World) (hT:w.heap[tb]? = some (.cells (eG (.slice (some ⟨gb,go,none⟩) n cap) a k p m v u false) 36)) (hg:gb≠tb)
 (h0:w.cell? ⟨gb,go+a.toNat*3,none⟩=some (.int .u64 V)) (h1:w.cell? ⟨gb,go+a.toNat*3+1,none⟩=some (.bool dn)) (h2:w.cell? ⟨gb,go+a.toNat*3+2,none⟩=some (.slice ba bn bc)) :
 Calls Tryz.prog 76 #[.pointer (some ⟨tb,0,none⟩),.int .i64 at_,.int .i64 wd,.int .u64 val] w fun e w'=>e =.returned (.bool true)∧w'.heap[tb]? = some (.cells (eG (.slice (some ⟨gb,go,none⟩) n cap) (a+1) k p m v u false) 36)∧Only tb w w':=by
 have c:=yP tb gb go n cap a k p m v u 2 at_ wd val 0 V dn ba bn bc ha hn w hT hg h0 h1 h2
 have htl:=(Array.getElem?_eq_some_iff.1 hT).1
 have HL:=aC htl
 clear hT h0 h1 h2 htl
 go_enter Tryz.func76,Tryz.ntmps76
 go_wp2_with (go_at_call 66;refine c.mono ?_;clear c;rintro e w1 ⟨rfl,hT1,rH⟩;have H1:=aC (aR hT1 rH);clear hT1 rH)
 go_ret
 refine⟨rfl,?_,?_⟩
 ·exact(Below.heap_alloc _ _ _ (Array.getElem?_eq_some_iff.1 H1.out.1).1).trans H1.out.1
 ·exact H1.out.2.trans (Only.of_below ((Below.refl _ _).alloc (Nat.le_refl _) _))
theorem GY (at_ wd val:Int) (tb n cap:Nat) (ga:Option Addr) (a k p m v u:Int) (ha:a≥n) (w:World) (hT:w.heap[tb]? = some (.cells (eG (.slice ga n cap) a k p m v u false) 36)) :
 Calls Tryz.prog 76 #[.pointer (some ⟨tb,0,none⟩),.int .i64 at_,.int .i64 wd,.int .u64 val] w fun e w'=>e =.returned (.bool false)∧w'.heap[tb]? = some (.cells (eG (.slice ga n cap) a 2 at_ wd val 0 true) 36)∧Only tb w w':=by
 have c:=yO tb n cap ga a k p m v u 2 at_ wd val 0 ha w hT
 have htl:=(Array.getElem?_eq_some_iff.1 hT).1
 have HL:=aC htl
 clear hT htl
 go_enter Tryz.func76,Tryz.ntmps76
 go_wp2_with (go_at_call 66;refine c.mono ?_;clear c;rintro e w1 ⟨rfl,hT1,rH⟩;have H1:=aC (aR hT1 rH);clear hT1 rH)
 go_ret
 refine⟨rfl,?_,?_⟩
 ·exact(Below.heap_alloc _ _ _ (Array.getElem?_eq_some_iff.1 H1.out.1).1).trans H1.out.1
 ·exact H1.out.2.trans (Only.of_below ((Below.refl _ _).alloc (Nat.le_refl _) _))
end Go.Proofs.YtlaogoehmndcjaaGreatDoor.Sy
namespace Go.Base
open Go Pr
end Go.Base
namespace Go.Base
open Go Pr
end Go.Base
namespace Go.Base
open Go Pr
def at2 {A O:Type} (p:Pr A O) (l:List A) (q:Pr A O) (m:List A):Prop:=p.run l=q.run m∧p.left l=q.left m
theorem AP {A O:Type} (p:Pr A O) (l:List A):at2 p l p l:=⟨rfl,rfl⟩
theorem Q8 {A O:Type} {p:Pr A O} {l:List A} {o:O} {a:Acc} {k:A→Pr A O} {x:A} {m:List A} (h:at2 p l (.ask o a k) (x::m)):at2 p l (k x) m:=h
end Go.Base
namespace Go.Base
open Go Pr
section
variable {A O O':Type} {f:O→O'} {g:O→Pr A O'}
end
end Go.Base
namespace Go.Proofs.YtlaogoehmndcjaaGreatDoor.Sy
open Go RowKit Lib Base Pr Ba
def Rh (w:World) (tb:Nat) (ga:Option Addr) (L:List Mh):Prop:=∀(j:Nat) (x:Mh),L[j]? = some x→(0≤x.v∧x.v<18446744073709551616)∧∃gb go dn ba bn bc,ga=some ⟨gb,go,none⟩∧gb≠tb∧w.cell? ⟨gb,go+j*3,none⟩=some (.int .u64 x.v)∧w.cell? ⟨gb,go+j*3+1,none⟩=some (.bool dn)∧w.cell? ⟨gb,go+j*3+2,none⟩=some (.slice ba bn bc)
theorem Only.cell {tb:Nat} {w w':World} (h:Only tb w w') {b o:Nat} {v:Value} (hb:b≠tb) (hc:w.cell? ⟨b,o,none⟩=some v):w'.cell? ⟨b,o,none⟩=some v:=by
 have hlt:b<w.heap.size:=World.block_lt_of_cell? w _ hc
 have:=h.block b hlt hb
 unfold World.cell? at hc ⊢
 simp only at hc ⊢
 rw[this]
 exact hc
theorem Rh.only {w w':World} {tb:Nat} {ga:Option Addr} {L:List Mh} (h:Rh w tb ga L) (ho:Only tb w w'):Rh w' tb ga L:=by
 intro j x hj
 obtain⟨hv,gb,go,dn,ba,bn,bc,e,hne,h0,h1,h2⟩:=h j x hj
 exact⟨hv,gb,go,dn,ba,bn,bc,e,hne,ho.cell hne h0,ho.cell hne h1,ho.cell hne h2⟩
def VL (s:Value) (a:Int):Option Acc→Array Value
 | none=>eG s a 0 0 0 0 0 false
 | some c=>eG s a c.k c.at_ c.n c.v c.w true
structure Po (w:World) (tb:Nat) (ga:Option Addr) (cap:Nat) (L:List Mh) (a:Nat) (want:Option Acc):Prop where
 blk:w.heap[tb]? = some (.cells (VL (.slice ga L.length cap) a want) 36)
 row:Rh w tb ga L
 len:L.length≤1000
theorem Po.lt {w:World} {tb:Nat} {ga:Option Addr} {cap:Nat} {L:List Mh} {a:Nat} {want:Option Acc} (h:Po w tb ga cap L a want):tb<w.heap.size:=(Array.getElem?_eq_some_iff.1 h.blk).1
theorem Po.below {w w':World} {tb s:Nat} {ga:Option Addr} {cap:Nat} {L:List Mh} {a:Nat} {want:Option Acc} (h:Po w tb ga cap L a want) (hb:Below s w w') (hs:w.heap.size≤s):Po w' tb ga cap L a want :=
 ⟨(hb.block tb (Nat.lt_of_lt_of_le h.lt hs)).trans h.blk,h.row.only (Only.of_below (hb.mono hs)),h.len⟩
theorem Po.alloc {w:World} {tb:Nat} {ga:Option Addr} {cap:Nat} {L:List Mh} {a:Nat} {want:Option Acc} (h:Po w tb ga cap L a want) (o:Obj):Po (w.alloc o) tb ga cap L a want :=
 h.below ((Below.refl _ _).alloc (Nat.le_refl _) o) (Nat.le_refl _)
def RY (w w':World) (tb:Nat) (ga:Option Addr) (cap:Nat) (L:List Mh) (a:Nat) (want:Option Acc):Prop:=Po w' tb ga cap L a want∧Only tb w w'
theorem RY.trans {w w' w'':World} {tb:Nat} {ga:Option Addr} {cap:Nat} {L:List Mh} {a a':Nat} {want want':Option Acc} (h:RY w w' tb ga cap L a want) (k:RY w' w'' tb ga cap L a' want'):RY w w'' tb ga cap L a' want':=⟨k.1,h.2.trans k.2⟩
theorem RY.below {w w' w'':World} {tb s:Nat} {ga:Option Addr} {cap:Nat} {L:List Mh} {a:Nat} {want:Option Acc} (h:RY w w' tb ga cap L a want) (hb:Below s w' w'') (hs:w'.heap.size≤s):RY w w'' tb ga cap L a want:=⟨h.1.below hb hs,h.2.trans (Only.of_below (hb.mono hs))⟩
theorem Po.refl {w:World} {tb:Nat} {ga:Option Addr} {cap:Nat} {L:List Mh} {a:Nat} {want:Option Acc} (h:Po w tb ga cap L a want):RY w w tb ga cap L a want:=⟨h,Only.of_below (Below.refl _ _)⟩
section
variable {w:World} {tb:Nat} {ga:Option Addr} {cap:Nat} {L l:List Mh} {a:Nat} {x:Mh}
end
