import Derived.Test.YtlaogoehmndcjaaGreatDoorZ17
import Derived.Test.YtlaogoehmndcjaaGreatDoorZ15
set_option maxRecDepth 1000000
set_option maxHeartbeats 3200000
set_option linter.unusedSectionVars false
set_option linter.unusedVariables false
set_option linter.unusedSimpArgs false
namespace Go.Proofs.YtlaogoehmndcjaaGreatDoor.Sy
open Go RowKit Lib Base Ba
def uC (told:Value) (a k p n v w:Int) (b:Value) (ends:Bool):Array Value :=#[told,.int .i64 a,.int .i64 k,.int .i64 p,.int .i64 n,.int .u64 v,.int .u64 w,b,.bool ends]
theorem OH (tb gb go n cap:Nat) (a k p m v u:Int) (k1 p1 m1 v1 u1 V:Int) (ea:Option Addr) (en ec:Nat) (dn:Bool) (ba:Option Addr) (bn bc:Nat) (ha:0≤a∧a<n) (hn:n≤1000000) (w:World) (hT:w.heap[tb]? = some (.cells (eG (.slice (some ⟨gb,go,none⟩) n cap) a k p m v u false) 36)) (hg:gb≠tb)
 (h0:w.cell? ⟨gb,go+a.toNat*3,none⟩=some (.int .u64 V)) (h1:w.cell? ⟨gb,go+a.toNat*3+1,none⟩=some (.bool dn)) (h2:w.cell? ⟨gb,go+a.toNat*3+2,none⟩=some (.slice ba bn bc)) :
 Calls Tryz.prog 66 #[.pointer (some ⟨tb,0,none⟩),.agg #[.int .i64 k1,.int .i64 p1,.int .i64 m1,.int .u64 v1,.int .u64 u1,.slice ea en ec]] w fun e w'=>e =.returned (.tuple #[.agg #[.int .u64 V,.bool dn,.slice ba bn bc],.bool true])∧w'.heap[tb]? = some (.cells (eG (.slice (some ⟨gb,go,none⟩) n cap) (a+1) k p m v u false) 36)∧Only tb w w':=by
 unfold eG at hT ⊢
 obtain⟨A,rfl⟩:∃A:Nat,a=A:=⟨a.toNat,by omega⟩
 rw[Int.toNat_natCast]at h0 h1 h2
 have hA:¬(A:Int)≥n:=by omega
 have hAn:(A:Int)<n:=by omega
 have e1:wrap64 ((A:Int)+1)=(A:Int)+1:=IntWalk.wrap64_in _ (by omega)
 have e2:wrap64 ((A:Int)+1-1)=(A:Int):=(IntWalk.wrap64_in _ (by omega)).trans (by omega)
 have e3:wrap64 (A:Int)=(A:Int):=IntWalk.wrap64_in _ (by omega)
 have e4:IntKind.i64.wrap (A:Int)=(A:Int):=wrap_small _ (by omega) (by omega)
 have RI:(0:Int)≤(A:Int):=by omega
 have htl:=(Array.getElem?_eq_some_iff.1 hT).1
 have hgl:gb<w.heap.size:=World.block_lt_of_cell? w _ h0
 obtain⟨W1,hW1⟩:∃W1,w.alloc (.cells #[.int .i64 k1,.int .i64 p1,.int .i64 m1,.int .u64 v1,.int .u64 u1,.slice ea en ec] 34)=W1:=⟨_,rfl⟩
 obtain⟨X,hX⟩:∃X,w.heap.size=X:=⟨_,rfl⟩
 have s1:W1.heap.size=X+1:=by rw[←hW1,←hX];simp
 have b1:Below X w W1:=by rw[←hW1,←hX];exact(Below.refl _ _).alloc (Nat.le_refl _) _
 obtain⟨W2,hW2⟩:∃W2,W1.alloc (.cells #[.int .u64 0,.bool false,.slice none 0 0] 51)=W2:=⟨_,rfl⟩
 have b2:Below X w W2:=by rw[←hW2];exact b1.alloc (by omega) _
 have r2:W2.heap[X+1]? = some (.cells #[.int .u64 0,.bool false,.slice none 0 0] 51):=by rw[←hW2,←s1];exact aZ _ _
 have nO:W2.heap[tb]? = _:=(b2.block tb (by omega)).trans hT
 obtain⟨c0,c1,c2,c3,c4,c5,c6,c7,c8,f1,f2,f3,f4,f5,f6,f7,f8⟩:=L8 nO
 have HT:=aC (aR nO (aR b2 (aR r2 (aR htl (aR hgl (aR h0 (aR h1 (aR h2 hg))))))))
 clear b1 b2 nO hT h0 h1 h2 r2 htl hgl ha hn hg
 go_enter Tryz.func66,Tryz.ntmps66
 go_wp2
 go_quiet (fail)
 go_wp2
 obtain⟨nO,b2,r2,htl,hgl,h0,h1,h2,hg⟩:=HT.out
 obtain⟨W3,hW3⟩:∃W3,(W2.drewN nq).setCell ⟨tb,1,none⟩ (.int .i64 ((A:Int)+1))=W3:=⟨_,rfl⟩
 have II:W3.heap[tb]? = some (.cells #[.slice (some ⟨gb,go,none⟩) n cap,.int .i64 ((A:Int)+1),.int .i64 k,.int .i64 p,.int .i64 m,.int .u64 v,.int .u64 u,.slice none 0 0,.bool false] 36):=by
  rw[←hW3]
  obtain⟨hlt,hk⟩:=Array.getElem?_eq_some_iff.1 nO
  show(W2.heap.modify tb _)[tb]? = _
  rw[Array.getElem?_eq_getElem (by rw[Array.size_modify];exact hlt),Array.getElem_modify_self,hk]
  rfl
 have b3:Only tb W2 W3:=by rw[←hW3];exact(Only.of_below (below_drewN nq (Below.refl _ W2))).trans (Only.set _ _ _)
 obtain⟨d0,d1,d2,d3,d4,d5,d6,d7,d8,_⟩:=L8 II
 have hz2:X+1<W2.heap.size:=(Array.getElem?_eq_some_iff.1 r2).1
 have hgb:W3.heap[gb]? = w.heap[gb]? :=(b3.block gb (by omega) hg).trans (b2.block gb (by omega))
 have g0:W3.cell? ⟨gb,go+A*3,none⟩=some (.int .u64 V):=by simp only[World.cell?]at h0 ⊢;rw[hgb];exact h0
 have g1:W3.cell? ⟨gb,go+A*3+1,none⟩=some (.bool dn):=by simp only[World.cell?]at h1 ⊢;rw[hgb];exact h1
 have g2:W3.cell? ⟨gb,go+A*3+2,none⟩=some (.slice ba bn bc):=by simp only[World.cell?]at h2 ⊢;rw[hgb];exact h2
 have r3:W3.heap[X+1]? = _:=(b3.block (X+1) hz2 (by omega)).trans r2
 have o3:Only tb w W3:=(Only.of_below (hX▸b2)).trans b3
 have H3:=aC (aR II (aR o3 r3))
 have q0:W3.cell? ⟨X+1,0,none⟩=some (.int .u64 0):=by simp[World.cell?,r3]
 have q1:W3.cell? ⟨X+1,1,none⟩=some (.bool false):=by simp[World.cell?,r3]
 have q2:W3.cell? ⟨X+1,2,none⟩=some (.slice none 0 0):=by simp[World.cell?,r3]
 have q3:W3.frozen? ⟨X+1,0,none⟩=false:=by simp[World.frozen?,r3]
 have q4:W3.frozen? ⟨X+1,1,none⟩=false:=by simp[World.frozen?,r3]
 have q5:W3.frozen? ⟨X+1,2,none⟩=false:=by simp[World.frozen?,r3]
 rw[hW3]
 clear nO b2 r2 h0 h1 h2 b3 II hgb r3 o3 c0 c1 c2 c3 c4 c5 c6 c7 c8 f1 f2 f3 f4 f5 f6 f7 f8 hW3 hW2 hW1
 go_region
 go_wp2
 have hne:tb≠X+1:=by omega
 have r4:=VQ H3.out.2.2 (.int .u64 V) (.bool dn) (.slice ba bn bc)
 obtain⟨W4,Bl⟩:∃W4,(((W3.setCell ⟨X+1,0,none⟩ (.int .u64 V)).setCell ⟨X+1,1,none⟩ (.bool dn)).setCell ⟨X+1,2,none⟩ (.slice ba bn bc)).drew=W4:=⟨_,rfl⟩
 have o4:Only (X+1) W3 W4:=by rw[←Bl];exact(((Only.set _ _ _).trans (Only.set _ _ _)).trans (Only.set _ _ _)).trans (Only.of_below (Below.drew (Below.refl _ _)))
 rw[Bl]at r4 ⊢
 have k0:W4.cell? ⟨X+1,0,none⟩=some (.int .u64 V):=by simp[World.cell?,r4]
 have k1':W4.cell? ⟨X+1,1,none⟩=some (.bool dn):=by simp[World.cell?,r4]
 have k2:W4.cell? ⟨X+1,2,none⟩=some (.slice ba bn bc):=by simp[World.cell?,r4]
 have ht3:tb<W3.heap.size:=(Array.getElem?_eq_some_iff.1 H3.out.1).1
 refine bodyPost_ret (v :=.tuple #[.agg #[.int .u64 V,.bool dn,.slice ba bn bc],.bool true]) (by simp[results,Tryz.results66,go_sem,k0,k1',k2]) rfl ⟨rfl,?_,?_⟩
 ·exact(o4.block tb ht3 hne).trans H3.out.1
 ·have o3:=H3.out.2.1
  exact⟨o4.os.trans o3.os,o4.tape.trans o3.tape,o4.output.trans o3.output,Nat.le_trans o3.size o4.size,fun b hb hn=>(o4.block b (Nat.lt_of_lt_of_le hb o3.size) (by omega)).trans (o3.block b hb hn)⟩
theorem OG (tb n cap:Nat) (ga:Option Addr) (a k p m v u:Int) (k1 p1 m1 v1 u1:Int) (ea:Option Addr) (en ec:Nat) (ha:a≥n) (w:World) (hT:w.heap[tb]? = some (.cells (eG (.slice ga n cap) a k p m v u false) 36)) :
 Calls Tryz.prog 66 #[.pointer (some ⟨tb,0,none⟩),.agg #[.int .i64 k1,.int .i64 p1,.int .i64 m1,.int .u64 v1,.int .u64 u1,.slice ea en ec]] w fun e w'=>e =.returned (.tuple #[.agg #[.int .u64 0,.bool false,.slice none 0 0],.bool false])∧w'.heap[tb]? = some (.cells (uC (.slice ga n cap) a k1 p1 m1 v1 u1 (.slice ea en ec) true) 36)∧Only tb w w':=by
 unfold eG at hT
 unfold uC
 have htl:=(Array.getElem?_eq_some_iff.1 hT).1
 obtain⟨W1,hW1⟩:∃W1,w.alloc (.cells #[.int .i64 k1,.int .i64 p1,.int .i64 m1,.int .u64 v1,.int .u64 u1,.slice ea en ec] 34)=W1:=⟨_,rfl⟩
 obtain⟨X,hX⟩:∃X,w.heap.size=X:=⟨_,rfl⟩
 have s1:W1.heap.size=X+1:=by rw[←hW1,←hX];simp
 have b1:Below X w W1:=by rw[←hW1,←hX];exact(Below.refl _ _).alloc (Nat.le_refl _) _
 have ra:W1.heap[X]? = some (.cells #[.int .i64 k1,.int .i64 p1,.int .i64 m1,.int .u64 v1,.int .u64 u1,.slice ea en ec] 34):=by rw[←hW1,←hX];exact aZ _ _
 obtain⟨W2,hW2⟩:∃W2,W1.alloc (.cells #[.int .u64 0,.bool false,.slice none 0 0] 51)=W2:=⟨_,rfl⟩
 have b2:Below X w W2:=by rw[←hW2];exact b1.alloc (by omega) _
 have r2:W2.heap[X+1]? = some (.cells #[.int .u64 0,.bool false,.slice none 0 0] 51):=by rw[←hW2,←s1];exact aZ _ _
 have Da:W2.heap[X]? = some (.cells #[.int .i64 k1,.int .i64 p1,.int .i64 m1,.int .u64 v1,.int .u64 u1,.slice ea en ec] 34):=by rw[←hW2];exact(Below.heap_alloc _ _ _ (by omega)).trans ra
 have nO:W2.heap[tb]? = _:=(b2.block tb (by omega)).trans hT
 obtain⟨c0,c1,c2,c3,c4,c5,c6,c7,c8,f1,f2,f3,f4,f5,f6,f7,f8⟩:=L8 nO
 have HT:=aC (aR nO (aR b2 (aR r2 (aR htl Da))))
 have q0:W2.cell? ⟨X+1,0,none⟩=some (.int .u64 0):=by simp[World.cell?,r2]
 have q1:W2.cell? ⟨X+1,1,none⟩=some (.bool false):=by simp[World.cell?,r2]
 have q2:W2.cell? ⟨X+1,2,none⟩=some (.slice none 0 0):=by simp[World.cell?,r2]
 have q3:W2.frozen? ⟨X+1,0,none⟩=false:=by simp[World.frozen?,r2]
 have q4:W2.frozen? ⟨X+1,1,none⟩=false:=by simp[World.frozen?,r2]
 have q5:W2.frozen? ⟨X+1,2,none⟩=false:=by simp[World.frozen?,r2]
 have z0:W2.cell? ⟨X,0,none⟩=some (.int .i64 k1):=by simp[World.cell?,Da]
 have z1:W2.cell? ⟨X,1,none⟩=some (.int .i64 p1):=by simp[World.cell?,Da]
 have z2:W2.cell? ⟨X,2,none⟩=some (.int .i64 m1):=by simp[World.cell?,Da]
 have z3:W2.cell? ⟨X,3,none⟩=some (.int .u64 v1):=by simp[World.cell?,Da]
 have z4:W2.cell? ⟨X,4,none⟩=some (.int .u64 u1):=by simp[World.cell?,Da]
 have z5:W2.cell? ⟨X,5,none⟩=some (.slice ea en ec):=by simp[World.cell?,Da]
 have hn1:¬(X+1=tb):=by omega
 have hn2:¬(tb=X+1):=by omega
 have hn3:¬(X=tb):=by omega
 have N8:¬(tb=X):=by omega
 clear b1 b2 nO hT r2 htl ra Da
 go_enter Tryz.func66,Tryz.ntmps66
 go_wp2
 go_quiet (fail)
 go_wp2
 obtain⟨nO,b2,r2,htl,Da⟩:=HT.out
 have t0:(W2.drewN nq).heap[tb]? = some (.cells #[.slice ga n cap,.int .i64 a,.int .i64 k,.int .i64 p,.int .i64 m,.int .u64 v,.int .u64 u,.slice none 0 0,.bool false] 36):=nO
 have t1:=(mo t0 (.int .i64 k1)).1
 have t2:=(mo t1 (.int .i64 p1)).2.1
 have t3:=(mo t2 (.int .i64 m1)).2.2.1
 have t4:=(mo t3 (.int .u64 v1)).2.2.2.1
 have t5:=(mo t4 (.int .u64 u1)).2.2.2.2.1
 have t6:=(mo t5 (.slice ea en ec)).2.2.2.2.2.1
 have t7:=(mo t6 (.bool true)).2.2.2.2.2.2
 obtain⟨W3,hW3⟩:∃W3,((((((((W2.drewN nq).setCell ⟨tb,2,none⟩ (.int .i64 k1)).setCell ⟨tb,3,none⟩ (.int .i64 p1)).setCell ⟨tb,4,none⟩ (.int .i64 m1)).setCell ⟨tb,5,none⟩ (.int .u64 v1)).setCell ⟨tb,6,none⟩ (.int .u64 u1)).setCell ⟨tb,7,none⟩ (.slice ea en ec)).setCell ⟨tb,8,none⟩ (.bool true))=W3:=⟨_,rfl⟩
 have o3:Only tb W2 W3:=by
  rw[←hW3]
  exact(Only.of_below (below_drewN nq (Below.refl _ W2))).trans (((((((Only.set _ _ _).trans (Only.set _ _ _)).trans (Only.set _ _ _)).trans (Only.set _ _ _)).trans (Only.set _ _ _)).trans (Only.set _ _ _)).trans (Only.set _ _ _))
 rw[hW3]at t7 ⊢
 have hz2:X+1<W2.heap.size:=(Array.getElem?_eq_some_iff.1 r2).1
 have r3:W3.heap[X+1]? = some (.cells #[.int .u64 0,.bool false,.slice none 0 0] 51):=(o3.block (X+1) hz2 hn1).trans r2
 have r4:=(uF (uF (uF r3 (.int .u64 0)).1 (.bool false)).2.1 (.slice none 0 0)).2.2
 obtain⟨W4,Bl⟩:∃W4,((W3.setCell ⟨X+1,0,none⟩ (.int .u64 0)).setCell ⟨X+1,1,none⟩ (.bool false)).setCell ⟨X+1,2,none⟩ (.slice none 0 0)=W4:=⟨_,rfl⟩
 have o4:Only (X+1) W3 W4:=by rw[←Bl];exact((Only.set _ _ _).trans (Only.set _ _ _)).trans (Only.set _ _ _)
 rw[Bl]at r4 ⊢
 have k0:W4.cell? ⟨X+1,0,none⟩=some (.int .u64 0):=by simp[World.cell?,r4]
 have k1':W4.cell? ⟨X+1,1,none⟩=some (.bool false):=by simp[World.cell?,r4]
 have k2:W4.cell? ⟨X+1,2,none⟩=some (.slice none 0 0):=by simp[World.cell?,r4]
 have ht3:tb<W3.heap.size:=(Array.getElem?_eq_some_iff.1 t7).1
 have o2:Only tb w W3:=(Only.of_below (hX▸b2)).trans o3
 clear t0 t1 t2 t3 t4 t5 t6 hW3 Bl
 refine bodyPost_ret (v :=.tuple #[.agg #[.int .u64 0,.bool false,.slice none 0 0],.bool false]) (by simp[results,Tryz.results66,go_sem,k0,k1',k2]) rfl ⟨rfl,?_,?_⟩
 ·exact(o4.block tb ht3 hn2).trans t7
 ·exact⟨o4.os.trans o2.os,o4.tape.trans o2.tape,o4.output.trans o2.output,Nat.le_trans o2.size o4.size,fun b hb hn=>(o4.block b (Nat.lt_of_lt_of_le hb o2.size) (by omega)).trans (o2.block b hb hn)⟩
theorem Pg (at_ val:Int) (tb gb go n cap:Nat) (a k p m v u:Int) (V:Int) (dn:Bool) (ba:Option Addr) (bn bc:Nat) (ha:0≤a∧a<n) (hn:n≤1000000) (w:World) (hT:w.heap[tb]? = some (.cells (eG (.slice (some ⟨gb,go,none⟩) n cap) a k p m v u false) 36)) (hg:gb≠tb)
 (h0:w.cell? ⟨gb,go+a.toNat*3,none⟩=some (.int .u64 V)) (h1:w.cell? ⟨gb,go+a.toNat*3+1,none⟩=some (.bool dn)) (h2:w.cell? ⟨gb,go+a.toNat*3+2,none⟩=some (.slice ba bn bc)) :
 Calls Tryz.prog 110 #[.pointer (some ⟨tb,0,none⟩),.int .i64 at_,.int .u64 val] w fun e w'=>e =.returned (.tuple #[.int .u64 V,.bool true])∧w'.heap[tb]? = some (.cells (eG (.slice (some ⟨gb,go,none⟩) n cap) (a+1) k p m v u false) 36)∧Only tb w w':=by
 have c:=yP tb gb go n cap a k p m v u 3 at_ 8 val 0 V dn ba bn bc ha hn w hT hg h0 h1 h2
 have htl:=(Array.getElem?_eq_some_iff.1 hT).1
 have HL:=aC htl
 clear hT h0 h1 h2 htl
 go_enter Tryz.func110,Tryz.ntmps110
 go_wp2_with (go_at_call 66;refine c.mono ?_;clear c;rintro e w1 ⟨rfl,hT1,rH⟩;have H1:=aC (aR hT1 rH);clear hT1 rH)
 go_ret2
 refine⟨rfl,?_,?_⟩
 ·exact(Below.heap_alloc _ _ _ (Array.getElem?_eq_some_iff.1 H1.out.1).1).trans H1.out.1
 ·exact H1.out.2.trans (Only.of_below ((Below.refl _ _).alloc (Nat.le_refl _) _))
theorem Pf (at_ val:Int) (tb n cap:Nat) (ga:Option Addr) (a k p m v u:Int) (ha:a≥n) (w:World) (hT:w.heap[tb]? = some (.cells (eG (.slice ga n cap) a k p m v u false) 36)) :
 Calls Tryz.prog 110 #[.pointer (some ⟨tb,0,none⟩),.int .i64 at_,.int .u64 val] w fun e w'=>e =.returned (.tuple #[.int .u64 0,.bool false])∧w'.heap[tb]? = some (.cells (eG (.slice ga n cap) a 3 at_ 8 val 0 true) 36)∧Only tb w w':=by
 have c:=yO tb n cap ga a k p m v u 3 at_ 8 val 0 ha w hT
 have htl:=(Array.getElem?_eq_some_iff.1 hT).1
 have HL:=aC htl
 clear hT htl
 go_enter Tryz.func110,Tryz.ntmps110
 go_wp2_with (go_at_call 66;refine c.mono ?_;clear c;rintro e w1 ⟨rfl,hT1,rH⟩;have H1:=aC (aR hT1 rH);clear hT1 rH)
 go_ret2
 refine⟨rfl,?_,?_⟩
 ·exact(Below.heap_alloc _ _ _ (Array.getElem?_eq_some_iff.1 H1.out.1).1).trans H1.out.1
 ·exact H1.out.2.trans (Only.of_below ((Below.refl _ _).alloc (Nat.le_refl _) _))
theorem O0 (at_ wd old val:Int) (tb gb go n cap:Nat) (a k p m v u:Int) (V:Int) (dn:Bool) (ba:Option Addr) (bn bc:Nat) (ha:0≤a∧a<n) (hn:n≤1000000) (w:World) (hT:w.heap[tb]? = some (.cells (eG (.slice (some ⟨gb,go,none⟩) n cap) a k p m v u false) 36)) (hg:gb≠tb)
 (h0:w.cell? ⟨gb,go+a.toNat*3,none⟩=some (.int .u64 V)) (h1:w.cell? ⟨gb,go+a.toNat*3+1,none⟩=some (.bool dn)) (h2:w.cell? ⟨gb,go+a.toNat*3+2,none⟩=some (.slice ba bn bc)) :
 Calls Tryz.prog 202 #[.pointer (some ⟨tb,0,none⟩),.int .i64 at_,.int .i64 wd,.int .u64 old,.int .u64 val] w fun e w'=>e =.returned (.tuple #[.bool dn,.bool true])∧w'.heap[tb]? = some (.cells (eG (.slice (some ⟨gb,go,none⟩) n cap) (a+1) k p m v u false) 36)∧Only tb w w':=by
 have c:=yP tb gb go n cap a k p m v u 4 at_ wd old val V dn ba bn bc ha hn w hT hg h0 h1 h2
 have htl:=(Array.getElem?_eq_some_iff.1 hT).1
 have HL:=aC htl
 clear hT h0 h1 h2 htl
 go_enter Tryz.func202,Tryz.ntmps202
 go_wp2_with (go_at_call 66;refine c.mono ?_;clear c;rintro e w1 ⟨rfl,hT1,rH⟩;have H1:=aC (aR hT1 rH);clear hT1 rH)
 go_ret2
 refine⟨rfl,?_,?_⟩
 ·exact(Below.heap_alloc _ _ _ (Array.getElem?_eq_some_iff.1 H1.out.1).1).trans H1.out.1
 ·exact H1.out.2.trans (Only.of_below ((Below.refl _ _).alloc (Nat.le_refl _) _))
theorem OZ (at_ wd old val:Int) (tb n cap:Nat) (ga:Option Addr) (a k p m v u:Int) (ha:a≥n) (w:World) (hT:w.heap[tb]? = some (.cells (eG (.slice ga n cap) a k p m v u false) 36)) :
 Calls Tryz.prog 202 #[.pointer (some ⟨tb,0,none⟩),.int .i64 at_,.int .i64 wd,.int .u64 old,.int .u64 val] w fun e w'=>e =.returned (.tuple #[.bool false,.bool false])∧w'.heap[tb]? = some (.cells (eG (.slice ga n cap) a 4 at_ wd old val true) 36)∧Only tb w w':=by
 have c:=yO tb n cap ga a k p m v u 4 at_ wd old val ha w hT
 have htl:=(Array.getElem?_eq_some_iff.1 hT).1
 have HL:=aC htl
 clear hT htl
 go_enter Tryz.func202,Tryz.ntmps202
 go_wp2_with (go_at_call 66;refine c.mono ?_;clear c;rintro e w1 ⟨rfl,hT1,rH⟩;have H1:=aC (aR hT1 rH);clear hT1 rH)
 go_ret2
 refine⟨rfl,?_,?_⟩
 ·exact(Below.heap_alloc _ _ _ (Array.getElem?_eq_some_iff.1 H1.out.1).1).trans H1.out.1
 ·exact H1.out.2.trans (Only.of_below ((Below.refl _ _).alloc (Nat.le_refl _) _))
end Go.Proofs.YtlaogoehmndcjaaGreatDoor.Sy
namespace Go.Base
open Go Pr
structure An where
 v:Int
 dn:Bool
structure jU where
 part:Int
 term:Int
 off:Int
 size:Int
def bW:jU:=⟨0,0,0,0⟩
structure Ot where
 s:jU
 has:Bool
 pos:Int
 e:Int
def rO (at_ v:Int):Acc:=⟨3,at_,8,v,0,[]⟩
def Ed (at_ n old v:Int):Acc:=⟨4,at_,n,old,v,[]⟩
def yX (at_:Int) (b:List Nat):Acc:=⟨6,at_,b.length,0,0,b⟩
def fF:Ot:=⟨bW,false,0,10⟩
def aS (s:jU):Ot:=⟨s,true,0,10⟩
def aU (n:Int):Int:=(n+32+31)/32*32
def pack (t off:Int):Int:=u32 t*4294967296+off
def qZ (len flags typ:Int):Int:=u32 len+4294967296*(256*flags+65536*typ)
def Ui (l:cO) (off:Int):Int:=u32 off+4294967296*u32 l.dQ
def Uh (l:cO) (term:Int):Int:=u32 l.str+4294967296*u32 term
def nM (l:cO) (o:Ot) (at_ len flags typ off term:Int) (k:Pr An Ot):Pr An Ot :=
 .ask o (store at_ 8 (qZ (-len) flags typ)) fun _ =>
 .ask o (store (at_+8) 8 (Ui l off)) fun _ =>
 .ask o (store (at_+16) 8 (Uh l term)) fun _ =>
 .ask o (store (at_+24) 8 0) fun _=>k
def inT (o:Ot) (k:Pr An Ot):Nat→Int→List Nat→Pr An Ot
 | 0,_,_=>k
 | f+1,at_,b=>if b=[]then k else .ask o (yX at_ (b.take 8)) fun _=>inT o k f (at_+8) (b.drop 8)
def frameT (l:cO) (o:Ot) (at_ len flags typ off term:Int) (b:List Nat) (k:Pr An Ot):Pr An Ot :=
 nM l o at_ len flags typ off term (inT o (.ask o (store at_ 4 len) fun _=>k) 200 (at_+32) b)
def xQ (l:cO) (o:Ot) (count:Int) (fin:Int→Pr An Ot):Pr An Ot :=.ask o (Ed (l.M+24) 4 count (count+1)) fun _=>fin 0
def uJ (l:cO) (o:Ot) (term count:Int) (fin:Int→Pr An Ot):Nat→Pr An Ot
 | 0=>fin 0
 | f+1 => .ask o (load (l.fu ((count+1)%3)) 8) fun x =>
    if bF (x.v/4294967296)≠bF (term+1-3)then xQ l o count fin
    else .ask o (Ed (l.fu ((count+1)%3)) 8 x.v (pack (bF (term+1)) 0)) fun y=>if y.dn then xQ l o count fin else uJ l o term count fin f
def ER (l:cO) (o:Ot) (term:Int) (fin:Int→Pr An Ot):Pr An Ot :=
 if u32 (term-l.bG)+1≥2147483648 then fin 7
 else .ask o (load (l.M+40) 8) fun x=>if iK x.v<u32 (term-l.bG)-1 then fin 5 else uJ l o term (u32 (term-l.bG)) fin 1000
def dh (l:cO) (s:jU):Pr An Ot:=ER l (aS s) s.term fun e => .done ⟨s,true,0,if e=0∨e=5 then 6 else e⟩
def yA (l:cO) (need:Int) (fin:Int→Pr An Ot):Pr An Ot :=
 .ask fF (load (l.M+32) 8) fun limit => .ask fF (load (l.M+24) 4) fun c =>
  .ask fF (load (l.fu (u32 c.v%3)) 8) fun raw =>
   if u32 (bF (raw.v/4294967296)-l.bG)≠u32 c.v then .done ⟨bW,false,0,6⟩
   else if u32 c.v≥2147483648 then .done ⟨bW,false,0,7⟩
   else if u32 c.v*l.term+min (raw.v%4294967296) l.term<iK limit.v then fin (u32 c.v)
   else if u32 c.v*l.term+min (raw.v%4294967296) l.term+need>l.term*2147483648 then .done ⟨bW,false,0,7⟩
   else .done ⟨bW,false,0,5⟩
def fI (l:cO) (s:jU):Int:=u32 (s.term-l.bG)*l.term+s.off+s.size
def jC (part need:Int) (raw:Int):jU:=⟨part,bF (raw/4294967296),raw%4294967296,need⟩
def framesT (l:cO) (s:jU):Nat→Bool→Int→List Nat→Pr An Ot
 | 0,_,_,_ => .done ⟨s,true,fI l s,0⟩
 | f+1,first,off,b =>
   if (b.length:Int)≤l.aV then frameT l (aS s) (l.partAt s.part+off) (32+b.length) ((if first then 128 else 0)+64) 1 off s.term b (.done ⟨s,true,fI l s,0⟩)
   else frameT l (aS s) (l.partAt s.part+off) (32+l.aV) (if first then 128 else 0) 1 off s.term (b.take l.aV.toNat) (framesT l s f false (off+aU l.aV) (b.drop l.aV.toNat))
def eO (l:cO) (s:jU) (k:Pr An Ot):Pr An Ot :=
 if s.off<l.term then frameT l (aS s) (l.partAt s.part+s.off) (l.term-s.off) 0 0 s.off s.term [] k else k
def bB (l:cO):Nat→Int→Int
 | 0,n=>aU n
 | f+1,n=>if n>l.aV then aU l.aV+bB l f (n-l.aV)else aU n
def fZ (l:cO) (b:List Nat):Pr An Ot :=
 if ¬l.ok then .done ⟨bW,false,0,1⟩
 else if (b.length:Int)>l.term/8 then .done ⟨bW,false,0,4⟩
 else yA l (bB l 40 b.length) fun count => .ask fF (rO (l.fu (count%3)) (bB l 40 b.length)) fun raw =>
  let s:=jC (count%3) (bB l 40 b.length) raw.v
  if s.off+s.size>l.term then eO l s (dh l s)else framesT l s 40 true s.off b
def eD (l:cO) (b:List Nat) (Us:Bool):Pr An Ot :=
 if ¬l.ok then .done ⟨bW,false,0,1⟩
 else if (b.length:Int)>l.aV then .done ⟨bW,false,0,4⟩
 else yA l (aU b.length) fun count => .ask fF (rO (l.fu (count%3)) (aU b.length)) fun raw =>
  let s:=jC (count%3) (aU b.length) raw.v
  if s.off+s.size>l.term then eO l s (dh l s)
  else
   let at_:=l.partAt s.part+s.off
   let fin:Pr An Ot :=.ask (aS s) (store at_ 4 (32+b.length)) fun _ => .done ⟨s,true,fI l s,0⟩
   nM l (aS s) at_ (32+b.length) 192 1 s.off s.term (inT (aS s) (if Us then fin else .ask (aS s) (store (at_+4) 4 49152) fun _=>fin) 200 (at_+32) b)
structure gz where
 kind:Int
 data:List Nat
def iO (l:cO) (o:gz):Pr An Ot :=
 if o.kind=0 then fZ l o.data else if o.kind=1∨o.kind=2 then eD l o.data (o.kind=1)else .done ⟨bW,false,0,1⟩
structure ng where
 pos:Int
 e:Int
 tries:Int
 s:jU
 has:Bool
structure rD where
 sent:List ng
 s:jU
 has:Bool
def fq (l:cO):Nat→List gz→Int→Int→List ng→Pr An rD
 | 0,_,_,_,out => .done ⟨out,bW,false⟩
 | _+1,[],_,_,out => .done ⟨out,bW,false⟩
 | f+1,o::ops,tries,n,out=>(iO l o).bind (fun w=>⟨out,w.s,w.has⟩) fun w =>
    if (w.e=5∨w.e=6)∧tries>0 then fq l f (o::ops) (tries-1) (n+1) out
    else fq l f ops tries 1 (out++[⟨w.pos,w.e,n,w.s,w.has⟩])
end Go.Base
namespace Go.Proofs.YtlaogoehmndcjaaGreatDoor.Sy
open Go RowKit Lib Base Pr Ba
def aP (l:Lg):cO:=⟨l.base,l.term,l.aV,l.subs,l.bG,l.dQ,l.str⟩
def Mm (w:World) (tb:Nat) (ga:Option Addr) (L:List An):Prop:=∀(j:Nat) (x:An),L[j]? = some x→(0≤x.v∧x.v<18446744073709551616)∧∃gb go ba bn bc,ga=some ⟨gb,go,none⟩∧gb≠tb∧w.cell? ⟨gb,go+j*3,none⟩=some (.int .u64 x.v)∧w.cell? ⟨gb,go+j*3+1,none⟩=some (.bool x.dn)∧w.cell? ⟨gb,go+j*3+2,none⟩=some (.slice ba bn bc)
theorem Mm.only {w w':World} {tb:Nat} {ga:Option Addr} {L:List An} (h:Mm w tb ga L) (ho:Only tb w w'):Mm w' tb ga L:=by
 intro j x hj
 obtain⟨hv,gb,go,ba,bn,bc,e,hne,h0,h1,h2⟩:=h j x hj
 exact⟨hv,gb,go,ba,bn,bc,e,hne,ho.cell hne h0,ho.cell hne h1,ho.cell hne h2⟩
class Zn where
 z:Nat→Prop
variable [Zn]
def gu (w:World) (tb:Nat) (ea:Option Addr) (en:Nat) (b:List Nat):Prop:=en=b.length∧∀(j:Nat) (x:Nat),b[j]? = some x→∃eb eo,ea=some ⟨eb,eo,none⟩∧(eb≠tb∧¬Zn.z eb)∧w.cell? ⟨eb,eo+j,none⟩=some (.int .u8 (x:Int))
theorem gu.only {w w':World} {tb:Nat} {ea:Option Addr} {en:Nat} {b:List Nat} (h:gu w tb ea en b) (ho:Only tb w w'):gu w' tb ea en b :=
 ⟨h.1,fun j x hj=>by
   obtain⟨eb,eo,e,hne,h0⟩:=h.2 j x hj
   exact⟨eb,eo,e,hne,ho.cell hne.1 h0⟩⟩
def ML (s:Value) (a:Int) (bv:Value):Option Acc→Array Value
 | none=>eG s a 0 0 0 0 0 false
 | some c=>uC s a c.k c.at_ c.n c.v c.w bv true
def Jz (w:World) (tb:Nat) (ea:Option Addr) (en:Nat):Option Acc→Prop
 | none=>True
 | some c=>gu w tb ea en c.b
structure iE (w:World) (tb:Nat) (ga:Option Addr) (cap:Nat) (L:List An) (a:Nat) (want:Option Acc):Prop where
 blk:∃ea en ec,w.heap[tb]? = some (.cells (ML (.slice ga L.length cap) a (.slice ea en ec) want) 36)∧Jz w tb ea en want
 row:Mm w tb ga L
 len:L.length≤1000
theorem Jz.only {w w':World} {tb:Nat} {ea:Option Addr} {en:Nat} {want:Option Acc} (h:Jz w tb ea en want) (ho:Only tb w w'):Jz w' tb ea en want:=by
 cases want with
 | none=>exact trivial
 | some c=>exact gu.only h ho
section
variable {w w' w'':World} {tb s:Nat} {ga:Option Addr} {cap:Nat} {L l:List An} {a a':Nat} {want want':Option Acc} {x:An}
theorem iE.lt (h:iE w tb ga cap L a want):tb<w.heap.size:=by
 obtain⟨ea,en,ec,hb,-⟩:=h.blk
 exact(Array.getElem?_eq_some_iff.1 hb).1
theorem iE.below (h:iE w tb ga cap L a want) (hb:Below s w w') (hs:w.heap.size≤s):iE w' tb ga cap L a want:=by
 obtain⟨ea,en,ec,hk,hw⟩:=h.blk
 have ho:Only tb w w':=Only.of_below (hb.mono hs)
 exact⟨⟨ea,en,ec,(hb.block tb (Nat.lt_of_lt_of_le h.lt hs)).trans hk,hw.only ho⟩,h.row.only ho,h.len⟩
def um (w w':World) (tb:Nat) (ga:Option Addr) (cap:Nat) (L:List An) (a:Nat) (want:Option Acc):Prop:=iE w' tb ga cap L a want∧Only tb w w'
theorem um.trans (h:um w w' tb ga cap L a want) (k:um w' w'' tb ga cap L a' want'):um w w'' tb ga cap L a' want':=⟨k.1,h.2.trans k.2⟩
theorem um.below (h:um w w' tb ga cap L a want) (hb:Below s w' w'') (hs:w'.heap.size≤s):um w w'' tb ga cap L a want:=⟨h.1.below hb hs,h.2.trans (Only.of_below (hb.mono hs))⟩
theorem iE.refl (h:iE w tb ga cap L a want):um w w tb ga cap L a want:=⟨h,Only.of_below (Below.refl _ _)⟩
theorem iE.bare (h:iE w tb ga cap L a none):w.heap[tb]? = some (.cells (eG (.slice ga L.length cap) a 0 0 0 0 0 false) 36):=by
 obtain⟨ea,en,ec,hk,-⟩:=h.blk
 exact hk
theorem gK (h:L.drop a=x::l):L[a]? = some x∧a<L.length∧L.drop (a+1)=l:=by
 have hlt:a<L.length:=by
  rcases Nat.lt_or_ge a L.length with h1|h1
  ·exact h1
  ·rw[List.drop_eq_nil_of_le h1]at h;cases h
 have he:=List.drop_eq_getElem_cons hlt
 rw[h]at he
 injection he with h1 h2
 exact⟨by rw[h1];exact List.getElem?_eq_getElem hlt,hlt,h2.symm⟩
theorem jT (h:L.drop a=[]):L.length≤a:=List.drop_eq_nil_iff.1 h
theorem iE.told (h:iE w tb ga cap L a none) (hb:w'.heap[tb]? = some (.cells (eG (.slice ga L.length cap) ((a:Int)+1) 0 0 0 0 0 false) 36)) (ho:Only tb w w'):um w w' tb ga cap L (a+1) none :=
 ⟨⟨⟨none,0,0,by simpa [ML]using hb,trivial⟩,h.row.only ho,h.len⟩,ho⟩
theorem iE.wants (h:iE w tb ga cap L a none) {k p m v u:Int} (hb:w'.heap[tb]? = some (.cells (eG (.slice ga L.length cap) a k p m v u true) 36)) (ho:Only tb w w'):um w w' tb ga cap L a (some ⟨k,p,m,v,u,[]⟩) :=
 ⟨⟨⟨none,0,0,hb,rfl,fun j x hj=>by cases hj⟩,h.row.only ho,h.len⟩,ho⟩
theorem Jl (at_ wd:Int) (h:iE w tb ga cap L a none) (hl:L.drop a=x::l):Calls Tryz.prog 39 #[.pointer (some ⟨tb,0,none⟩),.int .i64 at_,.int .i64 wd] w fun e w'=>e =.returned (.tuple #[.int .u64 x.v,.bool true])∧um w w' tb ga cap L (a+1) none:=by
 obtain⟨hx,hlt,-⟩:=gK hl
 obtain⟨hv,gb,go,ba,bn,bc,rfl,hne,h0,h1,h2⟩:=h.row a x hx
 refine(Lt at_ wd tb gb go L.length cap a 0 0 0 0 0 x.v x.dn ba bn bc ⟨by omega,by omega⟩ (by have:=h.len;omega) w h.bare hne (by simpa using h0) (by simpa using h1) (by simpa using h2)).mono ?_
 rintro e w' ⟨rfl,hb,ho⟩
 exact⟨rfl,h.told hb ho⟩
theorem Mc (at_ wd:Int) (h:iE w tb ga cap L a none) (hl:L.drop a=[]):Calls Tryz.prog 39 #[.pointer (some ⟨tb,0,none⟩),.int .i64 at_,.int .i64 wd] w fun e w'=>e =.returned (.tuple #[.int .u64 0,.bool false])∧um w w' tb ga cap L a (some (Base.load at_ wd)):=by
 refine(Ls at_ wd tb L.length cap ga a 0 0 0 0 0 (by have:=jT hl;omega) w h.bare).mono ?_
 rintro e w' ⟨rfl,hb,ho⟩
 exact⟨rfl,h.wants hb ho⟩
theorem Gq (at_ wd val:Int) (h:iE w tb ga cap L a none) (hl:L.drop a=x::l):Calls Tryz.prog 76 #[.pointer (some ⟨tb,0,none⟩),.int .i64 at_,.int .i64 wd,.int .u64 val] w fun e w'=>e =.returned (.bool true)∧um w w' tb ga cap L (a+1) none:=by
 obtain⟨hx,hlt,-⟩:=gK hl
 obtain⟨hv,gb,go,ba,bn,bc,rfl,hne,h0,h1,h2⟩:=h.row a x hx
 refine(GZ at_ wd val tb gb go L.length cap a 0 0 0 0 0 x.v x.dn ba bn bc ⟨by omega,by omega⟩ (by have:=h.len;omega) w h.bare hne (by simpa using h0) (by simpa using h1) (by simpa using h2)).mono ?_
 rintro e w' ⟨rfl,hb,ho⟩
 exact⟨rfl,h.told hb ho⟩
theorem Jj (at_ wd val:Int) (h:iE w tb ga cap L a none) (hl:L.drop a=[]):Calls Tryz.prog 76 #[.pointer (some ⟨tb,0,none⟩),.int .i64 at_,.int .i64 wd,.int .u64 val] w fun e w'=>e =.returned (.bool false)∧um w w' tb ga cap L a (some (Base.store at_ wd val)):=by
 refine(GY at_ wd val tb L.length cap ga a 0 0 0 0 0 (by have:=jT hl;omega) w h.bare).mono ?_
 rintro e w' ⟨rfl,hb,ho⟩
 exact⟨rfl,h.wants hb ho⟩
theorem Mf (at_ val:Int) (h:iE w tb ga cap L a none) (hl:L.drop a=x::l):Calls Tryz.prog 110 #[.pointer (some ⟨tb,0,none⟩),.int .i64 at_,.int .u64 val] w fun e w'=>e =.returned (.tuple #[.int .u64 x.v,.bool true])∧um w w' tb ga cap L (a+1) none:=by
 obtain⟨hx,hlt,-⟩:=gK hl
 obtain⟨hv,gb,go,ba,bn,bc,rfl,hne,h0,h1,h2⟩:=h.row a x hx
 refine(Pg at_ val tb gb go L.length cap a 0 0 0 0 0 x.v x.dn ba bn bc ⟨by omega,by omega⟩ (by have:=h.len;omega) w h.bare hne (by simpa using h0) (by simpa using h1) (by simpa using h2)).mono ?_
 rintro e w' ⟨rfl,hb,ho⟩
 exact⟨rfl,h.told hb ho⟩
theorem Pj (at_ val:Int) (h:iE w tb ga cap L a none) (hl:L.drop a=[]):Calls Tryz.prog 110 #[.pointer (some ⟨tb,0,none⟩),.int .i64 at_,.int .u64 val] w fun e w'=>e =.returned (.tuple #[.int .u64 0,.bool false])∧um w w' tb ga cap L a (some (rO at_ val)):=by
 refine(Pf at_ val tb L.length cap ga a 0 0 0 0 0 (by have:=jT hl;omega) w h.bare).mono ?_
 rintro e w' ⟨rfl,hb,ho⟩
 exact⟨rfl,h.wants hb ho⟩
theorem Me (at_ wd old val:Int) (h:iE w tb ga cap L a none) (hl:L.drop a=x::l):Calls Tryz.prog 202 #[.pointer (some ⟨tb,0,none⟩),.int .i64 at_,.int .i64 wd,.int .u64 old,.int .u64 val] w fun e w'=>e =.returned (.tuple #[.bool x.dn,.bool true])∧um w w' tb ga cap L (a+1) none:=by
 obtain⟨hx,hlt,-⟩:=gK hl
 obtain⟨hv,gb,go,ba,bn,bc,rfl,hne,h0,h1,h2⟩:=h.row a x hx
 refine(O0 at_ wd old val tb gb go L.length cap a 0 0 0 0 0 x.v x.dn ba bn bc ⟨by omega,by omega⟩ (by have:=h.len;omega) w h.bare hne (by simpa using h0) (by simpa using h1) (by simpa using h2)).mono ?_
 rintro e w' ⟨rfl,hb,ho⟩
 exact⟨rfl,h.told hb ho⟩
theorem Ph (at_ wd old val:Int) (h:iE w tb ga cap L a none) (hl:L.drop a=[]):Calls Tryz.prog 202 #[.pointer (some ⟨tb,0,none⟩),.int .i64 at_,.int .i64 wd,.int .u64 old,.int .u64 val] w fun e w'=>e =.returned (.tuple #[.bool false,.bool false])∧um w w' tb ga cap L a (some (Ed at_ wd old val)):=by
 refine(OZ at_ wd old val tb L.length cap ga a 0 0 0 0 0 (by have:=jT hl;omega) w h.bare).mono ?_
 rintro e w' ⟨rfl,hb,ho⟩
 exact⟨rfl,h.wants hb ho⟩
end
end Go.Proofs.YtlaogoehmndcjaaGreatDoor.Sy
