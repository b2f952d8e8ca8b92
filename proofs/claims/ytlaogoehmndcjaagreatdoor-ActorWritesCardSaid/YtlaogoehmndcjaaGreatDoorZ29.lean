import Derived.Test.YtlaogoehmndcjaaGreatDoorZ28
import Derived.Laws.BytesArg
import Derived.Lib.BufferRead
import Derived.Test.YtlaogoehmndcjaaGreatDoorZ19
import Derived.Test.YtlaogoehmndcjaaGreatDoorZ16
set_option linter.unusedSectionVars false
set_option maxRecDepth 1000000
set_option maxHeartbeats 3200000
set_option linter.unusedVariables false
set_option linter.unusedSimpArgs false
namespace Go.Proofs.YtlaogoehmndcjaaGreatDoor.Sy
open Go RowKit Lib Base Pr Ba
variable [Zn]
def OpL (w:World) (la:Option Addr) (j:Nat) (n:Nat):Prop:=∃g go ba bc kd,la=some ⟨g,go,none⟩∧w.cell? ⟨g,go+2*j,none⟩=some (.int .i64 kd)∧w.cell? ⟨g,go+2*j+1,none⟩=some (.slice ba n bc)
def aaG (e:Ending) (n:Nat) (ln:Nat→Nat):Prop:=∃b:Bool,e =.returned (.bool b)∧(b=true→n≤12∧∀j,j<n→ln j≤300)
theorem aar (la:Option Addr) (n lc:Nat) (ln:Nat→Nat) (hn:n≤9223372036854775807) (hln:∀j,j<n→ln j≤9223372036854775807) (w:World) (hops:∀j,j<n→OpL w la j (ln j)) :
 Calls Tryz.prog 6 #[.slice la n lc] w fun e w'=>aaG e n ln∧Below w.heap.size w w':=by
 obtain⟨X,hX⟩:∃X,w.heap.size=X:=⟨_,rfl⟩
 have HO:=aC hops
 clear hops
 go_enter Tryz.func6,Tryz.ntmps6
 go_wp2_with (fail)
 go_loopw [7] (fun y wr=>∃i:Nat,y =.int .i64 (i:Int)∧i≤n∧Hid ((∀j,j<i→ln j≤300)∧Below X w wr)) (fun y _=>((n:Int)+1-intOf y).toNat)
 case atStart=>exact⟨0,rfl,Nat.zero_le _,aC ⟨fun j h=>absurd h (Nat.not_lt_zero _),hX▸Below.refl _ _⟩⟩
 case round =>
  obtain⟨i,rfl,hi,H⟩:=hrel
  by_cases hlt:i<n
  ·obtain⟨g,go,ba,bc,kd,rfl,g0,g1⟩:=HO.out i hlt
   have hg:g<w.heap.size:=World.block_lt_of_cell? w _ g0
   have gk:=H.out.2.block g (by omega)
   have g0':wr.cell? ⟨g,go+i*2,none⟩=some (.int .i64 kd):=by rw[Nat.mul_comm i 2];exact BA gk g0
   obtain⟨N,hN⟩:∃N,ln i=N:=⟨_,rfl⟩
   have hNb:N≤9223372036854775807:=hN▸hln i hlt
   rw[hN]at g1
   have g1':wr.cell? ⟨g,go+i*2+1,none⟩=some (.slice ba N bc):=by rw[Nat.mul_comm i 2];exact BA gk g1
   obtain⟨Y,hY⟩:∃Y,wr.heap.size=Y:=⟨_,rfl⟩
   obtain⟨W1,hW1⟩:∃W1,wr.alloc (.cells #[.int .i64 kd,.slice ba N bc] 67)=W1:=⟨_,rfl⟩
   have b1:Below X w W1:=by rw[←hW1];exact H.out.2.alloc (by have:=H.out.2.size;omega) _
   have r1:W1.heap[Y]? = some (.cells #[.int .i64 kd,.slice ba N bc] 67):=by rw[←hW1,←hY];exact aZ _ _
   obtain⟨o0,o1⟩:=op2 r1
   have HB:=aC b1
   have q1:IntKind.i64.wrap ((i:Int)+1)=(i:Int)+1:=by rw[IntKind.wrap_i64];omega
   have q2:(i:Int)<(n:Int):=by omega
   have q3:(0:Int)≤(i:Int):=by omega
   have q4:IntKind.i64.wrap (i:Int)=(i:Int):=by rw[IntKind.wrap_i64];omega
   clear b1 r1 gk g0 g1
   by_cases h3:(N:Int)>300
   ·go_wp2
    exact bodyPost_ret (v :=.bool false) (by simp[results,Tryz.results6,go_sem]) rfl ⟨⟨false,rfl,fun h=>by cases h⟩,hX▸HB.out⟩
   ·have HN:Hid ((∀j,j<i+1→ln j≤300)∧Below X w W1):=aC ⟨fun j hj=>by
     by_cases hj2:j<i
     ·exact H.out.1 j hj2
     ·obtain rfl:j=i:=by omega
      omega,HB.out⟩
    go_wp2
    go_roundw
    case measure=>simp[intOf];omega
    case rel=>exact⟨i+1,by simp,by omega,HN⟩
  ·obtain rfl:i=n:=by omega
   by_cases h12:(i:Int)≤12
   ·go_wp2
    exact bodyPost_ret (v :=.bool true) (by simp[results,Tryz.results6,go_sem]) rfl ⟨⟨true,rfl,fun _=>⟨by omega,H.out.1⟩⟩,hX▸H.out.2⟩
   ·go_wp2
    exact bodyPost_ret (v :=.bool false) (by simp[results,Tryz.results6,go_sem]) rfl ⟨⟨false,rfl,fun h=>by cases h⟩,hX▸H.out.2⟩
theorem MP:∀(out:List ng) (i:Nat) (s:ng),out[i]? = some s→∀k,k<8→(out.flatMap za)[8*i+k]? =(za s)[k]?
 | [],i,s,h,k,hk=>by cases h
 | t::out,0,s,h,k,hk=>by
   cases h
   rw[List.flatMap_cons,List.getElem?_append_left (by show 8*0+k<8;omega)]
   simp
 | t::out,i+1,s,h,k,hk=>by
   rw[List.flatMap_cons,List.getElem?_append_right (by show 8≤_;omega)]
   have:=MP out i s (by simpa using h) k hk
   rw[←this]
   congr 1
   show 8*(i+1)+k-8=_
   omega
theorem M5 {w:World} {base:Nat} {v:Value} {out:List ng} (h:w.ownsRow base 78 8 v out.length (out.flatMap za)) {i:Nat} {s:ng} (hi:out[i]? = some s):∃g c,v =.slice (some ⟨g,0,none⟩) out.length c∧∀k u,(za s)[k]? = some u→w.cell? ⟨g,i*8+k,none⟩=some u:=by
 obtain⟨hl,h2⟩:=h
 have hlt:=(List.getElem?_eq_some_iff.1 hi).1
 rcases h2 with⟨rfl,hn⟩|⟨g,cap,cur,rfl,hb,hg,hn,hm,hs,ht⟩
 ·omega
 ·refine⟨g,cap,rfl,fun k u hu => ?_⟩
  have hk:k<8:=(List.getElem?_eq_some_iff.1 hu).1
  have h1:=MP out i s hi k hk
  rw[hu]at h1
  rw[←ht,List.getElem?_take]at h1
  split at h1
  ·rw[Array.getElem?_toList]at h1
   simp only[World.cell?,hg]
   rw[show i*8+k=8*i+k by omega]
   exact h1
  ·cases h1
theorem K6 (out:List ng) (hn:out.length≤1000) (v1 v2:Value) (b1 b2:Nat) (w:World) (h1:w.ownsRow b1 78 8 v1 out.length (out.flatMap za)) (h2:w.ownsRow b2 78 8 v2 out.length (out.flatMap za)) :
 Calls Tryz.prog 12 #[v1,v2] w fun e w'=>e =.returned (.bool true)∧Below w.heap.size w w':=by
 obtain⟨a1,c1,rfl⟩:=iC h1
 obtain⟨a2,c2,rfl⟩:=iC h2
 have HR:=aC (aR h1 h2)
 clear h1 h2
 go_enter Tryz.func12,Tryz.ntmps12
 go_wp2_with (fail)
 go_loopw [13] (fun y wr=>∃i:Nat,y =.int .i64 (i:Int)∧i≤out.length∧Hid (Below w.heap.size w wr)) (fun y _=>(2000-intOf y).toNat)
 case atStart=>exact⟨0,rfl,Nat.zero_le _,aC (Below.refl _ _)⟩
 case round =>
  obtain⟨i,rfl,hi,HB⟩:=hrel
  by_cases hlt:i<out.length
  ·obtain⟨s,hs⟩:∃s,out[i]? = some s:=⟨out[i],List.getElem?_eq_getElem hlt⟩
   obtain⟨g1,d1,e1,r1⟩:=M5 HR.out.1 hs
   obtain⟨g2,d2,e2,r2⟩:=M5 HR.out.2 hs
   injection e1 with e1 _ e3
   injection e2 with e2 _ e4
   subst e1 e2 e3 e4
   obtain⟨pos,ev,n,⟨sp,st,so,sz⟩,has⟩:=s
   have up:∀{a:Addr} {v:Value},w.cell? a=some v→wr.cell? a=some v:=fun h=>(HB.out.cell (World.block_lt_of_cell? w _ h)).trans h
   have p0:wr.cell? ⟨g1,i*8,none⟩=some (.int .i64 pos):=up (r1 0 _ rfl)
   have p1:=up (r1 1 _ rfl)
   have p2:=up (r1 2 _ rfl)
   have p3:=up (r1 3 _ rfl)
   have p4:=up (r1 4 _ rfl)
   have p5:=up (r1 5 _ rfl)
   have p6:=up (r1 6 _ rfl)
   have p7:=up (r1 7 _ rfl)
   have q0:wr.cell? ⟨g2,i*8,none⟩=some (.int .i64 pos):=up (r2 0 _ rfl)
   have q1:=up (r2 1 _ rfl)
   have q2:=up (r2 2 _ rfl)
   have q3:=up (r2 3 _ rfl)
   have q4:=up (r2 4 _ rfl)
   have q5:=up (r2 5 _ rfl)
   have q6:=up (r2 6 _ rfl)
   have q7:=up (r2 7 _ rfl)
   have x1:IntKind.i64.wrap ((i:Int)+1)=(i:Int)+1:=by rw[IntKind.wrap_i64];omega
   have x2:(i:Int)<(out.length:Int):=by omega
   have x3:(0:Int)≤(i:Int):=by omega
   have x4:IntKind.i64.wrap (i:Int)=(i:Int):=by rw[IntKind.wrap_i64];omega
   clear r1 r2 hs up
   go_wp2_with (fail)
   go_quiet (fail)
   have HN:=aC (below_drewN nq HB.out)
   go_wp2
   go_roundw
   case measure=>simp[intOf];omega
   case rel=>exact⟨i+1,by simp,by omega,HN⟩
  ·obtain rfl:i=out.length:=by omega
   go_wp2
   exact bodyPost_ret (v :=.bool true) (by simp[results,Tryz.results12,go_sem]) rfl ⟨rfl,HB.out⟩
def BytesIn (w:World) (ba:Option Addr) (b:List Nat):Prop:=∀(j:Nat) (x:Nat),b[j]? = some x→∃bb bo,ba=some ⟨bb,bo,none⟩∧w.cell? ⟨bb,bo+j,none⟩=some (.int .u8 (x:Int))
theorem BytesIn.below {w w':World} {ba:Option Addr} {b:List Nat} (h:BytesIn w ba b) (hb:Below w.heap.size w w'):BytesIn w' ba b:=fun j x hj=>by
 obtain⟨bb,bo,e,hc⟩:=h j x hj
 exact⟨bb,bo,e,(hb.cell (World.block_lt_of_cell? w _ hc)).trans hc⟩
theorem Vf:Tryz.prog.underlying 32=some (.slice 5):=by kernel_rfl
theorem U5_:Tryz.prog.underlying 5=some (.int .u8):=by kernel_rfl
theorem U9_:Tryz.prog.underlying 9=some .string:=by kernel_rfl
theorem VM (W:World) (ba:Option Addr) (bc:Nat) (b:List Nat) (h:BytesIn W ba b):(convert 32 9 (.slice ba b.length bc)).run Tryz.prog W =.ok (.string (strOfNums (b.map fun x:Nat=>(x:Int)))) W:=by
 cases b with
 | nil =>
   cases ba with
   | none=>exact run_convert_nil_bytes W 32 9 5 bc Vf U5_ U9_
   | some a =>
     show(convert 32 9 (.slice (some a) 0 bc)).run Tryz.prog W=_
     rw[run_convert_bytes_string W 32 9 5 (some a) 0 bc Vf U5_ U9_]
     exact run_bytesToString W a 0 bc [] (run_loadCells_list (P:=Tryz.prog) W a [] (fun j v hj=>by cases hj))
 | cons x b =>
   obtain⟨bb,bo,rfl,-⟩:=h 0 x rfl
   refine run_convert_bytes_arg W 32 5 Vf U5_ bb bo (x::b).length bc ((x::b).map fun x:Nat=>(x:Int)) (by simp) (fun i hi => ?_) 9 U9_
   obtain⟨bb',bo',e,hc⟩:=h i ((x::b)[i]) (List.getElem?_eq_getElem hi)
   injection e with e
   injection e with e1 e2
   subst e1 e2
   rw[hc,List.getD_eq_getElem?_getD,List.getElem?_map,List.getElem?_eq_getElem hi]
   rfl
theorem K8 (a:Acc) (ba ea:Option Addr) (bc ec:Nat) (w:World) (h1:BytesIn w ba a.b) (h2:BytesIn w ea a.b) :
 Calls Tryz.prog 11 #[.agg #[.int .i64 a.k,.int .i64 a.at_,.int .i64 a.n,.int .u64 a.v,.int .u64 a.w,.slice ba a.b.length bc],.agg #[.int .i64 a.k,.int .i64 a.at_,.int .i64 a.n,.int .u64 a.v,.int .u64 a.w,.slice ea a.b.length ec]] w fun e w'=>e =.returned (.bool true)∧Below w.heap.size w w':=by
 obtain⟨k,p,m,v,u,b⟩:=a
 dsimp only at h1 h2 ⊢
 obtain⟨X,hX⟩:∃X,w.heap.size=X:=⟨_,rfl⟩
 obtain⟨W1,hW1⟩:∃W1,w.alloc (.cells #[.int .i64 k,.int .i64 p,.int .i64 m,.int .u64 v,.int .u64 u,.slice ba b.length bc] 34)=W1:=⟨_,rfl⟩
 obtain⟨W2,hW2⟩:∃W2,W1.alloc (.cells #[.int .i64 k,.int .i64 p,.int .i64 m,.int .u64 v,.int .u64 u,.slice ea b.length ec] 34)=W2:=⟨_,rfl⟩
 have s1:W1.heap.size=X+1:=by rw[←hW1,←hX];simp
 have b2:Below X w W2:=by rw[←hW2,←hW1,←hX];exact((Below.refl _ _).alloc (Nat.le_refl _) _).alloc (by simp) _
 have r1:W1.heap[X]? = _:=hX▸hW1▸aZ w (.cells #[.int .i64 k,.int .i64 p,.int .i64 m,.int .u64 v,.int .u64 u,.slice ba b.length bc] 34)
 have r2:W2.heap[X]? = some (.cells #[.int .i64 k,.int .i64 p,.int .i64 m,.int .u64 v,.int .u64 u,.slice ba b.length bc] 34):=by rw[←hW2];exact(Below.heap_alloc _ _ _ (by omega)).trans r1
 have r3:W2.heap[X+1]? = some (.cells #[.int .i64 k,.int .i64 p,.int .i64 m,.int .u64 v,.int .u64 u,.slice ea b.length ec] 34):=by rw[←hW2,←s1];exact aZ _ _
 have c1:=VM W2 ba bc b (h1.below (hX.symm▸b2))
 have c2:=VM W2 ea ec b (h2.below (hX.symm▸b2))
 have x0:W2.cell? ⟨X,0,none⟩=some (.int .i64 k):=by simp[World.cell?,r2]
 have x1:W2.cell? ⟨X,1,none⟩=some (.int .i64 p):=by simp[World.cell?,r2]
 have x2:W2.cell? ⟨X,2,none⟩=some (.int .i64 m):=by simp[World.cell?,r2]
 have x3:W2.cell? ⟨X,3,none⟩=some (.int .u64 v):=by simp[World.cell?,r2]
 have x4:W2.cell? ⟨X,4,none⟩=some (.int .u64 u):=by simp[World.cell?,r2]
 have x5:W2.cell? ⟨X,5,none⟩=some (.slice ba b.length bc):=by simp[World.cell?,r2]
 have y0:W2.cell? ⟨X+1,0,none⟩=some (.int .i64 k):=by simp[World.cell?,r3]
 have y1:W2.cell? ⟨X+1,1,none⟩=some (.int .i64 p):=by simp[World.cell?,r3]
 have y2:W2.cell? ⟨X+1,2,none⟩=some (.int .i64 m):=by simp[World.cell?,r3]
 have y3:W2.cell? ⟨X+1,3,none⟩=some (.int .u64 v):=by simp[World.cell?,r3]
 have y4:W2.cell? ⟨X+1,4,none⟩=some (.int .u64 u):=by simp[World.cell?,r3]
 have y5:W2.cell? ⟨X+1,5,none⟩=some (.slice ea b.length ec):=by simp[World.cell?,r3]
 have HB:=aC b2
 clear r1 r2 r3 b2 h1 h2
 go_enter Tryz.func11,Tryz.ntmps11
 go_wp2
 exact bodyPost_ret (v :=.bool true) (by simp[results,Tryz.results11,go_sem]) rfl ⟨rfl,hX▸HB.out⟩
end Go.Proofs.YtlaogoehmndcjaaGreatDoor.Sy
namespace Go.Proofs.YtlaogoehmndcjaaGreatDoor.Sy
open Go RowKit Lib Base Pr Ba
theorem xK:(Tryz.prog.info? 5).map (fun i=>(i.zero,i.size,i.bytes))=some (some (.int .u8 0),1,1):=by kernel_rfl
theorem Q3 (n:Nat) (hn0:0<n) (hn:n≤1000) (w:World):Calls Tryz.prog 226 #[.int .i64 n] w fun e w'=>∃v cl,e =.returned v∧cl[0]? = some (.int .i64 ((min n 8:Nat):Int))∧w'.ownsRow w.heap.size 3 1 v cl.length cl∧Below w.heap.size w w':=by
 obtain⟨i0,hi,hz0,hz1,hz2⟩:=info_parts lZ
 go_enter Tryz.func226,Tryz.ntmps226
 have h0:¬(n:Int)>131072:=by omega
 have h1:¬(n:Int)<1:=by omega
 go_wp2
 go_loopw [0,3] (fun x v wr=>∃(r:Int) (cl:List Value),x =.int .i64 r∧r≤n ∧ -8≤r∧Hid (r=n-8*cl.length∧(cl=[]∨cl[0]? = some (.int .i64 ((min n 8:Nat):Int))))∧wr.ownsRow w.heap.size 3 1 v cl.length cl∧Below w.heap.size w wr) (fun x _ _=>(intOf x).toNat)
 case atStart=>exact⟨n,[],rfl,by omega,by omega,aC ⟨by simp,.inl rfl⟩,World.ownsRow_nil _ _ _ _,Below.refl _ _⟩
 case round =>
  obtain⟨r,cl,rfl,hrn,Xd,HR,hown,hnx⟩:=hrel
  have hi1:cl.length≤130:=by have:=HR.out.1;omega
  have hsz:=hnx.size
  by_cases hlt:r>0
  ·obtain⟨k,hk⟩:∃k,(if (8:Int)<r then 8 else r)=k:=⟨_,rfl⟩
   have HK:=aC (show cl≠[]∨k=((min n 8:Nat):Int)from by
    rcases HR.out.2 with h|h
    ·right
     have:=HR.out.1
     rw[h]at this
     simp only[List.length_nil]at this
     rw[←hk]
     split<;>omega
    ·left;intro hh;rw[hh]at h;cases h)
   have q1:IntKind.i64.wrap (r-8)=r-8:=by rw[IntKind.wrap_i64];omega
   go_wp2_with (first
    | (at_builtin;refine wpList_append_own _ rfl _ _ 167 rfl w.heap.size 3 i0 _ 1 8 Tryz.underlying167 hi hz0 hz1 hz2 rfl (by decide) _ _ _ rfl (hown.alloc _) ⟨wr.heap.size,0,none⟩ 1 1 [.int .i64 k] rfl rfl ?k1 ?k2 ?k3 ?k4 ?k5 ?_))
   case k1 =>
    intro j u hj
    rcases j with _|j
    ·injection hj with hj;subst hj;rw[show(⟨wr.heap.size,0,none⟩:Addr).add 0=⟨wr.heap.size,0,none⟩from Addr.add_lit _ _ _,World.cell?_alloc_at _ _ _ _ rfl];rfl
    ·cases hj
   case k2=>first|rfl|(intro u hu;simp at hu;subst hu;rfl)
   case k3=>unfold maxLen;omega
   case k4=>omega
   case k5=>simp;omega
   intro v' w1 hown' hgrow _
   have R:=aC (show w1.ownsRow w.heap.size 3 1 v' (cl++[Value.int .i64 k]).length (cl++[Value.int .i64 k])from by rw[List.length_append];exact hown')
   have B:=aC (show Below w.heap.size w w1 from(hnx.alloc (by omega) _).grown hgrow (by simp;omega) (fun j hj=>(hown.lt j hj).1))
   have HN:=aC (show r-8=n-8*((cl++[Value.int .i64 k]).length:Int)∧((cl++[Value.int .i64 k])=[]∨(cl++[Value.int .i64 k])[0]? = some (.int .i64 ((min n 8:Nat):Int)))from by
    refine⟨by have:=HR.out.1;simp;omega,.inr ?_⟩
    rcases HK.out with h|h
    ·rcases HR.out.2 with h'|h'
     ·exact absurd h' h
     ·rw[List.getElem?_append_left (by have:=(List.getElem?_eq_some_iff.1 h').1;exact this)];exact h'
    ·cases hcl:cl with
     | nil=>rw[h];rfl
     | cons a b =>
       rcases HR.out.2 with h'|h'
       ·rw[hcl]at h';cases h'
       ·rw[hcl]at h';exact h')
   clear hown' hgrow hown hnx
   go_wp2
   go_roundw
   case rel=>exact⟨r-8,_,rfl,by omega,by omega,HN,R.out,B.out⟩
   case measure=>simp[intOf];omega
  ·go_wp2
   refine bodyPost_ret (v:=u3) (by simp[results,Tryz.results226,go_sem]) rfl ⟨_,rfl,cl,?_,hown,hnx⟩
   rcases HR.out.2 with h|h
   ·have:=HR.out.1;rw[h]at this;simp at this;omega
   ·exact h
theorem OQ (ba:Option Addr) (bn bc:Nat) (B:List Nat) (hb:B.length=bn) (hbn:bn≤1000) (hB:∀x∈B,x<256) (hne:ba≠none) (w:World) (hr:∀(j x:Nat),B[j]? = some x→∃bb bo,ba=some ⟨bb,bo,none⟩∧w.cell? ⟨bb,bo+j,none⟩=some (.int .u8 (x:Int))):Calls Tryz.prog 28 #[.slice ba bn bc] w fun e w'=>∃g cap C,e =.returned (.slice (some ⟨g,0,none⟩) bn cap)∧bn≤cap∧w.heap.size≤g∧w'.heap[g]? = some (.cells C 5 (0,0))∧(∀(j x:Nat),B[j]? = some x→C[j]? = some (.int .u8 (x:Int)))∧Below w.heap.size w w':=by
 obtain⟨i0,hi,hz0,hz1,hz2⟩:=info_parts xK
 obtain⟨ad,rfl⟩:∃ad,ba=some ad:=by cases ba with
  | none=>exact absurd rfl hne
  | some ad=>exact⟨ad,rfl⟩
 go_enter Tryz.func28,Tryz.ntmps28
 have Lh:(w.alloc (.cells #[] 5)).ownsRow w.heap.size 5 1 (.slice (some ⟨w.heap.size,0,none⟩) 0 0) 0 []:=by
  refine⟨rfl,.inr ⟨w.heap.size,0,#[],rfl,Nat.le_refl _,?_,by simp,by unfold maxLen;omega,by simp,by simp⟩⟩
  exact aZ _ _
 have he:Sem.run Tryz.prog (Go.binOp BinOp.eql 32 (Value.slice (some ad) bn bc) (Value.slice none 0 0)) w =.ok (.bool false) w:=by first|rfl|kernel_rfl|simp[Go.binOp,go_sem]
 go_wp2_with (first
  | (rw[he];go_wp2)
  | (at_builtin;refine wpList_append_own _ rfl _ _ 32 rfl w.heap.size 5 i0 _ 1 1 Tryz.underlying32 hi hz0 hz1 hz2 rfl (by decide) _ _ _ rfl Lh ad bn bc (B.map fun x:Nat=>Value.int .u8 (x:Int)) rfl (by simp[hb]) ?k1 ?k2 ?k3 ?k4 ?k5 ?_))
 case k1 =>
  intro j u hj
  rw[List.getElem?_map]at hj
  obtain⟨x,hx,rfl⟩:=Option.map_eq_some_iff.1 hj
  obtain⟨bb,bo,e,hc⟩:=hr j x hx
  injection e with e
  subst e
  rw[Addr.add_lit]
  have hlt:bb<w.heap.size:=World.block_lt_of_cell? w _ hc
  exact(Below.cell (p:=⟨bb,bo+j,none⟩) ((Below.refl w.heap.size w).alloc (Nat.le_refl _) (.cells #[] 5)) hlt).trans hc
 case k2 =>
  intro u hu
  obtain⟨x,_,rfl⟩:=List.mem_map.1 hu
  rfl
 case k3=>unfold maxLen;omega
 case k4=>omega
 case k5=>simp
 intro v' w1 hown hgrow hv
 have HB:=aC (show Below w.heap.size w w1 from((Below.refl w.heap.size w).alloc (Nat.le_refl _) _).grown hgrow (by simp) (fun j hj=>(Lh.lt j hj).1))
 rcases hown with⟨hl,⟨rfl,-⟩|⟨g,cap,cur,rfl,hg,eu,hn,hm,hs,ht⟩⟩
 ·exact absurd rfl hv
 have HC:=aC (show ∀(j x:Nat),B[j]? = some x→cur[j]? = some (Value.int .u8 (x:Int))from fun j x hx=>by
  have hj:=(List.getElem?_eq_some_iff.1 hx).1
  have h1:(cur.toList.take (bn*1))[j]? = some (Value.int .u8 (x:Int)):=by rw[ht,List.getElem?_map,hx];rfl
  rw[List.getElem?_take,if_pos (by omega),Array.getElem?_toList]at h1
  exact h1)
 clear hgrow hl ht hs
 go_wp2
 exact bodyPost_ret (v :=.slice (some ⟨g,0,none⟩) bn cap) (by simp[results,Tryz.results28,go_sem]) rfl ⟨g,cap,cur,rfl,hn,hg,eu,HC.out,HB.out⟩
theorem wK (n c:Nat) (w:World):Calls Tryz.prog 28 #[.slice none n c] w fun e w'=>e =.returned (.slice none 0 0)∧Below w.heap.size w w':=by
 go_enter Tryz.func28,Tryz.ntmps28
 have he:Sem.run Tryz.prog (Go.binOp BinOp.eql 32 (Value.slice none n c) (Value.slice none 0 0)) w =.ok (.bool true) w:=by first|rfl|kernel_rfl|simp[Go.binOp,go_sem]
 go_wp2_with (rw[he];go_wp2)
 go_ret
 exact⟨rfl,Below.refl _ _⟩
theorem zM (l:Lg) (h:l.ok) (w:World):Calls Tryz.prog 181 #[l.val] w fun e w'=>e =.returned (.int .i64 (l.term/8))∧Below w.heap.size w w':=by
 have hb:=h.bounds
 have c:=fun W=>Ef l h (l.term/8) W
 clear h
 obtain⟨base,term,aV,subs,bG,dQ,str⟩:=l
 unfold Lg.val at c ⊢
 dsimp only at c hb ⊢
 obtain⟨q,hq⟩:∃q,term/8=q:=⟨_,rfl⟩
 rw[hq]at c ⊢
 have k1:IntKind.i64.wrap (term.tdiv 8)=q:=by rw[IntKind.wrap_i64,Int.tdiv_eq_ediv_of_nonneg (by omega)];omega
 obtain⟨W1,hW1⟩:∃W1,w.alloc (.cells #[.int .i64 base,.int .i64 term,.int .i64 aV,.int .i64 subs,.int .i32 bG,.int .i32 dQ,.int .i32 str] 23)=W1:=⟨_,rfl⟩
 obtain⟨A,hA⟩:∃A,w.heap.size=A:=⟨_,rfl⟩
 have u0:W1.heap[A]? = some (.cells #[.int .i64 base,.int .i64 term,.int .i64 aV,.int .i64 subs,.int .i32 bG,.int .i32 dQ,.int .i32 str] 23 (0,0)):=by rw[←hW1,←hA];exact aZ _ _
 have u1:Below A w W1:=by rw[←hW1,←hA];exact(Below.refl _ _).alloc (Nat.le_refl _) _
 have HU:=aC u1
 obtain⟨b0,b1,b2,b3,b4,b5,b6⟩:=qJ u0
 have hs1:W1.heap.size=A+1:=by rw[←hW1,←hA];simp
 go_enter Tryz.func181,Tryz.ntmps181
 go_wp2_with (go_at_call 125;refine(c _).mono ?_;clear c;rintro e w1 ⟨rfl,hB⟩;have HB:=aC hB;clear hB)
 go_ret
 exact⟨rfl,by rw[hA];exact HU.out.trans (HB.out.mono (by omega))⟩
def dH (aV:Int):Nat→Int→List Value
 | 0,n=>[.int .i64 n]
 | f+1,n=>if n>aV then .int .i64 aV::dH aV f (n-aV)else[.int .i64 n]
theorem tT {aV:Int} {f:Nat} {n:Int} (h:n>aV):dH aV (f+1) n =.int .i64 aV::dH aV f (n-aV):=by rw[dH,if_pos h]
theorem xE {aV:Int} {f:Nat} {n:Int} (h:¬n>aV):dH aV f n=[.int .i64 n]:=by
 cases f with
 | zero=>rfl
 | succ f=>rw[dH,if_neg h]
theorem Yl (l:Lg) (h:l.ok) (hm:32≤l.aV∧l.aV≤1024) (n:Nat) (hn:(n:Int)≤l.term/8) (w:World):Calls Tryz.prog 137 #[l.val,.int .i64 n] w fun e w'=>∃v,e =.returned (.tuple #[v,.int .i64 0])∧w'.ownsRow w.heap.size 3 1 v (dH l.aV 40 n).length (dH l.aV 40 n)∧Below w.heap.size w w':=by
 obtain⟨i0,hi,hz0,hz1,hz2⟩:=info_parts lZ
 have hb:=h.bounds
 have Zj:=fun W=>eT l h W
 have O1:=fun W=>zM l h W
 clear h
 obtain⟨base,term,aV,subs,bG,dQ,str⟩:=l
 unfold Lg.val at Zj O1 ⊢
 dsimp only at Zj O1 hb hm hn ⊢
 obtain⟨q,hq⟩:∃q,term/8=q:=⟨_,rfl⟩
 have hq1:q≤1024:=by omega
 rw[hq]at O1 hn
 obtain⟨W1,hW1⟩:∃W1,w.alloc (.cells #[.int .i64 base,.int .i64 term,.int .i64 aV,.int .i64 subs,.int .i32 bG,.int .i32 dQ,.int .i32 str] 23)=W1:=⟨_,rfl⟩
 obtain⟨A,hA⟩:∃A,w.heap.size=A:=⟨_,rfl⟩
 have u0:W1.heap[A]? = some (.cells #[.int .i64 base,.int .i64 term,.int .i64 aV,.int .i64 subs,.int .i32 bG,.int .i32 dQ,.int .i32 str] 23 (0,0)):=by rw[←hW1,←hA];exact aZ _ _
 have u1:Below A w W1:=by rw[←hW1,←hA];exact(Below.refl _ _).alloc (Nat.le_refl _) _
 have hs1:W1.heap.size=A+1:=by rw[←hW1,←hA];simp
 have HU:=aC (aR u0 (aR u1 hs1))
 obtain⟨b0,b1,b2,b3,b4,b5,b6⟩:=qJ u0
 clear u0 u1 hs1
 have q0:¬(n:Int)<0:=by omega
 have q2:¬(n:Int)>q:=by omega
 go_enter Tryz.func137,Tryz.ntmps137
 go_wp2_with (first
  | (go_at_call 36;refine(Zj _).mono ?_;clear Zj;rintro e w2 ⟨rfl,hB⟩
     have v0:=(hB.block A (by have:=HU.out.2.2;omega)).trans HU.out.1
     obtain⟨d0,d1,d2,d3,d4,d5,d6⟩:=qJ v0
     have HB:=aC (aR v0 (aR (HU.out.2.1.trans (hB.mono (by have:=HU.out.2.2;omega))) (show A+1≤w2.heap.size from Nat.le_trans (Nat.le_of_eq HU.out.2.2.symm) hB.size)))
     clear hB v0)
  | (go_at_call 181;refine(O1 _).mono ?_;clear O1;rintro e w3 ⟨rfl,hB⟩
     have v0:=(hB.block A (by have:=HB.out.2.2;omega)).trans HB.out.1
     obtain⟨k0,k1,k2,k3,k4,k5,k6⟩:=qJ v0
     have HC:=aC (aR v0 (aR (HB.out.2.1.trans (hB.mono (by have:=HB.out.2.2;omega))) (show A+1≤w3.heap.size from Nat.le_trans HB.out.2.2 hB.size)))
     clear hB v0))
 obtain⟨M,rfl⟩:=Int.eq_ofNat_of_zero_le (show 0≤aV by omega)
 obtain⟨U8,hblk⟩:∃o,Obj.cells #[.int .i64 base,.int .i64 term,.int .i64 (M:Int),.int .i64 subs,.int .i32 bG,.int .i32 dQ,.int .i32 str] 23 (0,0)=o:=⟨_,rfl⟩
 have ou:=aC (show w3.heap[A]? = some U8 from hblk▸HC.out.1)
 go_loopw [1,6] (fun x v wr=>∃(m f:Nat) (dn:List Value),x =.int .i64 (m:Int)∧m≤n∧Hid (dn++dH M f m=dH M 40 n∧dn.length+f=40∧m≤32*f)∧wr.ownsRow (A+1) 3 1 v dn.length dn∧Hid (wr.heap[A]? = some U8∧Below A w wr∧A+1≤wr.heap.size)) (fun x _ _=>(intOf x).toNat)
 case atStart=>exact⟨n,40,[],rfl,by omega,aC ⟨rfl,rfl,by omega⟩,World.ownsRow_nil _ _ _ _,aC ⟨ou.out,HC.out.2.1,HC.out.2.2⟩⟩
 case round =>
  obtain⟨m,f,dn,rfl,hmn,HR,hown,HW⟩:=hrel
  have v0:wr.heap[A]? = some (.cells #[.int .i64 base,.int .i64 term,.int .i64 (M:Int),.int .i64 subs,.int .i32 bG,.int .i32 dQ,.int .i32 str] 23 (0,0)):=hblk▸HW.out.1
  obtain⟨x0,x1,x2,x3,x4,x5,x6⟩:=qJ v0
  have hsz:=HW.out.2.2
  have hdn:dn.length≤40:=by have:=HR.out.2.1;omega
  have hal:(wr.alloc (.cells #[.int .i64 (M:Int)] 3)).heap.size=wr.heap.size+1:=by simp
  clear v0
  by_cases hlt:m>M
  ·have hlt1:(m:Int)>(M:Int):=by omega
   have q1:IntKind.i64.wrap ((m:Int)-(M:Int))=((m-M:Nat):Int):=by rw[IntKind.wrap_i64];omega
   go_wp2_with (first
    | (at_builtin;refine wpList_append_own _ rfl _ _ 167 rfl (A+1) 3 i0 _ 1 8 Tryz.underlying167 hi hz0 hz1 hz2 rfl (by decide) _ _ _ rfl (hown.alloc _) ⟨wr.heap.size,0,none⟩ 1 1 [.int .i64 (M:Int)] rfl rfl ?k1 ?k2 ?k3 ?k4 ?k5 ?_))
   case k1 =>
    intro j u hj
    rcases j with _|j
    ·injection hj with hj;subst hj;rw[show(⟨wr.heap.size,0,none⟩:Addr).add 0=⟨wr.heap.size,0,none⟩from Addr.add_lit _ _ _,World.cell?_alloc_at _ _ _ _ rfl];rfl
    ·cases hj
   case k2=>first|rfl|(intro u hu;simp at hu;subst hu;rfl)
   case k3=>unfold maxLen;omega
   case k4=>omega
   case k5=>simp;omega
   intro v' w4 hown' hgrow _
   have hB4:Below (A+1) wr w4:=((Below.refl (A+1) wr).alloc hsz (.cells #[.int .i64 (M:Int)] 3)).grown hgrow (by simp;omega) (fun j hj=>(hown.lt j hj).1)
   have R:=aC (show w4.ownsRow (A+1) 3 1 v' (dn++[Value.int .i64 (M:Int)]).length (dn++[Value.int .i64 (M:Int)])from by rw[List.length_append];exact hown')
   have B:=aC (show w4.heap[A]? = some U8∧Below A w w4∧A+1≤w4.heap.size from⟨(hB4.block A (by omega)).trans HW.out.1,HW.out.2.1.trans (hB4.mono (by omega)),Nat.le_trans hsz hB4.size⟩)
   have v4:w4.heap[A]? = some (.cells #[.int .i64 base,.int .i64 term,.int .i64 (M:Int),.int .i64 subs,.int .i32 bG,.int .i32 dQ,.int .i32 str] 23 (0,0)):=hblk▸B.out.1
   obtain⟨y0,y1,y2,y3,y4,y5,y6⟩:=qJ v4
   have HN:=aC (show(dn++[Value.int .i64 (M:Int)])++dH M (f-1) ((m-M:Nat):Int)=dH M 40 n∧(dn++[Value.int .i64 (M:Int)]).length+(f-1)=40∧m-M≤32*(f-1)from by
    obtain⟨h1,h2,h3⟩:=HR.out
    obtain⟨f',rfl⟩:∃f',f=f'+1:=⟨f-1,by omega⟩
    rw[tT hlt1]at h1
    refine⟨?_,by simp;omega,by omega⟩
    rw[List.append_assoc,show((m-M:Nat):Int)=(m:Int)-M by omega]
    exact h1)
   clear hown' hgrow hown hB4 v4 hal hsz
   go_wp2
   go_roundw
   case rel=>exact⟨m-M,f-1,_,rfl,by omega,HN,R.out,B⟩
   case measure=>simp[intOf];omega
  ·have hlt1:¬(m:Int)>(M:Int):=by omega
   go_wp2_with (first
    | (at_builtin;refine wpList_append_own _ rfl _ _ 167 rfl (A+1) 3 i0 _ 1 8 Tryz.underlying167 hi hz0 hz1 hz2 rfl (by decide) _ _ _ rfl (hown.alloc _) ⟨wr.heap.size,0,none⟩ 1 1 [.int .i64 (m:Int)] rfl rfl ?m1 ?m2 ?m3 ?m4 ?m5 ?_))
   case m2=>first|rfl|(intro u hu;simp at hu;subst hu;rfl)
   case m3=>unfold maxLen;omega
   case m4=>omega
   case m5=>omega
   intro v' w4 hown' hgrow _
   have hB4:Below (A+1) wr w4:=((Below.refl (A+1) wr).alloc hsz (.cells #[.int .i64 (m:Int)] 3)).grown hgrow (by simp;omega) (fun j hj=>(hown.lt j hj).1)
   have hl:dn++[Value.int .i64 (m:Int)]=dH M 40 n:=by
    have h1:=HR.out.1
    rw[xE (by omega)]at h1
    exact h1
   have R:=aC (show w4.ownsRow A 3 1 v' (dH M 40 n).length (dH M 40 n)from by
    rw[←hl,List.length_append]
    obtain⟨h1,h2⟩:=hown'
    refine⟨h1,h2.imp id ?_⟩
    rintro⟨g,cap,cur,e,hg,hr⟩
    exact⟨g,cap,cur,e,by omega,hr⟩)
   have B:=aC (show Below A w w4 from HW.out.2.1.trans (hB4.mono (by omega)))
   clear hown' hgrow hown hB4 hal hsz
   go_wp2
   exact bodyPost_ret (v :=.tuple #[v',.int .i64 0]) (by simp[results,Tryz.results137,go_sem]) rfl ⟨v',rfl,by rw[hA];exact⟨R.out,B.out⟩⟩
