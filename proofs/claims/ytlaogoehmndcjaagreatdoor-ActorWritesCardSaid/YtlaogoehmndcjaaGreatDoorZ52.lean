import Derived.Test.YtlaogoehmndcjaaGreatDoorZ51
import Derived.Test.YtlaogoehmndcjaaGreatDoorZ50
set_option linter.unusedVariables false
set_option maxRecDepth 1000000
set_option maxHeartbeats 3200000
set_option linter.unusedSectionVars false
set_option linter.unusedSimpArgs false
namespace Go.Proofs.YtlaogoehmndcjaaGreatDoor.Sy
open Go RowKit Lib AS Base Pr Ba
def D8 (T:Pr An rD) (L:List An) (n0 Y:Nat) (ga:Option Addr) (i cap:Nat) (W4:World) (e:Ending) (w5:World):Prop:=∃(v:Value) (o:rD),e =.returned (.tuple #[v,.agg #[.int .i64 o.s.part,.int .i32 o.s.term,.int .i64 o.s.off,.int .i64 o.s.size],.bool o.has])∧Only Y W4 w5∧(T.run (L.take i)).obs=o∧w5.ownsRow (Y+1) 78 8 v o.sent.length (o.sent.flatMap uE)∧True ∧
 ∃(a:Int) (c:Acc) (en:Bool) (ea:Option Addr) (ec:Nat),w5.heap[Y]? = some (.cells (uC (.slice ga i cap) a c.k c.at_ c.n c.v c.w (.slice ea c.b.length ec) en) 36)∧(∀(j:Nat) (x:Nat),c.b[j]? = some x→∃eb eo,ea=some ⟨eb,eo,none⟩∧(eb≠Y∧¬(n0≤eb∧eb<Y))∧w5.cell? ⟨eb,eo+j,none⟩=some (.int .u8 (x:Int)))∧∀w9 K nv,WV (T.run (L.take i)) w9 K nv→∃(ba:Option Addr) (bc:Nat),nv =.tuple #[Jo c ba bc,.bool en]∧∀(j:Nat) (x:Nat),c.b[j]? = some x→∃bb bo,ba=some ⟨bb,bo,none⟩∧w9.cell? ⟨bb,bo+j,none⟩=some (.int .u8 (x:Int))
theorem Ii {w W:World} {ob:Obj} (h:w.alloc ob=W):Below w.heap.size w W∧W.heap[w.heap.size]? = some ob:=by
 rw[←h];exact⟨(Below.refl _ _).alloc (Nat.le_refl _) _,aZ _ _⟩
theorem at6 {l:Lg} {T:Pr An rD} {q b n0 Y:Nat} {K:Nat→Prop} {wr W4 w5 W6:World} {ob:Obj} (hY:wr.heap.size=Y) (hW:WR l T q wr b K) (hK:∀k,K k→n0≤k) (hb4:Below Y wr W4) (hs4:W4.heap.size=Y+1) (hO:Only Y W4 w5) (hW6:w5.alloc ob=W6) :
 Below w5.heap.size w5 W6∧W6.heap[w5.heap.size]? = some ob∧(∀k,K k→(n0≤k∧k<Y)∨W6.heap.size≤k)∧WR l T q W6 b K:=by
 obtain⟨b6,r6⟩:=Ii hW6
 have h5:=hO.size
 have h6:=b6.size
 refine⟨b6,r6,fun k hk => .inl ⟨hK k hk,hY▸hW.lt k hk⟩,hW.move (by omega) fun k hk => ?_⟩
 have hk2:=hW.lt k hk
 exact(b6.block k (by omega)).trans ((hO.block k (by omega) (by omega)).trans (hb4.block k (by omega)))
theorem aaw {n0 Y n:Nat} {a ck cat cn cv cw sp st so sz:Int} {ea ba:Option Addr} {ec bc:Nat} {en:Bool} {W4 w5 W6 w7 w9 KL:World} {s:Value} (hO:Only Y W4 w5) (hs4:W4.heap.size=Y+1) (htp:w5.heap[Y]? = some (.cells (uC s a ck cat cn cv cw (.slice ea n ec) en) 36)) (b6:Below w5.heap.size w5 W6) (r6:W6.heap[w5.heap.size]? = some (.cells #[.int .i64 sp,.int .i32 st,.int .i64 so,.int .i64 sz] 39)) (hF:Fz n0 Y W6 w9) (r9:w9.heap[w7.heap.size]? = some (.cells #[.int .i64 ck,.int .i64 cat,.int .i64 cn,.int .u64 cv,.int .u64 cw,.slice ba n bc] 34)) (b10:Below w9.heap.size w9 KL) (YZ:KL.heap[w9.heap.size]? = some (.cells #[.int .i64 sp,.int .i32 st,.int .i64 so,.int .i64 sz] 39)) :
 Ml KL Y w7.heap.size w5.heap.size w9.heap.size n ck cat cn cv cw sp st so sz ea ba ec bc en∧Fz n0 Y W6 KL:=by
 have Uf:=hF.below b10
 have h5:=hO.size
 have l6:=(Array.getElem?_eq_some_iff.1 r6).1
 have t1:KL.heap[Y]? = _:=(Uf.block Y (by omega) (by omega)).trans ((b6.block Y (by omega)).trans htp)
 have t2:KL.heap[w5.heap.size]? = _:=(Uf.block _ l6 (by omega)).trans r6
 have t3:KL.heap[w7.heap.size]? = _:=(b10.block _ (Array.getElem?_eq_some_iff.1 r9).1).trans r9
 unfold uC at t1
 refine⟨?_,Uf⟩
 unfold Ml
 refine⟨?_,?_,?_,?_,?_,?_,?_,?_,?_,?_,?_,?_,?_,?_,?_,?_,?_,?_,?_,?_,?_⟩<;>simp[World.cell?,t1,t2,t3,YZ]
theorem aav {n0 Y:Nat} {W3 wr W4 w5 W6 KL Mo:World} {K9:Nat→Prop} (hY:wr.heap.size=Y) (hb:Below n0 W3 wr) (hn:n0≤wr.heap.size) (hb4:Below Y wr W4) (hs4:W4.heap.size=Y+1) (hO:Only Y W4 w5) (b6:Below w5.heap.size w5 W6) (hF:Fz n0 Y W6 KL) (hK:∀k,K9 k→(n0≤k∧k<Y)∨W6.heap.size≤k) (hB:Below KL.heap.size KL Mo):(∀k,K9 k→n0≤k)∧Below n0 W3 Mo∧n0≤Mo.heap.size:=by
 have h5:=hO.size
 have h6:=b6.size
 have h10:=hF.size
 have h11:=hB.size
 have h0:=hb.size
 refine⟨fun k hk => ?_,⟨?_,?_,?_,by omega,fun k hk => ?_⟩,by omega⟩
 ·rcases hK k hk with h|h
  ·exact h.1
  ·omega
 ·exact hB.os.trans (hF.os.trans (b6.os.trans (hO.os.trans (hb4.os.trans hb.os))))
 ·exact hB.tape.trans (hF.tape.trans (b6.tape.trans (hO.tape.trans (hb4.tape.trans hb.tape))))
 ·exact hB.output.trans (hF.output.trans (b6.output.trans (hO.output.trans (hb4.output.trans hb.output))))
 ·exact(hB.block k (by omega)).trans ((hF.block k (by omega) (by omega)).trans ((b6.block k (by omega)).trans ((hO.block k (by omega) (by omega)).trans ((hb4.block k (by omega)).trans (hb.block k hk)))))
theorem aau {l:Lg} {T:Pr An rD} {q b n0 X:Nat} {w W3 Mo Vj:World} {K9 Zk:Nat→Prop} (h:(∀k,K9 k→n0≤k)∧Below n0 W3 Mo∧n0≤Mo.heap.size) (hX:Below X w Mo) (hk:WK K9 Mo Vj Zk) (hXn:X≤n0) (hr:WR l T q Vj b Zk):Below X w Vj∧XS l T q n0 b W3 Vj:=by
 obtain⟨h1,h2,h3⟩:=h
 have hs:=hk.jL.size
 have hb:Below n0 Mo Vj:=⟨hk.jL.os,hk.jL.tape,hk.jL.output,hs,fun k hkn=>hk.jL.block k (by omega) fun hh=>by have:=h1 k hh;omega⟩
 refine⟨hX.trans (hb.mono hXn),Zk,hr,fun k hk2 => ?_,h2.trans hb,by omega⟩
 rcases hk.new k hk2 with h4|h4
 ·exact h1 k h4
 ·omega
theorem RS {w:World} {b:Nat} {t:TypeId} {v0 v1 v2 v3 v4 v5 v6:Value} (h:w.heap[b]? = some (.cells #[v0,v1,v2,v3,v4,v5,v6] t (0,0))):w.cell? ⟨b,0,none⟩=some v0∧w.cell? ⟨b,1,none⟩=some v1∧w.cell? ⟨b,2,none⟩=some v2∧w.cell? ⟨b,3,none⟩=some v3∧w.cell? ⟨b,4,none⟩=some v4∧w.cell? ⟨b,5,none⟩=some v5∧w.cell? ⟨b,6,none⟩=some v6:=by
 refine⟨?_,?_,?_,?_,?_,?_,?_⟩<;>simp[World.cell?,h]
theorem WU (l:Lg) (hw:l.wf) (n:Nat) (la:Option Addr) (lc:Nat) (tries:Int) (L:List An) (ga:Option Addr) (cap:Nat) (hcap:L.length≤cap) (hL0:L.length≤9223372036854775807) (T:Pr An rD) (P:Prop) (w:World) (h1:1≤w.heap.size)
 (hA:∀(j:Nat) (x:An),L[j]? = some x→(0≤x.v∧x.v<18446744073709551616)∧∃gb go ba bn bc,ga=some ⟨gb,go,none⟩∧w.cell? ⟨gb,go+j*3,none⟩=some (.int .u64 x.v)∧w.cell? ⟨gb,go+j*3+1,none⟩=some (.bool x.dn)∧w.cell? ⟨gb,go+j*3+2,none⟩=some (.slice ba bn bc))
 (c5:∀W,Below w.heap.size w W→Calls Tryz.prog 5 #[] W fun e w'=>e =.returned (.bool true)∧Below W.heap.size W w')
 (c6:∀W,Below w.heap.size w W→Calls Tryz.prog 6 #[.slice la n lc] W fun e w'=>(∃bo:Bool,e =.returned (.bool bo)∧(bo=true→P))∧Below W.heap.size W w')
 (c7:P→∀W,Below w.heap.size w W→Calls Tryz.prog 7 #[l.val,.slice la n lc,.int .i64 tries] W fun e w'=>∃b K',e =.returned (.pointer (some ⟨b,0,none⟩))∧Below W.heap.size W w'∧(∀k,K' k→W.heap.size≤k)∧WR l T 1000 w' b K')
 (c8:P→∀(n0 i:Nat) (wr W4:World),Below w.heap.size w wr→w.heap.size≤n0→n0≤wr.heap.size→i≤L.length→i≤70→wr.alloc (.cells (eG (.slice ga i cap) 0 0 0 0 0 0 false) 36)=W4→Calls Tryz.prog 8 #[.pointer (some ⟨wr.heap.size,0,none⟩),l.val,.slice la n lc,.int .i64 tries] W4 (D8 T L n0 wr.heap.size ga i cap W4))
 (c11:∀(c:Acc) (ba ea:Option Addr) (bc ec:Nat) (W:World),(∀(j:Nat) (x:Nat),c.b[j]? = some x→∃bb bo,ba=some ⟨bb,bo,none⟩∧W.cell? ⟨bb,bo+j,none⟩=some (.int .u8 (x:Int)))→(∀(j:Nat) (x:Nat),c.b[j]? = some x→∃bb bo,ea=some ⟨bb,bo,none⟩∧W.cell? ⟨bb,bo+j,none⟩=some (.int .u8 (x:Int)))→Calls Tryz.prog 11 #[.agg #[.int .i64 c.k,.int .i64 c.at_,.int .i64 c.n,.int .u64 c.v,.int .u64 c.w,.slice ba c.b.length bc],.agg #[.int .i64 c.k,.int .i64 c.at_,.int .i64 c.n,.int .u64 c.v,.int .u64 c.w,.slice ea c.b.length ec]] W fun e w'=>e =.returned (.bool true)∧Below W.heap.size W w')
 (c12:∀(out:List ng),out.length≤1000→∀(v1 v2:Value) (b1 b2:Nat) (W:World),W.ownsRow b1 78 8 v1 out.length (out.flatMap uE)→W.ownsRow b2 78 8 v2 out.length (out.flatMap uE)→Calls Tryz.prog 12 #[v1,v2] W fun e w'=>e =.returned (.bool true)∧Below W.heap.size W w') :
 Calls Tryz.prog 3 #[l.val,.slice la n lc,.int .i64 tries,.slice ga L.length cap] w fun e w'=>e =.returned (.bool true)∧Below w.heap.size w w':=by
 obtain⟨lv,hlv⟩:∃lv,l.val=lv:=⟨_,rfl⟩
 obtain⟨base,term,aV,subs,bG,dQ,str⟩:=l
 obtain⟨l,hl⟩:∃l:Lg,(⟨base,term,aV,subs,bG,dQ,str⟩:Lg)=l:=⟨_,rfl⟩
 have hlv2:lv =.agg #[.int .i64 base,.int .i64 term,.int .i64 aV,.int .i64 subs,.int .i32 bG,.int .i32 dQ,.int .i32 str]:=by rw[←hlv];rfl
 rw[hlv]at c7 c8 ⊢
 rw[hl]at c7 hw
 subst hlv2
 obtain⟨X,hX⟩:∃X,w.heap.size=X:=⟨_,rfl⟩
 obtain⟨W1,hW1⟩:∃W1,w.alloc (.cells #[.int .i64 base,.int .i64 term,.int .i64 aV,.int .i64 subs,.int .i32 bG,.int .i32 dQ,.int .i32 str] 23)=W1:=⟨_,rfl⟩
 have hs1:W1.heap.size=X+1:=by rw[←hW1,←hX];simp
 have b1:Below X w W1:=by rw[←hW1,←hX];exact(Below.refl _ _).alloc (Nat.le_refl _) _
 have r1:W1.heap[X]? = some (.cells #[.int .i64 base,.int .i64 term,.int .i64 aV,.int .i64 subs,.int .i32 bG,.int .i32 dQ,.int .i32 str] 23):=by rw[←hW1,←hX];exact aZ _ _
 rw[hX]at c5 c6 c7 c8
 have HA:=aC hA
 have HC:=aC (aR c6 (aR c7 c8))
 have HD:=aC (aR c11 c12)
 have cF:=c5 W1 b1
 have H0:=aC (aR b1 r1)
 clear hA c5 c6 c7 c8 c11 c12 b1 r1 hlv
 have hfin:∀W',Below X w W'→Below w.heap.size w W':=fun W' h=>hX▸h
 by_cases hlen:(L.length:Int)>70
 ·go_enter Tryz.func3,Tryz.ntmps3
  go_wp2_with (first
   | (go_at_call 5;refine cF.mono ?_;clear cF;rintro e W2 ⟨rfl,hB⟩;have HB2:=aC (show Below X w W2 from H0.out.1.trans (hB.mono (by omega)));clear hB)
   | (go_at_call 6;refine(HC.out.1 W2 HB2.out).mono ?_;rintro e W3 ⟨⟨bo,rfl,hP⟩,hB⟩;have HB3:=aC (show Below X w W3 from HB2.out.trans (hB.mono (by have:=HB2.out.size;omega)));clear hB hP;cases bo))
  all_goals go_ret
  all_goals exact⟨rfl,hfin _ HB3.out⟩
 ·have vv:(L.length:Int)≤70:=by omega
  go_enter Tryz.func3,Tryz.ntmps3
  go_wp2_with (first
   | (go_at_call 5;refine cF.mono ?_;clear cF;rintro e W2 ⟨rfl,hB⟩;have HB2:=aC (show Below X w W2 from H0.out.1.trans (hB.mono (by omega)));have HR2:=aC (aR ((hB.block X (by omega)).trans H0.out.2) (show X+1≤W2.heap.size from hs1▸hB.size));clear hB)
   | (go_at_call 6;refine(HC.out.1 W2 HB2.out).mono ?_;rintro e W3 ⟨⟨bo,rfl,hP⟩,hB⟩;have HB3:=aC (show Below X w W3 from HB2.out.trans (hB.mono (by have:=HR2.out.2;omega)));have HR3:=aC (aR ((hB.block X (by have:=HR2.out.2;omega)).trans HR2.out.1) (Nat.le_trans HR2.out.2 hB.size));clear hB;have Zl:=aC hP;clear hP;obtain⟨m0,m1,m2,m3,m4,m5,m6⟩:=RS HR3.out.1;cases bo)
   | (go_at_call 7;(refine(HC.out.2.1 (by first|exact Zl.out rfl|exact Zl.out trivial) W3 HB3.out).mono ?_;rintro e wr0 ⟨b,K0,rfl,hB,hK0,hW0⟩;have HX0:=aC (show XS l T 1000 W3.heap.size b W3 wr0 from⟨K0,hW0,hK0,hB,hB.size⟩);clear hB hK0 hW0 m0 m1 m2 m3 m4 m5 m6)))
  ·go_ret
   exact⟨rfl,hfin _ HB3.out⟩
  have hp:P:=by first|exact Zl.out rfl|exact Zl.out trivial
  go_loopw [10] (fun ii wr=>∃i:Nat,ii =.int .i64 (i:Int)∧i≤L.length+1∧Hid (Below X w wr∧(i≤L.length→XS l (T.run (L.take i)) (1000-i) W3.heap.size b W3 wr))) (fun ii _=>((100:Int)-intOf ii).toNat)
  case atStart=>exact⟨0,rfl,Nat.zero_le _,aC ⟨by obtain⟨_,_,_,h,_⟩:=HX0.out;have:=HR3.out.2;exact HB3.out.trans (h.mono (by omega)),fun _=>by rw[show L.take 0=[]from rfl,Pr.CX];exact HX0.out⟩⟩
  case round =>
   obtain⟨i,rfl,hi,HS⟩:=hrel
   clear HX0
   have hBX:=aC HS.out.1
   by_cases hi2:L.length<i
   ·obtain rfl:i=L.length+1:=by omega
    have q1:¬((L.length:Int)+1≤(L.length:Int)):=by omega
    go_wp2
    go_ret
    first|exact⟨rfl,hBX.out⟩|exact⟨rfl,hfin _ hBX.out⟩
   have hi:i≤L.length:=by omega
   have hii:(i:Int)≤(L.length:Int):=by omega
   obtain⟨K,XF,hKn,hbl,hn0⟩:=HS.out.2 hi
   obtain⟨Y,hY⟩:∃Y,wr.heap.size=Y:=⟨_,rfl⟩
   obtain⟨W4,Bl⟩:∃W4,wr.alloc (.cells #[.slice ga i cap,.int .i64 0,.int .i64 0,.int .i64 0,.int .i64 0,.int .u64 0,.int .u64 0,.slice none 0 0,.bool false] 36)=W4:=⟨_,rfl⟩
   have hb4:Below Y wr W4:=by rw[←Bl,←hY];exact(Below.refl _ _).alloc (Nat.le_refl _) _
   have hs4:W4.heap.size=Y+1:=by rw[←Bl,←hY];simp
   have hX3:=HR3.out.2
   have hx4:=(hb4.block X (by omega)).trans ((hbl.block X (by omega)).trans HR3.out.1)
   obtain⟨m0,m1,m2,m3,m4,m5,m6⟩:=RS hx4
   have c8:=HC.out.2.2 hp W3.heap.size i wr W4 (HB3.out.trans (hbl.mono (by omega))) (by omega) hn0 hi (by omega) Bl
   rw[hY]at c8
   have HK:=aC (aR XF (aR hKn (aR hbl (aR hn0 (aR hb4 hs4)))))
   clear XF hKn hbl hn0 hb4 hs4 hx4
   go_wp2_with (first
    | (go_at_call 8;(refine c8.mono ?_;clear c8;rintro e w5 ⟨v,⟨sent,⟨sp,st,so,sz⟩,has⟩,rfl,hO,Xj,hrow,hln,a,⟨ck,cat,cn,cv,cw,cb⟩,en,ea,ec,htp,hea,hcmp⟩;dsimp only at *;have H5:=aC (aR hO (aR Xj (aR hrow (aR hln (aR htp (aR hea hcmp))))));clear hO Xj hrow hln htp hea hcmp m0 m1 m2 m3 m4 m5 m6))
    | (go_at_call 9;(
        generalize hW6:World.alloc w5 _=W6
        obtain⟨b6,r6,f6,l6⟩:=at6 hY HK.out.1 HK.out.2.1 HK.out.2.2.2.2.1 HK.out.2.2.2.2.2 H5.out.1 hW6
        refine(PN l6).mono ?_
        rintro e w7 ⟨nv,K7,rfl,hk7,hN7⟩
        obtain⟨ba,bc,rfl,-⟩:=H5.out.2.2.2.2.2.2 w7 K7 nv hN7.wv
        obtain⟨hF7,hK7⟩:=(Fz.refl (w:=W6)).wk hk7 f6
        have H7:=aC (aR b6 (aR r6 (aR hN7 (aR hF7 hK7))))
        unfold Jo
        dsimp only
        clear b6 r6 f6 l6 hk7 hN7 hF7 hK7))
    | (go_at_call 10;(
        generalize hW8:World.alloc w7 _=W8
        obtain⟨b8,r8⟩:=Ii hW8
        have c:=PL (H7.out.2.2.1.move (W':=W8) b8.size fun k hk=>b8.block k (H7.out.2.2.1.lt k hk))
        rw[H5.out.2.1]at c
        unfold iq at c
        dsimp only at c
        refine c.mono ?_
        clear c
        rintro e w9 ⟨K9,rfl,Z4,hN9⟩
        obtain⟨hF9,hK9⟩:=(H7.out.2.2.2.1.below b8).wk Z4 H7.out.2.2.2.2
        have r9:=(Z4.jL.block w7.heap.size (by have:=(Array.getElem?_eq_some_iff.1 r8).1;exact this) (fun h=>by have:=H7.out.2.2.1.lt _ h;omega)).trans r8
        have H9:=aC (aR hN9 (aR hF9 (aR hK9 r9)))
        clear b8 r8 Z4 hN9 hF9 hK9 r9)))
   generalize aah:World.alloc w9 _=KL
   obtain⟨b10,YZ⟩:=Ii aah
   have HZ:=aC (aaw (H5.out.1) HK.out.2.2.2.2.2 H5.out.2.2.2.2.1 H7.out.1 H7.out.2.1 H9.out.2.1 H9.out.2.2.2 b10 YZ)
   refine EZ ?_
   refine Qf (b:=b) (Y:=Y) (A:=w7.heap.size) (S1:=w5.heap.size) (S2:=w9.heap.size) (n:=cb.length) (ak:=ck) (aa:=cat) (am:=cn) (av:=cv) (au:=cw) (sp:=sp) (st:=st) (so:=so) (sz:=sz) (ea:=ea) (ba:=ba) (ec:=ec) (bc:=bc) (en:=en) (has:=has) ?c11 ?c13 (aC HZ.out.1) _ ?fin
   case c11 =>
    intro V' hV'
    refine HD.out.1 ⟨ck,cat,cn,cv,cw,cb⟩ ba ea bc ec V' (fun j x hj => ?_) (fun j x hj => ?_)
    ·obtain⟨ba',bc',e,hb⟩:=H5.out.2.2.2.2.2.2 w9 K9 _ H9.out.1.wv
     simp[Jo]at e
     obtain⟨rfl,rfl⟩:=e
     obtain⟨bb,bo,e2,hc⟩:=hb j x hj
     have hc2:=(b10.cell (World.block_lt_of_cell? w9 _ hc)).trans hc
     exact⟨bb,bo,e2,(hV'.cell (World.block_lt_of_cell? KL _ hc2)).trans hc2⟩
    ·obtain⟨eb,eo,e2,hne,hc⟩:=H5.out.2.2.2.2.2.1 j x hj
     have hc6:=(H7.out.1.cell (World.block_lt_of_cell? w5 _ hc)).trans hc
     have hc2:=(bE (HZ.out.2.block eb (World.block_lt_of_cell? W6 _ hc6) hne.2)).trans hc6
     exact⟨eb,eo,e2,(hV'.cell (World.block_lt_of_cell? KL _ hc2)).trans hc2⟩
   case c13 =>
    intro V' hV'
    have XF:=(H9.out.1.wr).move (W':=V') (Nat.le_trans b10.size hV'.size) (fun k hk=>(hV'.block k (Nat.lt_of_lt_of_le (H9.out.1.lt k hk) b10.size)).trans (b10.block k (H9.out.1.lt k hk)))
    have hln:sent.length≤1000:=by
     obtain⟨_,_,_,_,_,_,out,_,_,ho,hl⟩:=Jw XF
     rw[H5.out.2.1]at ho
     dsimp only at ho
     rw[ho];omega
    refine(PI XF).mono ?_
    rintro e w' ⟨x,rfl,hx,hb⟩
    rw[H5.out.2.1]at hx
    dsimp only at hx
    refine⟨x,rfl,hb,fun W' hW'=>HD.out.2 sent hln x v _ (Y+1) W' (yD hx fun g hg=>hW'.block g (hx.lt g hg).2) (yD H5.out.2.2.1 fun g hg => ?_)⟩
    obtain⟨g1,g2⟩:=H5.out.2.2.1.lt g hg
    have l6:=H7.out.1.size
    have l10:=HZ.out.2.size
    have lV:=hV'.size
    have lw:=hb.size
    exact(hW'.block g (by omega)).trans ((hb.block g (by omega)).trans ((hV'.block g (by omega)).trans ((HZ.out.2.block g (by omega) (by omega)).trans (H7.out.1.block g g2))))
   case fin =>
    intro x90 Mo QI
    have HM:=aC (aav hY HK.out.2.2.1 HK.out.2.2.2.1 HK.out.2.2.2.2.1 HK.out.2.2.2.2.2 H5.out.1 H7.out.1 HZ.out.2 H9.out.2.2.1 QI)
    have HW:=aC ((H9.out.1.wr).move (W':=Mo) (Nat.le_trans b10.size QI.size) (fun k hk=>(QI.block k (Nat.lt_of_lt_of_le (H9.out.1.lt k hk) b10.size)).trans (b10.block k (H9.out.1.lt k hk))))
    have YU:=aC (show Below X w Mo from HB3.out.trans (HM.out.2.1.mono (by omega)))
    clear HZ H9 H7 H5 HK HD HC YZ b10 QI
    have q5:IntKind.i64.wrap ((i:Int)+1)=(i:Int)+1:=by rw[IntKind.wrap_i64];omega
    by_cases hlt:i<L.length
    ·obtain⟨x,hx⟩:∃x,L[i]? = some x:=⟨L[i],List.getElem?_eq_getElem hlt⟩
     obtain⟨hV,gb,go,ba2,bn2,bc2,rfl,h0,h1,h2⟩:=HA.out i x hx
     have h0':=(YU.out.cell (by have:=World.block_lt_of_cell? w _ h0;omega)).trans h0
     have h1':=(YU.out.cell (by have:=World.block_lt_of_cell? w _ h1;omega)).trans h1
     have h2':=(YU.out.cell (by have:=World.block_lt_of_cell? w _ h2;omega)).trans h2
     have q1:IntKind.i64.wrap (i:Int)=(i:Int):=by rw[IntKind.wrap_i64];omega
     have q2:(0:Int)≤(i:Int):=by omega
     have q3:(i:Int)<(L.length:Int):=by omega
     have c:=PG (q:=1000-(i+1)) hw (by have h:=HW.out;rwa [show 1000-i=1000-(i+1)+1 by omega]at h) hV (xa:=ba2) (xn:=bn2) (xc:=bc2)
     have hTn:(T.run (L.take i)).run [x]=T.run (L.take (i+1)):=by rw[←Pr.zh,List.take_add_one,hx];rfl
     rw[hTn]at c
     unfold BD at c
     clear h0 h1 h2 hTn hx HW
     go_step
     go_wp2_with (first
      | (go_at_call 14;(refine c.mono ?_;clear c;rintro e Vj ⟨Zk,rfl,Xp,Xe⟩;have HN:=aC (aau HM.out YU.out Xp (by omega) Xe);clear Xp Xe)))
     go_roundw
     case measure=>simp[intOf];omega
     case rel=>exact⟨i+1,by simp,by omega,aC ⟨HN.out.1,fun _=>HN.out.2⟩⟩
    ·obtain rfl:i=L.length:=by omega
     have q3:¬(L.length:Int)<(L.length:Int):=by omega
     go_step
     go_wp2
     go_roundw
     case measure=>simp[intOf];omega
     case rel=>exact⟨L.length+1,by simp,by omega,aC ⟨YU.out,fun h=>absurd h (by omega)⟩⟩
end Go.Proofs.YtlaogoehmndcjaaGreatDoor.Sy
namespace Go.Proofs.YtlaogoehmndcjaaGreatDoor.Sy
open Go RowKit Lib AS Base Pr Ba
def oq (w:World) (la:Option Addr) (j:Nat) (o:gz):Prop:=∃g go ba bc,la=some ⟨g,go,none⟩∧w.cell? ⟨g,go+2*j,none⟩=some (.int .i64 o.kind)∧w.cell? ⟨g,go+2*j+1,none⟩=some (.slice ba o.data.length bc)∧BytesIn w ba o.data∧(∀x∈o.data,x<256)∧((∃eb eo,ba=some ⟨eb,eo,none⟩∧o.data.length≤bc∧bc≤9223372036854775807)∨(o.data=[]∧bc=0))
section
variable {w w':World} {la:Option Addr} {j:Nat} {o:gz}
theorem oq.below (h:oq w la j o) (hb:Below w.heap.size w w'):oq w' la j o:=by
 letI z0:Zn:=⟨fun _=>False⟩
 obtain⟨g,go,ba,bc,e,h0,h1,h2,h3⟩:=h
 exact⟨g,go,ba,bc,e,(hb.cell (World.block_lt_of_cell? w _ h0)).trans h0,(hb.cell (World.block_lt_of_cell? w _ h1)).trans h1,h2.below hb,h3⟩
theorem oq.l (h:oq w la j o):OpL w la j o.data.length:=by
 obtain⟨g,go,ba,bc,e,h0,h1,h2,h3⟩:=h
 exact⟨g,go,ba,bc,_,e,h0,h1⟩
theorem oq.d [Zn] (hz:∀k,k<w.heap.size→¬Zn.z k) (h:oq w la j o) (hb:Below w.heap.size w w') {tb:Nat} (ht:w.heap.size≤tb) (hl:o.data.length≤300):OpD w' tb la j o:=by
 obtain⟨g,go,ba,bc,e,h0,h1,h2,h3,h4⟩:=h
 have up:∀{a:Addr} {v:Value},w.cell? a=some v→w'.cell? a=some v:=fun h=>(hb.cell (World.block_lt_of_cell? w _ h)).trans h
 have hg:g<w.heap.size:=World.block_lt_of_cell? w _ h0
 refine⟨g,go,ba,bc,e,by have:=hb.size;omega,by omega,up h0,up h1,⟨⟨rfl,fun i x hx => ?_⟩,h4⟩,hl⟩
 obtain⟨bb,bo,e2,hc⟩:=h2 i x hx
 have hlt:bb<w.heap.size:=World.block_lt_of_cell? w _ hc
 exact⟨bb,bo,e2,⟨by omega,hz bb hlt⟩,up hc⟩
end
theorem SC {w:World} {la:Option Addr} {lc:Nat} {acts:List gz} (hc:acts.length≤lc) (h:∀j o,acts[j]? = some o→oq w la j o):xL w (fun k=>k<w.heap.size) (.slice la acts.length lc) acts:=by
 refine⟨la,acts.length,lc,rfl,rfl,hc,fun j o hj => ?_⟩
 obtain⟨g,go,ba,bc,e,h0,h1,h2,h3,h4⟩:=h j o hj
 refine⟨g,go,ba,bc,e,World.block_lt_of_cell? w _ h0,h0,h1,fun i x hx => ?_⟩
 obtain⟨bb,bo,e2,hc⟩:=h2 i x hx
 exact⟨bb,bo,e2,fun i hi=>absurd hi (Nat.not_lt_zero _),World.block_lt_of_cell? w _ hc,hc⟩
theorem WQ (l:Lg) (hw:l.wf) (hi:o8 l) (acts:List gz) (la:Option Addr) (lc:Nat) (hlc:acts.length≤lc) (hn:acts.length≤9223372036854775807) (hdn:∀o∈acts,o.data.length≤9223372036854775807) (tries:Int) (ht : -9223372036854775808≤tries∧tries<9223372036854775808) (L:List An) (ga:Option Addr) (cap:Nat) (hcap:L.length≤cap) (hL0:L.length≤9223372036854775807) (w:World) (XI:TabAt 0 Lib.deBruijn64tab w)
 (hA:∀(j:Nat) (x:An),L[j]? = some x→(0≤x.v∧x.v<18446744073709551616)∧∃gb go ba bn bc,ga=some ⟨gb,go,none⟩∧w.cell? ⟨gb,go+j*3,none⟩=some (.int .u64 x.v)∧w.cell? ⟨gb,go+j*3+1,none⟩=some (.bool x.dn)∧w.cell? ⟨gb,go+j*3+2,none⟩=some (.slice ba bn bc))
 (hO:∀j o,acts[j]? = some o→oq w la j o) :
 Calls Tryz.prog 3 #[l.val,.slice la acts.length lc,.int .i64 tries,.slice ga L.length cap] w fun e w'=>e =.returned (.bool true)∧Below w.heap.size w w':=by
 letI z0:Zn:=⟨fun _=>False⟩
 have h1:1≤w.heap.size:=World.block_lt_of_cell? w _ (XI 0 (by decide))
 have hOp:∀W,Below w.heap.size w W→∀j o,acts[j]? = some o→oq W la j o:=fun W hb j o hj=>(hO j o hj).below hb
 refine WU l hw acts.length la lc tries L ga cap hcap hL0 (fq (aP l) ((max tries 0).toNat+acts.length) acts (max tries 0) 1 []) (acts.length≤12∧∀(j:Nat) (o:gz),acts[j]? = some o→o.data.length≤300) w h1 hA ?_ ?_ ?_ ?_ ?_ ?_
 ·exact fun W hb=>fixed W (Zw XI (hb.mono h1))
 ·intro W hb
  refine(aar la acts.length lc (fun j=>(acts.getD j ⟨0,[]⟩).data.length) hn (fun j hj => ?_) W (fun j hj => ?_)).mono ?_
  ·rw[List.getD_eq_getElem?_getD,List.getElem?_eq_getElem hj];exact hdn _ (List.getElem_mem hj)
  ·have h:=(hOp W hb j acts[j] (List.getElem?_eq_getElem hj)).l
   rw[List.getD_eq_getElem?_getD,List.getElem?_eq_getElem hj];exact h
  ·rintro e w' ⟨⟨bo,rfl,hbo⟩,hB⟩
   refine⟨⟨bo,rfl,fun h=>⟨(hbo h).1,fun j o hj => ?_⟩⟩,hB⟩
   have h2:(acts.getD j ⟨0,[]⟩).data.length≤300:=(hbo h).2 j (List.getElem?_eq_some_iff.1 hj).1
   rwa [List.getD_eq_getElem?_getD,hj]at h2
 ·intro hP W hb
  refine GM hw (SC hlc (hOp W hb)) (fun o ho => ?_) (by omega) ht (by omega)
  obtain⟨j,hj⟩:=List.mem_iff_getElem?.1 ho
  obtain⟨g,go,ba,bc,_,_,_,_,h5,_⟩:=hO j o hj
  exact⟨h5,by have:=hP.2 j o hj;omega⟩
 ·intro hP n0 i wr W4 hb hn0 hn1 hil hi7 Bl
  letI:Zn:=⟨fun k=>n0≤k∧k<wr.heap.size⟩
  have aaf:Below w.heap.size w W4:=by rw[←Bl];exact hb.alloc hb.size _
  have hAR:Mm w w.heap.size ga L:=fun j x hj=>by
   obtain⟨hv,gb,go,ba,bn,bc,e,c0,c1,c2⟩:=hA j x hj
   exact⟨hv,gb,go,ba,bn,bc,e,by have:gb<w.heap.size:=World.block_lt_of_cell? w _ c0;omega,c0,c1,c2⟩
  have hT:=Si (cap:=cap) hAR hb hil (by omega)
  rw[Bl]at hT
  have hs4:W4.heap.size=wr.heap.size+1:=by rw[←Bl];simp
  have Z7:(L.take i).length=i:=by rw[List.length_take];omega
  refine(R7 l hw hi acts la lc tries ht hP.1 W4 (fun j o hj=>(hO j o hj).d (fun k hk hz=>by have h3:n0≤k∧k<wr.heap.size:=hz;omega) aaf (by omega) (hP.2 j o hj)) hT).mono ?_
  rintro e w5 ⟨v,o,rfl,hown,hE⟩
  obtain⟨a,c,en,ea,ec,g1,g2,g3⟩:=Ut hE
  rw[Z7]at g1
  refine⟨v,o,rfl,hE.only,TA hE,by rw[←hs4];exact hown,trivial,a,c,en,ea,ec,g1,fun j x hj => ?_,g3⟩
  exact g2.2 j x hj
 ·exact fun c ba ea bc ec W h1 h2=>K8 c ba ea bc ec W h1 h2
 ·exact fun out hn v1 v2 b1 b2 W h1 h2=>K6 out hn v1 v2 b1 b2 W h1 h2
