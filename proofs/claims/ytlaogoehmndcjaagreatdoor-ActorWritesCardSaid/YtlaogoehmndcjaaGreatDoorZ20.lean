import Derived.Test.YtlaogoehmndcjaaGreatDoorZ16
import Derived.Test.YtlaogoehmndcjaaGreatDoorZ15
import Derived.Test.YtlaogoehmndcjaaGreatDoorZ19
import Derived.Test.YtlaogoehmndcjaaGreatDoorZ14
set_option maxHeartbeats 3200000
set_option maxRecDepth 1000000
set_option linter.unusedSectionVars false
set_option linter.unusedVariables false
set_option linter.unusedSimpArgs false
namespace Go.Proofs.YtlaogoehmndcjaaGreatDoor.Ba
open Go RowKit Lib Base
theorem xz (n:Int) (w:World):Calls Tryz.prog 65 #[.int .i64 n] w fun e w'=>e =.returned (.bool (decide (fJ n)))∧w'=w:=by
 by_cases h:fJ n
 ·rw[decide_eq_true h]
  rcases h with rfl|rfl|rfl|rfl|rfl|rfl
  all_goals go_enter Tryz.func65,Tryz.ntmps65
  all_goals go_wp2
  all_goals refine wp_loop_rounds 7 ?_
  all_goals (iterate 8 (try rw[rounds_succ];go_wp2))
  all_goals go_ret
  all_goals exact⟨rfl,rfl⟩
 ·rw[decide_eq_false h]
  have h1:¬(256:Int)=n:=fun e=>h (by unfold fJ;omega)
  have h2:¬(512:Int)=n:=fun e=>h (by unfold fJ;omega)
  have h3:¬(1024:Int)=n:=fun e=>h (by unfold fJ;omega)
  have h4:¬(2048:Int)=n:=fun e=>h (by unfold fJ;omega)
  have h5:¬(4096:Int)=n:=fun e=>h (by unfold fJ;omega)
  have h6:¬(8192:Int)=n:=fun e=>h (by unfold fJ;omega)
  go_enter Tryz.func65,Tryz.ntmps65
  go_wp2
  refine wp_loop_rounds 7 ?_
  iterate 8 (try rw[rounds_succ];go_wp2)
  go_ret
  exact⟨rfl,rfl⟩
theorem jc (l:Lg) (hw:l.wf) (w:World):Calls Tryz.prog 38 #[l.val] w fun e w'=>e =.returned (.bool (decide l.ok))∧Below w.heap.size w w':=by
 have c1:=fun W=>xz l.term W
 have hok:l.ok↔Cx l.base l.term l.aV l.subs:=Iff.rfl
 by_cases ht:fJ l.term
 ·have hb:256≤l.term∧l.term≤8192:=by rcases ht with h|h|h|h|h|h<;>omega
  rw[decide_eq_true ht]at c1
  obtain⟨r,hr⟩:∃r,decide l.ok=r:=⟨_,rfl⟩
  have hrr:r=true↔(32≤l.aV∧l.aV≤l.term/8∧l.aV%32=0∧1≤l.subs∧l.subs≤8∧0≤l.base∧l.base%8=0∧l.base≤131072-3*l.term-128):=by
   rw[←hr,decide_eq_true_iff,hok]
   exact⟨fun h=>h.2,fun h=>⟨ht,h⟩⟩
  rw[hr]
  clear hr hok ht
  obtain⟨base,term,aV,subs,bG,dQ,str⟩:=l
  unfold Lg.val
  obtain⟨b0,b1,t0,t1,m0,m1,s0,s1⟩:=hw
  dsimp only at *
  have q1:term.tdiv 8=term/8:=Int.tdiv_eq_ediv_of_nonneg (by omega)
  have k1:IntKind.i64.wrap (3*term)=3*term:=wrap_small _ (by omega) (by omega)
  have k2:IntKind.i64.wrap (131072-3*term)=131072-3*term:=wrap_small _ (by omega) (by omega)
  have k3:IntKind.i64.wrap (131072-3*term-128)=131072-3*term-128:=wrap_small _ (by omega) (by omega)
  obtain⟨q,hq⟩:∃q,term/8=q:=⟨_,rfl⟩
  rw[hq]at q1 hrr
  have HR:=aC hrr
  clear hrr
  by_cases g1:aV<32
  ·obtain rfl:r=false:=by cases r;rfl;have:=(HR.out.1 rfl).1;omega
   go_enter Tryz.func38,Tryz.ntmps38
   go_wp2_with (go_at_call 65;refine(c1 _).mono ?_;clear c1;rintro e w1 ⟨rfl,rfl⟩)
   go_ret
   exact⟨rfl,(Below.refl _ _).alloc (Nat.le_refl _) _⟩
  by_cases g2:aV>q
  ·obtain rfl:r=false:=by cases r;rfl;have:=(HR.out.1 rfl).2.1;omega
   go_enter Tryz.func38,Tryz.ntmps38
   go_wp2_with (go_at_call 65;refine(c1 _).mono ?_;clear c1;rintro e w1 ⟨rfl,rfl⟩)
   go_ret
   exact⟨rfl,(Below.refl _ _).alloc (Nat.le_refl _) _⟩
  have q2:aV.tmod 32=aV%32:=Int.tmod_eq_emod_of_nonneg (by omega)
  obtain⟨rm,hrm⟩:∃rm,aV%32=rm:=⟨_,rfl⟩
  rw[hrm]at q2
  by_cases g3:¬rm=0
  ·obtain rfl:r=false:=by cases r;rfl;have:=(HR.out.1 rfl).2.2.1;omega
   go_enter Tryz.func38,Tryz.ntmps38
   go_wp2_with (go_at_call 65;refine(c1 _).mono ?_;clear c1;rintro e w1 ⟨rfl,rfl⟩)
   go_ret
   exact⟨by first|rfl|(simp;done)|(simp;omega),(Below.refl _ _).alloc (Nat.le_refl _) _⟩
  by_cases g4:subs<1
  ·obtain rfl:r=false:=by cases r;rfl;have:=(HR.out.1 rfl).2.2.2.1;omega
   go_enter Tryz.func38,Tryz.ntmps38
   go_wp2_with (go_at_call 65;refine(c1 _).mono ?_;clear c1;rintro e w1 ⟨rfl,rfl⟩)
   go_ret
   exact⟨by first|rfl|(simp;done)|(simp;omega),(Below.refl _ _).alloc (Nat.le_refl _) _⟩
  by_cases g5:subs>8
  ·obtain rfl:r=false:=by cases r;rfl;have:=(HR.out.1 rfl).2.2.2.2.1;omega
   go_enter Tryz.func38,Tryz.ntmps38
   go_wp2_with (go_at_call 65;refine(c1 _).mono ?_;clear c1;rintro e w1 ⟨rfl,rfl⟩)
   go_ret
   exact⟨by first|rfl|(simp;done)|(simp;omega),(Below.refl _ _).alloc (Nat.le_refl _) _⟩
  obtain rfl:rm=0:=by omega
  by_cases g6:¬base≥0
  ·obtain rfl:r=false:=by cases r;rfl;have:=(HR.out.1 rfl).2.2.2.2.2.1;omega
   go_enter Tryz.func38,Tryz.ntmps38
   go_wp2_with (go_at_call 65;refine(c1 _).mono ?_;clear c1;rintro e w1 ⟨rfl,rfl⟩)
   go_ret
   exact⟨by first|rfl|(simp;done)|(simp;omega),(Below.refl _ _).alloc (Nat.le_refl _) _⟩
  have q3:base.tmod 8=base%8:=Int.tmod_eq_emod_of_nonneg (by omega)
  obtain⟨rb,hrb⟩:∃rb,base%8=rb:=⟨_,rfl⟩
  rw[hrb]at q3
  by_cases g7:¬rb=0
  ·obtain rfl:r=false:=by cases r;rfl;have:=(HR.out.1 rfl).2.2.2.2.2.2.1;omega
   go_enter Tryz.func38,Tryz.ntmps38
   go_wp2_with (go_at_call 65;refine(c1 _).mono ?_;clear c1;rintro e w1 ⟨rfl,rfl⟩)
   go_ret
   exact⟨by first|rfl|(simp;done)|(simp;omega),(Below.refl _ _).alloc (Nat.le_refl _) _⟩
  obtain rfl:rb=0:=by omega
  by_cases g8:¬base≤131072-3*term-128
  ·obtain rfl:r=false:=by cases r;rfl;have:=(HR.out.1 rfl).2.2.2.2.2.2.2;omega
   go_enter Tryz.func38,Tryz.ntmps38
   go_wp2_with (go_at_call 65;refine(c1 _).mono ?_;clear c1;rintro e w1 ⟨rfl,rfl⟩)
   go_ret
   exact⟨by first|rfl|(simp;done)|(simp;omega),(Below.refl _ _).alloc (Nat.le_refl _) _⟩
  obtain rfl:r=true:=HR.out.2 ⟨by omega,by omega,hrm,by omega,by omega,by omega,hrb,by omega⟩
  have g9:base≤131072-3*term-128:=by omega
  have g10:base≥0:=by omega
  go_enter Tryz.func38,Tryz.ntmps38
  go_wp2_with (go_at_call 65;refine(c1 _).mono ?_;clear c1;rintro e w1 ⟨rfl,rfl⟩)
  go_ret
  exact⟨by first|rfl|(simp;done)|(simp;omega),(Below.refl _ _).alloc (Nat.le_refl _) _⟩
 ·have hd:decide l.ok=false:=decide_eq_false (fun h=>ht (hok.1 h).1)
  rw[hd]
  rw[decide_eq_false ht]at c1
  clear hok hd ht
  obtain⟨base,term,aV,subs,bG,dQ,str⟩:=l
  unfold Lg.val
  dsimp only at *
  go_enter Tryz.func38,Tryz.ntmps38
  go_wp2_with (go_at_call 65;refine(c1 _).mono ?_;clear c1;rintro e w1 ⟨rfl,rfl⟩)
  go_ret
  exact⟨by first|rfl|(simp;done)|(simp;omega),(Below.refl _ _).alloc (Nat.le_refl _) _⟩
theorem Io (l:Lg) (h:l.ok) (w:World):Calls Tryz.prog 40 #[l.val] w fun e w'=>e =.returned (.int .i64 (l.base+3*l.term))∧Below w.heap.size w w':=by
 obtain⟨h1,h2,h3,h4,h5,h6⟩:=h.bounds
 clear h
 obtain⟨base,term,aV,subs,bG,dQ,str⟩:=l
 unfold Lg.val
 dsimp only at *
 have k1:IntKind.i64.wrap (3*term)=3*term:=wrap_small _ (by omega) (by omega)
 have k2:IntKind.i64.wrap (base+3*term)=base+3*term:=wrap_small _ (by omega) (by omega)
 go_enter Tryz.func40,Tryz.ntmps40
 go_wp2
 go_ret
 exact⟨by first|rfl|simp,(Below.refl _ _).alloc (Nat.le_refl _) _⟩
theorem p8 (l:Lg) (h:l.ok) (p:Int) (h0:0≤p) (h1:p<3) (w:World):Calls Tryz.prog 69 #[l.val,.int .i64 p] w fun e w'=>e =.returned (.int .i64 (l.base+l.term*p))∧Below w.heap.size w w':=by
 obtain⟨g1,g2,g3,g4,g5,g6⟩:=h.bounds
 clear h
 obtain⟨base,term,aV,subs,bG,dQ,str⟩:=l
 unfold Lg.val
 dsimp only at *
 have m0:0≤term*p:=Int.mul_nonneg (by omega) h0
 have m1:term*p≤8192*3:=Int.mul_le_mul (by omega) (by omega) h0 (by omega)
 have k1:IntKind.i64.wrap (term*p)=term*p:=wrap_small _ (by omega) (by omega)
 have k2:IntKind.i64.wrap (base+term*p)=base+term*p:=wrap_small _ (by omega) (by omega)
 go_enter Tryz.func69,Tryz.ntmps69
 go_wp2
 go_ret
 exact⟨by first|rfl|simp,(Below.refl _ _).alloc (Nat.le_refl _) _⟩
end Go.Proofs.YtlaogoehmndcjaaGreatDoor.Ba
namespace Go.Proofs.YtlaogoehmndcjaaGreatDoor.Ba
open Go RowKit Lib Base
theorem Qo (n:Int) (h:fJ n) (w:World):Calls Tryz.prog 67 #[.int .i64 n] w fun e w'=>e =.returned (.int .i64 (n*2147483648))∧w'=w:=by
 have c1:=fun W=>xz n W
 rw[decide_eq_true h]at c1
 have k1:IntKind.i64.wrap (n*2147483648)=n*2147483648:=by
  have hb:256≤n∧n≤8192:=by rcases h with h|h|h|h|h|h<;>omega
  exact wrap_small _ (by omega) (by omega)
 clear h
 go_enter Tryz.func67,Tryz.ntmps67
 go_wp2_with (go_at_call 65;refine(c1 _).mono ?_;clear c1;rintro e w1 ⟨rfl,rfl⟩)
 go_ret
 exact⟨rfl,rfl⟩
theorem uA (v:Int) (hv:0≤v∧v<18446744073709551616) (w:World):Calls Tryz.prog 71 #[.int .u64 v] w fun e w'=>e =.returned (.tuple #[.int .i32 (bF (v/4294967296)),.int .u32 (v%4294967296)])∧w'=w:=by
 have q1:v.tdiv 4294967296=v/4294967296:=Int.tdiv_eq_ediv_of_nonneg (by omega)
 have q2:v.tmod 4294967296=v%4294967296:=Int.tmod_eq_emod_of_nonneg (by omega)
 obtain⟨q,hq⟩:∃q,v/4294967296=q:=⟨_,rfl⟩
 obtain⟨r,hr⟩:∃r,v%4294967296=r:=⟨_,rfl⟩
 have hq0:0≤q∧q<4294967296:=by omega
 have hr0:0≤r∧r<4294967296:=by omega
 rw[hq]at q1 ⊢
 rw[hr]at q2 ⊢
 have k0:IntKind.u64.wrap q=q:=by rw[IntKind.wrap_u64];omega
 have k1:IntKind.i64.wrap q=q:=wrap_small _ (by omega) (by omega)
 have k5:IntKind.u64.wrap r=r:=by rw[IntKind.wrap_u64];omega
 have k6:IntKind.u32.wrap r=r:=by rw[IntKind.wrap_u32];omega
 have HS:=aC (show bF q=if q≥2147483648 then q-4294967296 else q by unfold bF;split<;>omega)
 clear hq hr
 by_cases g:q≥2147483648
 ·have k3:IntKind.i64.wrap (q-4294967296)=q-4294967296:=wrap_small _ (by omega) (by omega)
  have k4:IntKind.i32.wrap (q-4294967296)=q-4294967296:=by rw[IntKind.wrap_i32];omega
  go_enter Tryz.func71,Tryz.ntmps71
  go_wp2
  go_ret2
  refine⟨?_,rfl⟩
  rw[HS.out,if_pos g]
  try rfl
 ·have k4:IntKind.i32.wrap q=q:=by rw[IntKind.wrap_i32];omega
  go_enter Tryz.func71,Tryz.ntmps71
  go_wp2
  go_ret2
  refine⟨?_,rfl⟩
  rw[HS.out,if_neg (by omega)]
  try rfl
theorem uD (l:Lg) (h:l.ok) (p:Int) (h0:0≤p) (h1:p<3) (w:World):Calls Tryz.prog 70 #[l.val,.int .i64 p] w fun e w'=>e =.returned (.int .i64 (l.base+3*l.term+8*p))∧Below w.heap.size w w':=by
 have hb:=Lg.ok.bounds h
 have c1:=fun W=>Io l h W
 have k1:IntKind.i64.wrap (8*p)=8*p:=wrap_small _ (by omega) (by omega)
 have k2:IntKind.i64.wrap (l.base+3*l.term+8*p)=l.base+3*l.term+8*p:=wrap_small _ (by omega) (by omega)
 clear h
 obtain⟨base,term,aV,subs,bG,dQ,str⟩:=l
 unfold Lg.val at c1 ⊢
 dsimp only at *
 clear hb
 go_enter Tryz.func70,Tryz.ntmps70
 go_wp2_with (go_at_call 40;refine(c1 _).mono ?_;clear c1;rintro e w1 ⟨rfl,hB1⟩;have H1:=aC hB1;clear hB1)
 go_ret
 exact⟨by simp[go_sem],((Below.refl _ _).alloc (Nat.le_refl _) _).trans (H1.out.mono (by simp))⟩
theorem Qv (w:World):Calls Tryz.prog 121 #[.int .i64 32] w fun e w'=>e =.returned (.bool true)∧w'=w:=by
 have c:∀W,Calls Tryz.prog 167 #[.int .i64 32] W fun e w'=>e =.returned (.tuple #[.int .i64 5,.bool true])∧w'=W:=by
  intro W
  go_enter Tryz.func167,Tryz.ntmps167
  go_wp2
  refine wp_loop_rounds 7 ?_
  iterate 8 (try rw[rounds_succ];go_wp2)
  go_ret2
  exact⟨rfl,rfl⟩
 go_enter Tryz.func121,Tryz.ntmps121
 go_wp2_with (go_at_call 167;refine(c _).mono ?_;clear c;rintro e w1 ⟨rfl,rfl⟩)
 go_ret
 exact⟨rfl,rfl⟩
theorem Pb (n:Int) (h:0≤n∧n≤1000000) (w:World):Calls Tryz.prog 73 #[.int .i64 n,.int .i64 32] w fun e w'=>e =.returned (.tuple #[.int .i64 ((n+31)/32*32),.int .i64 0])∧w'=w:=by
 have c:=fun W=>Qv W
 have q1:n.tdiv 32=n/32:=Int.tdiv_eq_ediv_of_nonneg (by omega)
 have q2:n.tmod 32=n%32:=Int.tmod_eq_emod_of_nonneg (by omega)
 have h0:¬n<0:=by omega
 have h1:¬n>4611686018427387904:=by omega
 obtain⟨q,hq⟩:∃q,n/32=q:=⟨_,rfl⟩
 obtain⟨r,hr⟩:∃r,n%32=r:=⟨_,rfl⟩
 rw[hq]at q1
 rw[hr]at q2
 have hq0:0≤q∧q≤100000:=by omega
 have k1:IntKind.i64.wrap q=q:=wrap_small _ (by omega) (by omega)
 have k2:IntKind.i64.wrap (q+1)=q+1:=wrap_small _ (by omega) (by omega)
 have k3:IntKind.i64.wrap ((q+1)*32)=(q+1)*32:=wrap_small _ (by omega) (by omega)
 by_cases g:r=0
 ·subst g
  have HS:=aC (show(n+31)/32*32=n by omega)
  clear hq hr
  go_enter Tryz.func73,Tryz.ntmps73
  go_wp2_with (go_at_call 121;refine(c _).mono ?_;clear c;rintro e w1 ⟨rfl,rfl⟩)
  go_ret2
  refine⟨?_,rfl⟩
  rw[HS.out]
  try rfl
 ·have HS:=aC (show(n+31)/32*32=(q+1)*32 by omega)
  have g2:¬q+1>144115188075855872:=by omega
  have hr1:IntKind.i64.wrap r=r:=wrap_small _ (by omega) (by omega)
  clear hq hr
  go_enter Tryz.func73,Tryz.ntmps73
  go_wp2_with (go_at_call 121;refine(c _).mono ?_;clear c;rintro e w1 ⟨rfl,rfl⟩)
  go_ret2
  refine⟨?_,rfl⟩
  rw[HS.out]
  try rfl
end Go.Proofs.YtlaogoehmndcjaaGreatDoor.Ba
namespace Go.Proofs.YtlaogoehmndcjaaGreatDoor.Sy
open Go RowKit Lib Base Pr Ba
variable [Zn]
theorem I1 (t i:Int) (ht : -2147483648≤t∧t<2147483648) (hi : -2147483648≤i∧i<2147483648) (w:World):Calls Tryz.prog 161 #[.int .i32 t,.int .i32 i] w fun e w'=>e =.returned (.int .u32 (u32 (t-i)))∧w'=w:=by
 have k1:IntKind.i64.wrap t=t:=by rw[IntKind.wrap_i64];omega
 have k2:IntKind.i64.wrap i=i:=by rw[IntKind.wrap_i64];omega
 have k3:IntKind.i64.wrap (t-i)=t-i:=by rw[IntKind.wrap_i64];omega
 obtain⟨d,hd⟩:∃d,t-i=d:=⟨_,rfl⟩
 have hd0 : -4294967296<d∧d<4294967296:=by omega
 rw[hd]at k3 ⊢
 have HS:=aC (show u32 d=if d<0 then d+4294967296 else d by unfold u32;split<;>omega)
 by_cases g:d<0
 ·have k4:IntKind.i64.wrap (d+4294967296)=d+4294967296:=by rw[IntKind.wrap_i64];omega
  have k5:IntKind.u32.wrap (d+4294967296)=d+4294967296:=by rw[IntKind.wrap_u32];omega
  go_enter Tryz.func161,Tryz.ntmps161
  go_wp2
  go_ret
  refine⟨?_,rfl⟩
  rw[HS.out,if_pos g]
  try rfl
 ·have k5:IntKind.u32.wrap d=d:=by rw[IntKind.wrap_u32];omega
  go_enter Tryz.func161,Tryz.ntmps161
  go_wp2
  go_ret
  refine⟨?_,rfl⟩
  rw[HS.out,if_neg (by omega)]
  try rfl
theorem VY (t o:Int) (ht : -2147483648≤t∧t<2147483648) (ho:0≤o∧o<4294967296) (w:World):Calls Tryz.prog 203 #[.int .i32 t,.int .u32 o] w fun e w'=>e =.returned (.int .u64 (pack t o))∧w'=w:=by
 have k1:IntKind.i64.wrap t=t:=by rw[IntKind.wrap_i64];omega
 have k3:IntKind.u64.wrap o=o:=by rw[IntKind.wrap_u64];omega
 obtain⟨u,hu⟩:∃u,u32 t=u:=⟨_,rfl⟩
 have hu0:0≤u∧u<4294967296:=by unfold u32 at hu;omega
 have k4:IntKind.u64.wrap u=u:=by rw[IntKind.wrap_u64];omega
 have k5:IntKind.u64.wrap (u*4294967296)=u*4294967296:=by rw[IntKind.wrap_u64];omega
 have k6:IntKind.u64.wrap (u*4294967296+o)=u*4294967296+o:=by rw[IntKind.wrap_u64];omega
 unfold pack
 rw[hu]
 by_cases g:t<0
 ·have k2:IntKind.i64.wrap (t+4294967296)=u:=by rw[←hu];unfold u32;rw[IntKind.wrap_i64];omega
  have k7:t+4294967296=u:=by rw[←hu];unfold u32;omega
  clear hu
  go_enter Tryz.func203,Tryz.ntmps203
  go_wp2
  go_ret
  exact⟨rfl,rfl⟩
 ·have k7:t=u:=by rw[←hu];unfold u32;omega
  clear hu
  subst k7
  go_enter Tryz.func203,Tryz.ntmps203
  go_wp2
  go_ret
  exact⟨rfl,rfl⟩
theorem zY (n:Int) (h:0≤n∧n≤100000) (w:World):Calls Tryz.prog 109 #[.int .i64 n] w fun e w'=>e =.returned (.tuple #[.int .i64 (aU n),.int .i64 0])∧w'=w:=by
 have Zh:=fun W=>Pb (n+32) (by omega) W
 have k1:IntKind.i64.wrap (n+32)=n+32:=by rw[IntKind.wrap_i64];omega
 obtain⟨s,hs⟩:∃s,aU n=s:=⟨_,rfl⟩
 rw[show(n+32+31)/32*32=s from hs]at Zh
 have hs0:0≤s∧s≤200000:=by unfold aU at hs;omega
 have k2:IntKind.i64.wrap s=s:=by rw[IntKind.wrap_i64];omega
 have k3:¬n<0:=by omega
 have k4:¬n>131072:=by omega
 have YK:∀W,Calls Tryz.prog 163 #[.int .i64 n,.int .i64 32,.int .i64 32] W fun e w'=>e =.returned (.tuple #[.int .i64 s,.int .i64 0])∧w'=W:=by
  intro W
  clear hs
  go_enter Tryz.func163,Tryz.ntmps163
  go_wp2_with (go_at_call 73;refine(Zh _).mono ?_;clear Zh;rintro e w1 ⟨rfl,rfl⟩)
  go_ret2
  exact⟨rfl,rfl⟩
 rw[hs]
 clear hs Zh
 go_enter Tryz.func109,Tryz.ntmps109
 go_wp2_with (go_at_call 163;refine(YK _).mono ?_;clear YK;rintro e w1 ⟨rfl,rfl⟩)
 go_ret2
 exact⟨rfl,rfl⟩
abbrev gm (l:Lg):Array Value :=#[.int .i64 l.base,.int .i64 l.term,.int .i64 l.aV,.int .i64 l.subs,.int .i32 l.bG,.int .i32 l.dQ,.int .i32 l.str]
def QW (aV:Int) (j:Nat) (r:Int):List Value:=List.replicate j (.int .i64 aV)++[.int .i64 r]
theorem iT {w:World} {b:Nat} {t:TypeId} {v0 v1 v2 v3 v4 v5 v6:Value} (h:w.heap[b]? = some (.cells #[v0,v1,v2,v3,v4,v5,v6] t (0,0))):w.cell? ⟨b,0,none⟩=some v0∧w.cell? ⟨b,1,none⟩=some v1∧w.cell? ⟨b,2,none⟩=some v2∧w.cell? ⟨b,3,none⟩=some v3∧w.cell? ⟨b,4,none⟩=some v4∧w.cell? ⟨b,5,none⟩=some v5∧w.cell? ⟨b,6,none⟩=some v6:=by
 refine⟨?_,?_,?_,?_,?_,?_,?_⟩<;>simp[World.cell?,h]
theorem zw {w:World} {b b':Nat} {e:TypeId} {size n:Nat} {v:Value} {xs:List Value} (h:w.ownsRow b' e size v n xs) (hb:b≤b'):w.ownsRow b e size v n xs :=
 ⟨h.1,h.2.imp id fun⟨g,cap,cur,e,hg,rest⟩=>⟨g,cap,cur,e,Nat.le_trans hb hg,rest⟩⟩
theorem BA {w w':World} {b o:Nat} {v:Value} (h:w'.heap[b]? = w.heap[b]?) (hc:w.cell? ⟨b,o,none⟩=some v):w'.cell? ⟨b,o,none⟩=some v:=by
 simp only[World.cell?]at hc ⊢
 rw[h]
 exact hc
theorem mY {l:Lg} (h:l.ok):32≤l.aV∧l.aV≤1024∧256≤l.term∧l.term≤8192∧0≤l.base∧l.base≤131072∧1≤l.subs∧l.subs≤8:=by
 have hb:=h.bounds
 have h2:=h.2
 omega
theorem Ai {aV r n:Int} {j:Nat} (h32:32≤aV) (h:n=aV*(j:Int)+r) (hr:0≤r) (hn:n≤1024):j≤32:=by
 have h1:32*(j:Int)≤aV*(j:Int):=Int.mul_le_mul_of_nonneg_right h32 (by omega)
 omega
theorem OJ (l:Lg) (hl:l.ok) (n:Nat) (hn:(n:Int)≤l.term/8) (w:World):Calls Tryz.prog 160 #[l.val,.int .i64 n] w fun e w'=>∃(v:Value) (j:Nat) (r:Int),e =.returned (.tuple #[v,.int .i64 0])∧(n:Int)=l.aV*(j:Int)+r∧0≤r∧r≤l.aV∧(j≠0→0<r)∧w'.ownsRow w.heap.size 3 1 v (j+1) (QW l.aV j r)∧Below w.heap.size w w':=by
 obtain⟨i0,hi,hz0,hz1,hz2⟩:=info_parts lZ
 have hb:=mY hl
 have pV:=fun W=>jc l hl.wf W
 rw[decide_eq_true hl]at pV
 obtain⟨q,hq⟩:∃q,l.term/8=q:=⟨_,rfl⟩
 rw[hq]at hn
 have hq1:l.term.tdiv 8=q:=by rw[Int.tdiv_eq_ediv_of_nonneg (by omega),hq]
 have hq2:IntKind.i64.wrap q=q:=by rw[IntKind.wrap_i64];omega
 have hq3:¬(n:Int)>q:=by omega
 have hq4:¬(n:Int)<0:=by omega
 have hn2:(n:Int)≤1024:=by omega
 obtain⟨X,hX⟩:∃X,w.heap.size=X:=⟨_,rfl⟩
 obtain⟨W1,hW1⟩:∃W1,w.alloc (.cells (gm l) 23)=W1:=⟨_,rfl⟩
 have s1:W1.heap.size=X+1:=by rw[←hW1,←hX];simp
 have b1:Below X w W1:=by rw[←hW1,←hX];exact(Below.refl _ _).alloc (Nat.le_refl _) _
 have r1:W1.heap[X]? = some (.cells (gm l) 23):=by rw[←hW1,←hX];exact aZ _ _
 obtain⟨m0,m1,m2,m3,m4,m5,m6⟩:=iT r1
 have HQ:=aC (aR hq (aR b1 r1))
 unfold Lg.val at pV ⊢
 clear hl hq r1 b1
 go_enter Tryz.func160,Tryz.ntmps160
 go_wp2_with (go_at_call 38;refine(pV _).mono ?_;clear pV;rintro e V ⟨rfl,hB⟩;have H1:=aC hB;have k:=hB.block X (by omega);clear hB;have r1:=k.trans HQ.out.2.2;clear k m0 m1 m2 m3 m4 m5 m6;obtain⟨m0,m1,m2,m3,m4,m5,m6⟩:=iT r1;clear r1)
 go_loopw [1,6] (fun x v wr=>∃(j:Nat) (r:Int),x =.int .i64 r∧0≤r∧r≤1024∧j≤32∧wr.cell? ⟨X,2,none⟩=some (.int .i64 l.aV)∧Hid ((n:Int)=l.aV*(j:Int)+r∧(j≠0→0<r)∧wr.ownsRow (X+1) 3 1 v j (List.replicate j (.int .i64 l.aV))∧Below (X+1) V wr)) (fun x _ _=>(intOf x).toNat)
 case atStart=>exact⟨0,n,rfl,by omega,by omega,by omega,m2,aC ⟨by simp,fun h=>absurd rfl h,World.ownsRow_nil _ _ _ _,Below.refl _ _⟩⟩
 case round =>
  obtain⟨j,r,rfl,hr0,hr1,hj,m2',H⟩:=hrel
  have hVs:X+1≤V.heap.size:=by have:=H1.out.size;omega
  have hsz:X+1≤wr.heap.size:=Nat.le_trans hVs H.out.2.2.2.size
  by_cases hlt:r>l.aV
  ·have e1:IntKind.i64.wrap (r-l.aV)=r-l.aV:=by rw[IntKind.wrap_i64];omega
   have mm:∀o,(wr.alloc o).cell? ⟨X,2,none⟩=some (.int .i64 l.aV):=fun o=>BA (((Below.refl wr.heap.size wr).alloc (Nat.le_refl _) o).block X (by omega)) m2'
   go_wp2_with (first
    | (at_builtin;refine wpList_append_own _ rfl _ _ 167 rfl (X+1) 3 i0 _ 1 8 Tryz.underlying167 hi hz0 hz1 hz2 rfl (by decide) _ j _ rfl (H.out.2.2.1.alloc _) ⟨wr.heap.size,0,none⟩ 1 1 [.int .i64 l.aV] rfl rfl ?k1 ?k2 ?k3 ?k4 ?k5 ?_))
   case k1 =>
    intro i u hi
    rcases i with _|i
    ·injection hi with hi;subst hi;rw[show(⟨wr.heap.size,0,none⟩:Addr).add 0=⟨wr.heap.size,0,none⟩from Addr.add_lit _ _ _,World.cell?_alloc_at _ _ _ _ rfl];rfl
    ·cases hi
   case k2=>first|rfl|(intro u hu;simp at hu;subst hu;rfl)
   case k3=>unfold maxLen;omega
   case k4=>omega
   case k5=>simp;omega
   intro v' w1 hown' hgrow _
   have R:=aC (show w1.ownsRow (X+1) 3 1 v' (j+1) (List.replicate (j+1) (.int .i64 l.aV))from by rw[List.replicate_succ'];exact hown')
   have B:=aC (show Below (X+1) V w1 from(H.out.2.2.2.alloc (by omega) _).grown hgrow (by simp;omega) (fun g hg=>(H.out.2.2.1.lt g hg).1))
   have m2n:w1.cell? ⟨X,2,none⟩=some (.int .i64 l.aV):=BA (B.out.block X (by omega)) m2
   clear hown' hgrow mm m2'
   go_wp2
   go_roundw
   case rel =>
    have N7:(n:Int)=l.aV*((j+1:Nat):Int)+(r-l.aV):=by have:=H.out.1;rw[show((j+1:Nat):Int)=(j:Int)+1 by omega,Int.mul_add];omega
    exact⟨j+1,r-l.aV,rfl,by omega,by omega,Ai hb.1 N7 (by omega) hn2,m2n,aC ⟨N7,fun _=>by omega,R.out,B.out⟩⟩
   case measure=>simp[intOf];omega
  ·go_wp2_with (first
    | (at_builtin;refine wpList_append_own _ rfl _ _ 167 rfl (X+1) 3 i0 _ 1 8 Tryz.underlying167 hi hz0 hz1 hz2 rfl (by decide) _ j _ rfl (H.out.2.2.1.alloc _) ⟨wr.heap.size,0,none⟩ 1 1 [.int .i64 r] rfl rfl ?g1 ?g2 ?g3 ?g4 ?g5 ?_))
   all_goals try (first|omega|(unfold maxLen;omega))
   try (case g2=>first|rfl|(intro u hu;simp at hu;subst hu;rfl))
   intro v' w1 hown' hgrow _
   have R:=aC (show w1.ownsRow (X+1) 3 1 v' (j+1) (QW l.aV j r)from hown')
   have B:=aC (show Below (X+1) V w1 from(H.out.2.2.2.alloc (by omega) _).grown hgrow (by simp;omega) (fun g hg=>(H.out.2.2.1.lt g hg).1))
   clear hown' hgrow
   go_wp2
   refine bodyPost_ret (v :=.tuple #[v',.int .i64 0]) (by simp[results,Tryz.results160,go_sem]) rfl ⟨v',j,r,rfl,H.out.1,hr0,by omega,H.out.2.1,zw R.out (by omega),?_⟩
   exact hX▸(HQ.out.2.1.trans (hX▸(H1.out.mono (by omega)))).trans (B.out.mono (by omega))
theorem sW (l:cO) (hm:32≤l.aV) (r:Int) (hr:r≤l.aV):∀(j f:Nat),j≤f→(j≠0→0<r)→bB l f (l.aV*(j:Int)+r)=(j:Int)*aU l.aV+aU r
 | 0,0,_,_=>by simp[bB]
 | 0,f+1,_,_=>by
   rw[bB,if_neg (by simp;omega)]
   simp
 | j+1,0,h,_=>absurd h (by omega)
 | j+1,f+1,h,hp=>by
   have hp':=hp (by omega)
   have h0:0≤l.aV*(j:Int):=Int.mul_nonneg (by omega) (by omega)
   have e:l.aV*((j+1:Nat):Int)+r=l.aV*(j:Int)+r+l.aV:=by rw[show((j+1:Nat):Int)=(j:Int)+1 by omega,Int.mul_add];omega
   rw[bB,e,if_pos (by omega),show l.aV*(j:Int)+r+l.aV-l.aV=l.aV*(j:Int)+r by omega,sW l hm r hr j f (by omega) (fun _=>hp'),show((j+1:Nat):Int)=(j:Int)+1 by omega,Int.add_mul]
   omega
theorem IZ {aV r:Int} {j i:Nat} (h:i<j+1):(QW aV j r)[i]? = some (.int .i64 (if i<j then aV else r)):=by
 unfold QW
 by_cases hi:i<j
 ·rw[if_pos hi,List.getElem?_append_left (by simpa using hi),List.getElem?_replicate,if_pos hi]
 ·obtain rfl:i=j:=by omega
  rw[if_neg hi,List.getElem?_append_right (by simp),List.length_replicate,Nat.sub_self]
  rfl
theorem DR {n:Int} (h:0≤n∧n≤1024):32≤aU n∧aU n≤1056:=by unfold aU;omega
theorem MN {F:Int} {i:Nat} (h:32≤F∧F≤1056) (hi:i≤32):0≤(i:Int)*F∧(i:Int)*F≤33792:=by
 have h1:(i:Int)*F≤32*1056:=Int.mul_le_mul (by omega) h.2 (by omega) (by omega)
 exact⟨Int.mul_nonneg (by omega) (by omega),by omega⟩
theorem Ny (l:Lg) (hl:l.ok) (n:Nat) (hn:(n:Int)≤l.term/8) (w:World):Calls Tryz.prog 104 #[l.val,.int .i64 n] w fun e w'=>e =.returned (.tuple #[.int .i64 (bB (aP l) 40 n),.int .i64 0])∧Below w.heap.size w w':=by
 have hb:=mY hl
 have c160:=fun W=>OJ l hl n hn W
 obtain⟨X,hX⟩:∃X,w.heap.size=X:=⟨_,rfl⟩
 obtain⟨W1,hW1⟩:∃W1,w.alloc (.cells (gm l) 23)=W1:=⟨_,rfl⟩
 have s1:W1.heap.size=X+1:=by rw[←hW1,←hX];simp
 have b1:Below X w W1:=by rw[←hW1,←hX];exact(Below.refl _ _).alloc (Nat.le_refl _) _
 have r1:W1.heap[X]? = some (.cells (gm l) 23):=by rw[←hW1,←hX];exact aZ _ _
 obtain⟨m0,m1,m2,m3,m4,m5,m6⟩:=iT r1
 have HQ:=aC b1
 have HN:=aC (show ∀(j:Nat) (r:Int),(n:Int)=l.aV*(j:Int)+r→0≤r→r≤l.aV→(j≠0→0<r)→j≤32∧bB (aP l) 40 n=(j:Int)*aU l.aV+aU r from fun j r h1 h2 h3 h4=>by
  have hj:=Ai hb.1 h1 h2 (by omega)
  exact⟨hj,by rw[h1];exact sW (aP l) hb.1 r h3 j 40 (by omega) h4⟩)
 unfold Lg.val at c160 ⊢
 clear hl hn r1 b1
 go_enter Tryz.func104,Tryz.ntmps104
 go_wp2_with (go_at_call 160;refine(c160 _).mono ?_;clear c160;rintro e V ⟨v,j,r,rfl,hn,hr0,hr1,hj,hown,hB⟩;obtain⟨va,vc,rfl⟩:=iC hown;have HC:=aC (aR (HN.out j r hn hr0 hr1 hj) (aR hown hB));clear hown hB hn hj)
 obtain⟨F,hF⟩:∃F,aU l.aV=F:=⟨_,rfl⟩
 obtain⟨G,hG⟩:∃G,aU r=G:=⟨_,rfl⟩
 have Zc:32≤F∧F≤1056:=hF▸DR (by omega)
 have hGb:32≤G∧G≤1056:=hG▸DR (by omega)
 have QC:j≤32:=HC.out.1.1
 go_loopw [8,21] (fun x y wr=>∃i:Nat,y =.int .i64 (i:Int)∧i≤j+1∧x =.int .i64 (((min i j:Nat):Int)*F+if i≤j then 0 else G)∧wr=V) (fun _ y _=>(1000-intOf y).toNat)
 case atStart=>exact⟨0,rfl,by omega,by simp,rfl⟩
 case round =>
  obtain⟨i,rfl,hij,rfl,rfl⟩:=hrel
  by_cases hlt:i<j+1
  ·obtain⟨g,gc,e,hg0,hg1,hgc,hcl⟩:=mq HC.out.2.1 (IZ hlt)
   injection e with e1 e2 e3
   subst e1 e3
   rw[Nat.zero_add]at hcl
   have q1:IntKind.i64.wrap (i:Int)=(i:Int):=by rw[IntKind.wrap_i64];omega
   have q2:(0:Int)≤(i:Int):=by omega
   have q3:(i:Int)<((j+1:Nat):Int):=by omega
   have q7:IntKind.i64.wrap ((i:Int)+1)=(i:Int)+1:=by rw[IntKind.wrap_i64];omega
   have q8:=MN Zc (show i≤32 by omega)
   by_cases hi:i<j
   ·rw[if_pos hi]at hcl
    have c109:=fun W=>zY l.aV (by omega) W
    rw[hF]at c109
    have q9:IntKind.i64.wrap ((i:Int)*F+F)=(i:Int)*F+F:=by rw[IntKind.wrap_i64];omega
    rw[show min i j=i by omega,if_pos (show i≤j by omega),Int.add_zero]
    go_wp2_with (go_at_call 109;refine(c109 _).mono ?_;clear c109;rintro e w1 ⟨rfl,rfl⟩)
    go_roundw
    case measure=>simp[intOf];omega
    refine⟨i+1,?_,?_,?_,?_⟩
    ·simp
    ·omega
    ·rw[show min (i+1) j=i+1 by omega,if_pos (show i+1≤j by omega),Int.add_zero,show((i+1:Nat):Int)=(i:Int)+1 by omega,Int.add_mul,Int.one_mul]
    ·trivial
   ·obtain rfl:i=j:=by omega
    rw[if_neg hi]at hcl
    have c109:=fun W=>zY r (by omega) W
    rw[hG]at c109
    have q9:IntKind.i64.wrap ((i:Int)*F+G)=(i:Int)*F+G:=by rw[IntKind.wrap_i64];omega
    rw[show min i i=i by omega,if_pos (show i≤i by omega),Int.add_zero]
    go_wp2_with (go_at_call 109;refine(c109 _).mono ?_;clear c109;rintro e w1 ⟨rfl,rfl⟩)
    go_roundw
    case measure=>simp[intOf];omega
    refine⟨i+1,?_,?_,?_,?_⟩
    ·simp
    ·omega
    ·rw[show min (i+1) i=i by omega,if_neg (show ¬i+1≤i by omega)]
    ·trivial
  ·obtain rfl:i=j+1:=by omega
   have q1:=MN Zc (show j≤32 by omega)
   rw[show min (j+1) j=j by omega,if_neg (show ¬j+1≤j by omega)]
   go_wp2
   refine bodyPost_ret (v :=.tuple #[.int .i64 ((j:Int)*F+G),.int .i64 0]) (by simp[results,Tryz.results104,go_sem]) rfl ⟨?_,?_⟩
   ·rw[HC.out.1.2,hF,hG]
   ·exact hX▸HQ.out.trans (HC.out.2.2.mono (by omega))
theorem iw {w:World} {b:Nat} {C C':Array Value} {t:TypeId} (h:w.heap[b]? = some (.cells C t (0,0))) (j:Nat) (u:Value) (hC:C.setIfInBounds j u=C':=by rfl):(w.setCell ⟨b,j,none⟩ u).heap[b]? = some (.cells C' t (0,0)):=by
 obtain⟨hlt,hk⟩:=Array.getElem?_eq_some_iff.1 h
 show(w.heap.modify b _)[b]? = _
 rw[Array.getElem?_eq_getElem (by rw[Array.size_modify];exact hlt),Array.getElem_modify_self,hk,←hC]
 rfl
structure BS {O:Type} (w wr:World) (X:Nat) (B:List Obj) (tb:Nat) (ga:Option Addr) (cap:Nat) (L:List An) (a:Nat) (T K:Pr An O) (a':Nat):Prop where
 box:∀(i:Nat) (ob:Obj),B[i]? = some ob→wr.heap[X+i]? = some ob
 lt:tb<X
 base:X=w.heap.size
 vT:iE w tb ga cap L a none
 on:On w wr tb ga cap L a T K a'
section
variable {O:Type} {w wr wr':World} {X:Nat} {B B':List Obj} {tb:Nat} {ga:Option Addr} {cap:Nat} {L:List An} {a a' a'':Nat} {T K K':Pr An O} {o:O} {ob:Obj}
theorem BS.fresh (h:iE w tb ga cap L a none) (ha:a≤L.length) (hX:w.heap.size=X) (T:Pr An O):BS w w X [] tb ga cap L a T T a :=
 ⟨fun i ob hi=>(by cases hi),hX▸h.lt,hX.symm,h,On.refl h ha T⟩
theorem BS.mg (h:BS w wr X B tb ga cap L a T K a'):iE wr tb ga cap L a' none:=h.on.ta.1
theorem BS.b0 (h:BS w wr X B tb ga cap L a T K a') (hi:B[0]? = some ob):wr.heap[X]? = some ob:=h.box 0 ob hi
theorem BS.below (h:BS w wr X B tb ga cap L a T K a') (hb:Below wr.heap.size wr wr'):BS w wr' X B tb ga cap L a T K a' :=
 ⟨fun i ob hi=>(hb.block _ (Array.getElem?_eq_some_iff.1 (h.box i ob hi)).1).trans (h.box i ob hi),h.lt,h.base,h.vT,h.on.below hb⟩
theorem BS.step (h:BS w wr X B tb ga cap L a T K a') (k:On wr wr' tb ga cap L a' K K' a''):BS w wr' X B tb ga cap L a T K' a'' :=
 ⟨fun i ob hi=>(k.ta.2.block _ (Array.getElem?_eq_some_iff.1 (h.box i ob hi)).1 (by have:=h.lt;omega)).trans (h.box i ob hi),h.lt,h.base,h.vT,h.on.trans k⟩
theorem BS.off (h:BS w wr X B tb ga cap L a T K a') (k:Off wr wr' tb ga cap L a' K o):Off w wr' tb ga cap L a T o:=h.on.off k
theorem BS.jg (h:BS w wr X B tb ga cap L a T K a') (k:Off wr wr' tb ga cap L a' K o):∀(i:Nat) (ob:Obj),B[i]? = some ob→wr'.heap[X+i]? = some ob:=by
 intro i ob hi
 obtain⟨c,K',h1,h2,h3⟩:=k.ex
 exact(h3.2.block _ (Array.getElem?_eq_some_iff.1 (h.box i ob hi)).1 (by have:=h.lt;omega)).trans (h.box i ob hi)
theorem BS.as (h:BS w wr X B tb ga cap L a T K a') (e:K=K'):BS w wr X B tb ga cap L a T K' a':=e▸h
theorem BS.drew (h:BS w wr X B tb ga cap L a T K a') (n:Nat):BS w (wr.drewN n) X B tb ga cap L a T K a':=h.below (below_drewN n (Below.refl _ wr))
theorem BS.new (h:BS w wr X B tb ga cap L a T K a') (hs:wr.heap.size=X+B.length) (ob:Obj):BS w (wr.alloc ob) X (B++[ob]) tb ga cap L a T K a':=by
 have hb:Below wr.heap.size wr (wr.alloc ob):=(Below.refl _ _).alloc (Nat.le_refl _) _
 refine⟨fun i oH hi => ?_,h.lt,h.base,h.vT,h.on.below hb⟩
 by_cases hl:i<B.length
 ·rw[List.getElem?_append_left hl]at hi
  exact(h.below hb).box i oH hi
 ·have hlt:i<(B++[ob]).length:=(List.getElem?_eq_some_iff.1 hi).1
  obtain rfl:i=B.length:=by simp at hlt;omega
  rw[List.getElem?_append_right (Nat.le_refl _),Nat.sub_self]at hi
  injection hi with hi
  subst hi
  rw[←hs]
  exact aZ _ _
theorem BS.put (h:BS w wr X B tb ga cap L a T K a') {i:Nat} (ho:Only (X+i) wr wr') (hn:wr'.heap[X+i]? = some ob) (hB:∀j,j≠i→B'[j]? = B[j]?) (hi:B'[i]? = some ob):BS w wr' X B' tb ga cap L a T K a':=by
 have hlt:=h.lt
 have hbase:=h.base
 have hbig:Only tb w wr':=by
  have h2:=h.on.ta.2
  refine⟨ho.os.trans h2.os,ho.tape.trans h2.tape,ho.output.trans h2.output,Nat.le_trans h2.size ho.size,fun b hb hne => ?_⟩
  exact(ho.block b (Nat.lt_of_lt_of_le hb h2.size) (by omega)).trans (h2.block b hb hne)
 refine⟨fun j oH hj => ?_,h.lt,h.base,h.vT,h.on.le,h.on.go,⟨?_,h.vT.row.only hbig,h.vT.len⟩,hbig⟩
 ·by_cases hji:j=i
  ·subst hji
   rw[hi]at hj
   injection hj with hj
   exact hj▸hn
  ·rw[hB j hji]at hj
   exact(ho.block _ (Array.getElem?_eq_some_iff.1 (h.box j oH hj)).1 (by omega)).trans (h.box j oH hj)
 ·have hk:=h.on.ta.1.bare
  exact⟨none,0,0,(ho.block tb (Array.getElem?_eq_some_iff.1 hk).1 (by omega)).trans hk,trivial⟩
end
end Go.Proofs.YtlaogoehmndcjaaGreatDoor.Sy
namespace Go.Base
open Go
def sU (B:Nat→Nat) (at_:Nat):Nat→Nat
 | 0=>0
 | n+1=>B at_+256*sU B (at_+1) n
theorem J4 {B:Nat→Nat} (h:∀j,B j<256):∀(n a:Nat),sU B a n<256 ^ n
 | 0,_=>by simp[sU]
 | n+1,a=>by
   have h1:=J4 h n (a+1)
   have h2:=h a
   simp only[sU,Nat.pow_succ]
   omega
