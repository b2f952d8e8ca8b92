import Derived.Test.YtlaogoehmndcjaaGreatDoorZ36
import Derived.Test.YtlaogoehmndcjaaGreatDoorZ40
import Derived.Test.YtlaogoehmndcjaaGreatDoorZ41
import Derived.Test.YtlaogoehmndcjaaGreatDoorZ37
set_option maxRecDepth 100000
set_option linter.unusedVariables false
set_option maxHeartbeats 4000000
set_option linter.unusedSectionVars false
set_option linter.unusedSimpArgs false
namespace Go.Proofs.YtlaogoehmndcjaaGreatDoor.Sy
open Go RowKit Lib AS Base Pr Ba
noncomputable section
inductive CR (l:Lg) (B:List Nat) (aW:Bool) (q:Nat) (p:Pr An Ot) (ka:Option Addr) (W:World) (rt:Nat×Nat) (O:Nat→Prop):Prop
 | s0 {aO kn kv kw:Int} {dm:Option Addr} {cz dA:Nat} {bY:Option Addr} {bJ bX:Nat} {part bg off size pos ee nd Mt:Int} {τ:Nat→Nat×Nat} (hS:ah W (dl (Cn l aO kn kv kw (.slice (dm) (cz) (dA)) (.slice (bY) (bJ) (bX)) aW part bg off size pos ee nd Mt)) pO τ) (ho:Own pO τ rt O) (hk:aO=l.base+3*l.term+32∧kn=8∧kv=0∧kw=0∧cz=0) (he:pos=0∧ee=10) (hz:part=0∧bg=0∧off=0∧size=0) (hn:nd=(aU (B.length:Int))∧Mt=nd) (hr:RowK W pO τ O bY B) (hb:bJ=B.length∧bJ≤bX) (hp:p=yA (aP l) (aU (B.length:Int)) (BG (aP l) B aW)):CR l B aW q p ka W rt O
 | s1 {aO kn kv kw:Int} {dm:Option Addr} {cz dA:Nat} {bY:Option Addr} {bJ bX:Nat} {part bg off size pos ee lim nd Mt:Int} {τ:Nat→Nat×Nat} (hS:ah W (dl (OY l aO kn kv kw (.slice (dm) (cz) (dA)) (.slice (bY) (bJ) (bX)) aW part bg off size pos ee lim nd Mt)) Cr τ) (ho:Own Cr τ rt O) (hk:aO=l.base+3*l.term+24∧kn=4∧kv=0∧kw=0∧cz=0) (he:pos=0∧ee=10) (hz:part=0∧bg=0∧off=0∧size=0) (hn:nd=(aU (B.length:Int))∧Mt=nd) (hr:RowK W Cr τ O bY B) (hb:bJ=B.length∧bJ≤bX) (hp:p=O4 (aP l) (aU (B.length:Int)) (BG (aP l) B aW) lim):CR l B aW q p ka W rt O
 | s2 {aO kn kv kw:Int} {dm:Option Addr} {cz dA:Nat} {bY:Option Addr} {bJ bX:Nat} {part bg off size pos ee cn lim nd Mt:Int} {τ:Nat→Nat×Nat} (hS:ah W (dl (Ao l aO kn kv kw (.slice (dm) (cz) (dA)) (.slice (bY) (bJ) (bX)) aW part bg off size pos ee cn lim nd Mt)) mR τ) (ho:Own mR τ rt O) (hk:aO=l.base+3*l.term+cn%3*8∧kn=8∧kv=0∧kw=0∧cz=0) (he:pos=0∧ee=10) (hz:part=0∧bg=0∧off=0∧size=0) (hc:0≤cn∧cn<4294967296) (hn:nd=(aU (B.length:Int))∧Mt=nd) (hr:RowK W mR τ O bY B) (hb:bJ=B.length∧bJ≤bX) (hp:p=Gr (aP l) (aU (B.length:Int)) (BG (aP l) B aW) lim cn):CR l B aW q p ka W rt O
 | s3 {aO kn kv kw:Int} {dm:Option Addr} {cz dA:Nat} {bY:Option Addr} {bJ bX:Nat} {part bg off size pos ee:Int} {τ:Nat→Nat×Nat} (hS:ah W (dl (lU l aO kn kv kw (.slice (dm) (cz) (dA)) (.slice (bY) (bJ) (bX)) aW part bg off size pos ee)) gV τ) (ho:Own gV τ rt O) (he:pos=0) (hz:part=0∧bg=0∧off=0∧size=0) (hp:p =.done ⟨bW,false,0,ee⟩):CR l B aW q p ka W rt O
 | s4 {aO kn kv kw:Int} {dm:Option Addr} {cz dA:Nat} {bY:Option Addr} {bJ bX:Nat} {part bg off size pos ee pt nd:Int} {τ:Nat→Nat×Nat} (hS:ah W (dl (Cm l aO kn kv kw (.slice (dm) (cz) (dA)) (.slice (bY) (bJ) (bX)) aW part bg off size pos ee pt nd)) pM τ) (ho:Own pM τ rt O) (hk:aO=l.base+3*l.term+pt*8∧kn=8∧kv=nd∧kw=0∧cz=0) (he:pos=0∧ee=10) (hz:part=0∧bg=0∧off=0∧size=0) (hpt:0≤pt∧pt≤2) (hn:nd=(aU (B.length:Int))) (hr:RowK W pM τ O bY B) (hb:bJ=B.length∧bJ≤bX) (hp:p =.ask fF (rO ((aP l).fu pt) (aU (B.length:Int))) fun raw=>AU (aP l) B aW pt raw.v):CR l B aW q p ka W rt O
 | s5 {aO kn kv kw:Int} {dm:Option Addr} {cz dA:Nat} {bY:Option Addr} {bJ bX:Nat} {part bg off size pos ee at_ x0 x1 x2 len:Int} {τ:Nat→Nat×Nat} (hS:ah W (dl (OX l aO kn kv kw (.slice (dm) (cz) (dA)) (.slice (bY) (bJ) (bX)) aW part bg off size pos ee at_ x0 x1 x2 len)) Cq τ) (ho:Own Cq τ rt O) (he:pos=0∧ee=10) (ha:kn=8∧kw=0∧cz=0) (hso:(0≤off∧off<4294967296)∧0≤size∧size≤1000000) (hr:RowK W Cq τ O bY B) (hb:bJ=B.length∧bJ≤bX) (hat:0≤at_∧at_≤300000) (hlen:0≤len∧len≤2000) (hka:aO=at_) (hp:p=W0 (aS ⟨part,bg,off,size⟩) at_ kv x1 x2 (inT (aS ⟨part,bg,off,size⟩) (xW aW (aS ⟨part,bg,off,size⟩) at_ len (.done ⟨⟨part,bg,off,size⟩,true,fI (aP l) ⟨part,bg,off,size⟩,0⟩)) 200 (at_+32) B)):CR l B aW q p ka W rt O
 | s9 {aO kn kv kw:Int} {dm:Option Addr} {cz dA:Nat} {bY:Option Addr} {bJ bX:Nat} {part bg off size pos ee at_ x0 x1 x2 len:Int} {τ:Nat→Nat×Nat} (hS:ah W (dl (OV l aO kn kv kw (.slice (dm) (cz) (dA)) (.slice (bY) (bJ) (bX)) aW part bg off size pos ee at_ x0 x1 x2 len)) Co τ) (ho:Own Co τ rt O) (he:pos=0∧ee=10) (ha:kn=8∧kw=0∧cz=0) (hso:(0≤off∧off<4294967296)∧0≤size∧size≤1000000) (hr:RowK W Co τ O bY B) (hb:bJ=B.length∧bJ≤bX) (hat:0≤at_∧at_≤300000) (hlen:0≤len∧len≤2000) (hka:aO=at_+8∧kv=x1) (hp:p=W1 (aS ⟨part,bg,off,size⟩) at_ x1 x2 (inT (aS ⟨part,bg,off,size⟩) (xW aW (aS ⟨part,bg,off,size⟩) at_ len (.done ⟨⟨part,bg,off,size⟩,true,fI (aP l) ⟨part,bg,off,size⟩,0⟩)) 200 (at_+32) B)):CR l B aW q p ka W rt O
 | s12 {aO kn kv kw:Int} {dm:Option Addr} {cz dA:Nat} {bY:Option Addr} {bJ bX:Nat} {part bg off size pos ee at_ x0 x1 x2 len:Int} {τ:Nat→Nat×Nat} (hS:ah W (dl (I9 l aO kn kv kw (.slice (dm) (cz) (dA)) (.slice (bY) (bJ) (bX)) aW part bg off size pos ee at_ x0 x1 x2 len)) wO τ) (ho:Own wO τ rt O) (he:pos=0∧ee=10) (ha:kn=8∧kw=0∧cz=0) (hso:(0≤off∧off<4294967296)∧0≤size∧size≤1000000) (hr:RowK W wO τ O bY B) (hb:bJ=B.length∧bJ≤bX) (hat:0≤at_∧at_≤300000) (hlen:0≤len∧len≤2000) (hka:aO=at_+16∧kv=x2) (hp:p=W2 (aS ⟨part,bg,off,size⟩) at_ x2 (inT (aS ⟨part,bg,off,size⟩) (xW aW (aS ⟨part,bg,off,size⟩) at_ len (.done ⟨⟨part,bg,off,size⟩,true,fI (aP l) ⟨part,bg,off,size⟩,0⟩)) 200 (at_+32) B)):CR l B aW q p ka W rt O
 | s16 {aO kn kv kw:Int} {dm:Option Addr} {cz dA:Nat} {bY:Option Addr} {bJ bX:Nat} {part bg off size pos ee at_ x0 x1 x2 len:Int} {τ:Nat→Nat×Nat} (hS:ah W (dl (Ar l aO kn kv kw (.slice (dm) (cz) (dA)) (.slice (bY) (bJ) (bX)) aW part bg off size pos ee at_ x0 x1 x2 len)) lX τ) (ho:Own lX τ rt O) (he:pos=0∧ee=10) (ha:kn=8∧kw=0∧cz=0) (hso:(0≤off∧off<4294967296)∧0≤size∧size≤1000000) (hr:RowK W lX τ O bY B) (hb:bJ=B.length∧bJ≤bX) (hat:0≤at_∧at_≤300000) (hlen:0≤len∧len≤2000) (hka:aO=at_+24∧kv=0) (hp:p=W3 (aS ⟨part,bg,off,size⟩) at_ (inT (aS ⟨part,bg,off,size⟩) (xW aW (aS ⟨part,bg,off,size⟩) at_ len (.done ⟨⟨part,bg,off,size⟩,true,fI (aP l) ⟨part,bg,off,size⟩,0⟩)) 200 (at_+32) B)):CR l B aW q p ka W rt O
 | G7 {aO kn kv kw:Int} {dm:Option Addr} {cz dA:Nat} {bY:Option Addr} {bJ bX:Nat} {part bg off size pos ee at_ n8:Int} {da:Option Addr} {dn dc:Nat} {at2 len:Int} {τ:Nat→Nat×Nat} (hS:ah W (dl (wL l aO kn kv kw (.slice (dm) (cz) (dA)) (.slice (bY) (bJ) (bX)) aW part bg off size pos ee at_ n8 (.slice (da) (dn) (dc)) at2 len)) kN τ) (ho:Own kN τ rt O) {b1:List Nat} {f:Nat} (he:pos=0∧ee=10) (ha:aO=at_∧kn=n8∧kv=0∧kw=0) (hkb:dm=da∧cz=n8.toNat∧da=ka) (hso:(0≤off∧off<4294967296)∧0≤size∧size≤1000000) (hb1:b1.length≤1000∧0<b1.length∧b1.length≤8*f) (hr:RowK W kN τ O da b1) (hd:dn=b1.length∧dn≤dc) (IC:n8=((min b1.length 8:Nat):Int)) (hat:0≤at_∧at_+b1.length≤320000∧0≤at2∧at2≤300000) (hlen:0≤len∧len≤2000) (hp:p=inT (aS ⟨part,bg,off,size⟩) (xW aW (aS ⟨part,bg,off,size⟩) at2 len (.done ⟨⟨part,bg,off,size⟩,true,fI (aP l) ⟨part,bg,off,size⟩,0⟩)) f at_ b1):CR l B aW q p ka W rt O
 | s20 {aO kn kv kw:Int} {dm:Option Addr} {cz dA:Nat} {bY:Option Addr} {bJ bX:Nat} {part bg off size pos ee at2 len:Int} {τ:Nat→Nat×Nat} (hS:ah W (dl (Ec l aO kn kv kw (.slice (dm) (cz) (dA)) (.slice (bY) (bJ) (bX)) aW part bg off size pos ee at2 len)) wN τ) (ho:Own wN τ rt O) (he:pos=0∧ee=10) (ha:aO=at2+4∧kn=4∧kv=49152∧kw=0∧cz=0) (hso:(0≤off∧off<4294967296)∧0≤size∧size≤1000000) (hat:0≤at2∧at2≤300000) (hlen:0≤len∧len≤2000) (hp:p =.ask (aS ⟨part,bg,off,size⟩) (Go.Base.store (at2+4) 4 49152) fun _=>FS (aS ⟨part,bg,off,size⟩) at2 len (.done ⟨⟨part,bg,off,size⟩,true,fI (aP l) ⟨part,bg,off,size⟩,0⟩)):CR l B aW q p ka W rt O
 | Gz {aO kn kv kw:Int} {dm:Option Addr} {cz dA:Nat} {bY:Option Addr} {bJ bX:Nat} {part bg off size pos ee:Int} {τ:Nat→Nat×Nat} (hS:ah W (dl (Ap l aO kn kv kw (.slice (dm) (cz) (dA)) (.slice (bY) (bJ) (bX)) aW part bg off size pos ee)) tY τ) (ho:Own tY τ rt O) (he:pos=0∧ee=10) (ha:kn=4∧kw=0∧cz=0) (hso:(0≤off∧off<4294967296)∧0≤size∧size≤1000000) (hp:p=FS (aS ⟨part,bg,off,size⟩) aO kv (.done ⟨⟨part,bg,off,size⟩,true,fI (aP l) ⟨part,bg,off,size⟩,0⟩)):CR l B aW q p ka W rt O
 | Gy {aO kn kv kw:Int} {dm:Option Addr} {cz dA:Nat} {bY:Option Addr} {bJ bX:Nat} {part bg off size pos ee:Int} {τ:Nat→Nat×Nat} (hS:ah W (dl (Ea l aO kn kv kw (.slice (dm) (cz) (dA)) (.slice (bY) (bJ) (bX)) aW part bg off size pos ee)) tV τ) (ho:Own tV τ rt O)  (hp:p =.done ⟨⟨part,bg,off,size⟩,true,pos,ee⟩):CR l B aW q p ka W rt O
 | s8 {aO kn kv kw:Int} {dm:Option Addr} {cz dA:Nat} {bY:Option Addr} {bJ bX:Nat} {part bg off size pos ee at_ x0 x1 x2 len:Int} {τ:Nat→Nat×Nat} (hS:ah W (dl (OW l aO kn kv kw (.slice (dm) (cz) (dA)) (.slice (bY) (bJ) (bX)) aW part bg off size pos ee at_ x0 x1 x2 len)) F9 τ) (ho:Own F9 τ rt O) (he:pos=0∧ee=10) (ha:kn=8∧kw=0∧cz=0) (hat:0≤at_∧at_≤300000) (hlen:0≤len∧len≤10000) (hka:aO=at_) (hp:p=W0 (aS ⟨part,bg,off,size⟩) at_ kv x1 x2 (FS (aS ⟨part,bg,off,size⟩) at_ len (dh (aP l) ⟨part,bg,off,size⟩))):CR l B aW q p ka W rt O
 | s11 {aO kn kv kw:Int} {dm:Option Addr} {cz dA:Nat} {bY:Option Addr} {bJ bX:Nat} {part bg off size pos ee at_ x0 x1 x2 len:Int} {τ:Nat→Nat×Nat} (hS:ah W (dl (Ja l aO kn kv kw (.slice (dm) (cz) (dA)) (.slice (bY) (bJ) (bX)) aW part bg off size pos ee at_ x0 x1 x2 len)) Az τ) (ho:Own Az τ rt O) (he:pos=0∧ee=10) (ha:kn=8∧kw=0∧cz=0) (hat:0≤at_∧at_≤300000) (hlen:0≤len∧len≤10000) (hka:aO=at_+8∧kv=x1) (hp:p=W1 (aS ⟨part,bg,off,size⟩) at_ x1 x2 (FS (aS ⟨part,bg,off,size⟩) at_ len (dh (aP l) ⟨part,bg,off,size⟩))):CR l B aW q p ka W rt O
 | s15 {aO kn kv kw:Int} {dm:Option Addr} {cz dA:Nat} {bY:Option Addr} {bJ bX:Nat} {part bg off size pos ee at_ x0 x1 x2 len:Int} {τ:Nat→Nat×Nat} (hS:ah W (dl (I8 l aO kn kv kw (.slice (dm) (cz) (dA)) (.slice (bY) (bJ) (bX)) aW part bg off size pos ee at_ x0 x1 x2 len)) Ay τ) (ho:Own Ay τ rt O) (he:pos=0∧ee=10) (ha:kn=8∧kw=0∧cz=0) (hat:0≤at_∧at_≤300000) (hlen:0≤len∧len≤10000) (hka:aO=at_+16∧kv=x2) (hp:p=W2 (aS ⟨part,bg,off,size⟩) at_ x2 (FS (aS ⟨part,bg,off,size⟩) at_ len (dh (aP l) ⟨part,bg,off,size⟩))):CR l B aW q p ka W rt O
 | La {aO kn kv kw:Int} {dm:Option Addr} {cz dA:Nat} {bY:Option Addr} {bJ bX:Nat} {part bg off size pos ee at_ x0 x1 x2 len:Int} {τ:Nat→Nat×Nat} (hS:ah W (dl (I7 l aO kn kv kw (.slice (dm) (cz) (dA)) (.slice (bY) (bJ) (bX)) aW part bg off size pos ee at_ x0 x1 x2 len)) Aw τ) (ho:Own Aw τ rt O) (he:pos=0∧ee=10) (ha:kn=8∧kw=0∧cz=0) (hat:0≤at_∧at_≤300000) (hlen:0≤len∧len≤10000) (hka:aO=at_+24∧kv=0) (hp:p=W3 (aS ⟨part,bg,off,size⟩) at_ (FS (aS ⟨part,bg,off,size⟩) at_ len (dh (aP l) ⟨part,bg,off,size⟩))):CR l B aW q p ka W rt O
 | JE {aO kn kv kw:Int} {dm:Option Addr} {cz dA:Nat} {bY:Option Addr} {bJ bX:Nat} {part bg off size pos ee:Int} {τ:Nat→Nat×Nat} (hS:ah W (dl (Eb l aO kn kv kw (.slice (dm) (cz) (dA)) (.slice (bY) (bJ) (bX)) aW part bg off size pos ee)) tX τ) (ho:Own tX τ rt O) (he:pos=0∧ee=10) (ha:kn=4∧kw=0∧cz=0) (hp:p=FS (aS ⟨part,bg,off,size⟩) aO kv (dh (aP l) ⟨part,bg,off,size⟩)):CR l B aW q p ka W rt O
 | s6 {aO kn kv kw:Int} {dm:Option Addr} {cz dA:Nat} {bY:Option Addr} {bJ bX:Nat} {part bg off size pos ee bq bP bM aN az bD:Int} {τ:Nat→Nat×Nat} (hS:ah W (dl (Am l aO kn kv kw (.slice (dm) (cz) (dA)) (.slice (bY) (bJ) (bX)) aW part bg off size pos ee bq bP bM aN az bD)) nT τ) (ho:Own nT τ rt O)  (hp:p =.done ⟨⟨part,bg,off,size⟩,true,0,(if bD=0∨bD=5 then 6 else bD)⟩):CR l B aW q p ka W rt O
 | s7 {aO kn kv kw:Int} {dm:Option Addr} {cz dA:Nat} {bY:Option Addr} {bJ bX:Nat} {part bg off size pos ee bq bP bM aN az bD:Int} {τ:Nat→Nat×Nat} (hS:ah W (dl (Ck l aO kn kv kw (.slice (dm) (cz) (dA)) (.slice (bY) (bJ) (bX)) aW part bg off size pos ee bq bP bM aN az bD)) pK τ) (ho:Own pK τ rt O) (hrc:az=u32 (bg-l.bG)∧0≤az∧az<2147483647) (hrn:aN=bF (bg+1)) (hre:bD=10) (iP:bq=l.base+3*l.term+40∧bP=0∧bM=0) (hp:p=Sn (aP l) ⟨part,bg,off,size⟩):CR l B aW q p ka W rt O
 | s10 {aO kn kv kw:Int} {dm:Option Addr} {cz dA:Nat} {bY:Option Addr} {bJ bX:Nat} {part bg off size pos ee bq bP bM aN az bD rat:Int} {τ:Nat→Nat×Nat} (hS:ah W (dl (wM l aO kn kv kw (.slice (dm) (cz) (dA)) (.slice (bY) (bJ) (bX)) aW part bg off size pos ee bq bP bM aN az bD rat)) kP τ) (ho:Own kP τ rt O) {f:Nat} (hrc:az=u32 (bg-l.bG)∧0≤az∧az<2147483647) (hrn:aN=bF (bg+1)) (hre:bD=10) (hf:q≤2*f) (iP:bq=l.base+3*l.term+(az+1)%3*8∧rat=bq∧bP=0∧bM=0) (hp:p=uJ (aP l) (aS ⟨part,bg,off,size⟩) bg (u32 (bg-l.bG)) (xO ⟨part,bg,off,size⟩) (f+1)):CR l B aW q p ka W rt O
 | s13 {aO kn kv kw:Int} {dm:Option Addr} {cz dA:Nat} {bY:Option Addr} {bJ bX:Nat} {part bg off size pos ee bq bP bM aN az bD:Int} {τ:Nat→Nat×Nat} (hS:ah W (dl (Av l aO kn kv kw (.slice (dm) (cz) (dA)) (.slice (bY) (bJ) (bX)) aW part bg off size pos ee bq bP bM aN az bD)) lY τ) (ho:Own lY τ rt O) {f:Nat} (hrc:az=u32 (bg-l.bG)∧0≤az∧az<2147483647) (hrn:aN=bF (bg+1)) (hre:bD=10) (hf:q≤2*f+1) (iP:bq=l.base+3*l.term+(az+1)%3*8∧bM=pack aN 0) (hp:p=Sm (aP l) ⟨part,bg,off,size⟩ (f+1) bP):CR l B aW q p ka W rt O
 | G9 {aO kn kv kw:Int} {dm:Option Addr} {cz dA:Nat} {bY:Option Addr} {bJ bX:Nat} {part bg off size pos ee bq bP bM aN az bD:Int} {τ:Nat→Nat×Nat} (hS:ah W (dl (Au l aO kn kv kw (.slice (dm) (cz) (dA)) (.slice (bY) (bJ) (bX)) aW part bg off size pos ee bq bP bM aN az bD)) mZ τ) (ho:Own mZ τ rt O) (hrc:az=u32 (bg-l.bG)∧0≤az∧az<2147483647) (hrn:aN=bF (bg+1)) (hre:bD=10) (iP:bq=l.base+3*l.term+24∧bP=az∧bM=az+1) (hp:p=xQ (aP l) (aS ⟨part,bg,off,size⟩) (u32 (bg-l.bG)) (xO ⟨part,bg,off,size⟩)):CR l B aW q p ka W rt O
 | G8 {aO kn kv kw:Int} {dm:Option Addr} {cz dA:Nat} {bY:Option Addr} {bJ bX:Nat} {part bg off size pos ee bq bP bM aN az:Int} {rE:Bool} {bD:Int} {τ:Nat→Nat×Nat} (hS:ah W (dl (Aq l aO kn kv kw (.slice (dm) (cz) (dA)) (.slice (bY) (bJ) (bX)) aW part bg off size pos ee bq bP bM aN az rE bD)) lW τ) (ho:Own lW τ rt O)  (hp:p =.done ⟨⟨part,bg,off,size⟩,true,0,(if bD=0∨bD=5 then 6 else bD)⟩):CR l B aW q p ka W rt O
def CRx (l:Lg) (B:List Nat) (aW:Bool) (q:Nat) (p:Pr An Ot) (W:World) (rt:Nat×Nat) (O:Nat→Prop):Prop:=∃ka,CR l B aW q p ka W rt O
theorem dV {A A':dU} {τ:Nat→Nat×Nat} {rt:Nat×Nat} {O:Nat→Prop} {w:World} {D':Nat→Value} {f:FuncId} {args:Array Value} {v:Value} {R:World→(Nat→Prop)→Prop}
 (h:Calls Tryz.prog f args w fun e w'=>e =.returned v∧∃bf,ah w' D' A' bf∧bK A τ w A' bf w'∧bf 0=τ 0) (ho:Own A τ rt O)
 (hr:∀w' bf,ah w' D' A' bf→bK A τ w A' bf w'→Own A' bf rt (Grow O w w')→R w' (Grow O w w')) :
 Calls Tryz.prog f args w fun e w'=>e =.returned v∧jB O w w'∧R w' (Grow O w w'):=dR h ho hr
theorem OC {o:Ot} {a n:Int} {k:Pr An Ot}:xW true o a n k=FS o a n k:=if_pos rfl
theorem OD {o:Ot} {a n:Int} {k:Pr An Ot}:xW false o a n k =.ask o (Go.Base.store (a+4) 4 49152) fun _=>FS o a n k:=if_neg (by decide)
theorem QU {l:Lg} {s:jU} {aW:Bool} {b:List Nat} {c:Nat} (hb:b.length=c) {at_:Int} (ha:(l.base+s.part*l.term)+s.off=at_):Ch (aP l) b aW s=W0 (aS s) at_ (qZ (-(32+(c:Int))) 192 1) (u32 s.off+4294967296*u32 l.dQ) (u32 l.str+4294967296*u32 s.term) (inT (aS s) (xW aW (aS s) at_ (32+(c:Int)) (.done ⟨s,true,fI (aP l) s,0⟩)) 200 (at_+32) b):=by
 unfold Ch
 rw[zq,ha,hb]
 rfl
theorem CR.take {l:Lg} (hl:l.ok) {B:List Nat} {aW:Bool} (hBl:B.length≤1000∧(B.length:Int)≤l.aV) {q:Nat} (hq:q≤1500) {p:Pr An Ot} {W:World} {rt:Nat×Nat} {O:Nat→Prop} {ka:Option Addr} (h:CR l B aW (q+1) p ka W rt O) (x:An) (hV:0≤x.v∧x.v<18446744073709551616) {xa:Option Addr} {xn xc:Nat} :
 Calls Tryz.prog 285 #[.pointer (some ⟨rt.1,rt.2+0,none⟩),.agg #[.int .u64 x.v,.bool x.dn,.slice xa xn xc]] W fun e w'=>e =.returned (.tuple #[])∧jB O W w'∧CRx l B aW q (wB p x) w' rt (Grow O W w'):=by
 have hlb:=hl.bounds
 have hlm:=jA hl
 have hnd:=qo (n:=(B.length:Int)) (by omega) (by omega)
 have acK:aU (B.length:Int)≤1200:=by unfold aU;omega
 cases h with
 | s0 hS ho hk he hz hn hr hb hp =>
   obtain⟨rfl,ho'⟩:=ho
   subst hp
   exact dV (YC hl hV hS) ⟨rfl,ho'⟩ fun w' bf hS' hm ho=>⟨none,.s1 hS' ho ⟨rfl,rfl,rfl,rfl,rfl⟩ he hz hn (hr.step hm) hb rfl⟩
 | s1 hS ho hk he hz hn hr hb hp =>
   obtain⟨rfl,ho'⟩:=ho
   subst hp
   exact dV (YB hl hV hS) ⟨rfl,ho'⟩ fun w' bf hS' hm ho=>⟨none,.s2 hS' ho ⟨rfl,rfl,rfl,rfl,rfl⟩ he hz (bQ _) hn (hr.step hm) hb rfl⟩
 | s2 hS ho hk he hz hc hn hr hb hp =>
   rename_i aO kn kv kw dm cz dA bY bJ bX part bg off size pos ee cn lim nd Mt τ
   obtain⟨rfl,ho'⟩:=ho
   obtain⟨hn1,hn2⟩:=hn
   subst hp hn1 hn2
   by_cases e0:u32 (bF (x.v/4294967296)-l.bG)=cn
   ·by_cases e1:cn≥2147483648
    ·exact dV (YA hl hV hc e0 e1 hS) ⟨rfl,ho'⟩ fun w' bf hS' hm ho=>⟨none,.s3 hS' ho he.1 hz ((if_neg (fun h=>h e0)).trans (if_pos e1))⟩
    ·by_cases e2:cn*l.term+min (x.v%4294967296) l.term<iK lim
     ·have ht:wB (Gr (aP l) (aU (B.length:Int)) (BG (aP l) B aW) lim cn) x=BG (aP l) B aW cn:=(if_neg (fun h=>h e0)).trans ((if_neg e1).trans (if_pos e2))
      exact dV (Yz hl hV hc ⟨by omega,by omega⟩ e0 e1 e2 hS) ⟨rfl,ho'⟩ fun w' bf hS' hm ho=>⟨none,.s4 hS' ho ⟨rfl,rfl,rfl,rfl,rfl⟩ he hz (by omega) rfl (hr.step hm) hb (ht.trans (by unfold BG;rfl))⟩
     ·by_cases e3:cn*l.term+min (x.v%4294967296) l.term+aU (B.length:Int)>l.term*2147483648
      ·exact dV (Yy hl hV hc ⟨by omega,by omega⟩ e0 e1 e2 e3 hS) ⟨rfl,ho'⟩ fun w' bf hS' hm ho=>⟨none,.s3 hS' ho he.1 hz ((if_neg (fun h=>h e0)).trans ((if_neg e1).trans ((if_neg e2).trans (if_pos e3))))⟩
      ·exact dV (Yx hl hV hc ⟨by omega,by omega⟩ e0 e1 e2 e3 hS) ⟨rfl,ho'⟩ fun w' bf hS' hm ho=>⟨none,.s3 hS' ho he.1 hz ((if_neg (fun h=>h e0)).trans ((if_neg e1).trans ((if_neg e2).trans (if_neg e3))))⟩
   ·exact dV (Yw hl hV hc e0 hS) ⟨rfl,ho'⟩ fun w' bf hS' hm ho=>⟨none,.s3 hS' ho he.1 hz (if_pos e0)⟩
 | s3 hS ho he hz hp =>
   obtain⟨rfl,ho'⟩:=ho
   subst hp
   exact dV (Yv hl hV hS) ⟨rfl,ho'⟩ fun w' bf hS' hm ho=>⟨none,.s3 hS' ho he hz rfl⟩
 | s4 hS ho hk he hz hpt hn hr hb hp =>
   rename_i aO kn kv kw dm cz dA bY bJ bX part bg off size pos ee pt nd τ
   obtain⟨rfl,ho'⟩:=ho
   subst hp hn
   have hpb:=Db hl hpt
   by_cases e0:x.v%4294967296+aU (B.length:Int)≤l.term
   ·have ht:wB (Pr.ask fF (rO ((aP l).fu pt) (aU (B.length:Int))) fun raw=>AU (aP l) B aW pt raw.v) x=Ch (aP l) B aW ⟨pt,bF (x.v/4294967296),x.v%4294967296,aU (B.length:Int)⟩:=if_neg (show ¬(x.v%4294967296+aU (B.length:Int)>l.term) by omega)
    refine dV (Yu hl hV ⟨hb.2,by omega⟩ hpt ⟨by omega,by omega⟩ e0 hS) ⟨rfl,ho'⟩ fun w' bf hS' hm ho=>⟨none,.s5 hS' ho he ⟨rfl,rfl,rfl⟩ ⟨⟨by omega,by omega⟩,by omega,by omega⟩ (hr.step hm) hb ⟨by omega,by omega⟩ ⟨by omega,by omega⟩ (by omega) ?_⟩
    rw[ht]
    exact QU hb.1.symm rfl
   ·have ht:wB (Pr.ask fF (rO ((aP l).fu pt) (aU (B.length:Int))) fun raw=>AU (aP l) B aW pt raw.v) x=eO (aP l) ⟨pt,bF (x.v/4294967296),x.v%4294967296,aU (B.length:Int)⟩ (dh (aP l) ⟨pt,bF (x.v/4294967296),x.v%4294967296,aU (B.length:Int)⟩):=if_pos (show(x.v%4294967296+aU (B.length:Int)>l.term) by omega)
    by_cases e1:x.v%4294967296≥l.term
    ·have ht2:eO (aP l) ⟨pt,bF (x.v/4294967296),x.v%4294967296,aU (B.length:Int)⟩ (dh (aP l) ⟨pt,bF (x.v/4294967296),x.v%4294967296,aU (B.length:Int)⟩)=dh (aP l) ⟨pt,bF (x.v/4294967296),x.v%4294967296,aU (B.length:Int)⟩:=if_neg (show ¬(x.v%4294967296<l.term) by omega)
     by_cases e2:u32 (bF (x.v/4294967296)-l.bG)≥2147483647
     ·exact dV (Yt hl hV ⟨by omega,by omega⟩ e0 e1 e2 hS) ⟨rfl,ho'⟩ fun w' bf hS' hm ho=>⟨none,.s6 hS' ho (ht.trans (ht2.trans (uB _ _ e2)))⟩
     ·exact dV (U2 hl hV ⟨by omega,by omega⟩ e0 e1 e2 hS) ⟨rfl,ho'⟩ fun w' bf hS' hm ho=>⟨none,.s7 hS' ho ⟨rfl,(bQ _).1,by omega⟩ rfl rfl ⟨rfl,rfl,rfl⟩ (ht.trans (ht2.trans (qQ _ _ e2)))⟩
    ·refine dV (U1 hl hV hpt ⟨by omega,by omega⟩ e0 e1 hS) ⟨rfl,ho'⟩ fun w' bf hS' hm ho=>⟨none,.s8 hS' ho he ⟨rfl,rfl,rfl⟩ ⟨by omega,by omega⟩ ⟨by omega,by omega⟩ (by omega) ?_⟩
     rw[ht]
     exact Nf (show x.v%4294967296<l.term by omega) rfl
 | s5 hS ho he ha hso hr hb hat hlen hka hp =>
   obtain⟨rfl,ho'⟩:=ho
   subst hp
   exact dV (U0 hl hV ⟨by omega,by omega⟩ hS) ⟨rfl,ho'⟩ fun w' bf hS' hm ho=>⟨none,.s9 hS' ho he ⟨rfl,rfl,rfl⟩ hso (hr.step hm) hb hat hlen ⟨rfl,rfl⟩ rfl⟩
 | s9 hS ho he ha hso hr hb hat hlen hka hp =>
   obtain⟨rfl,ho'⟩:=ho
   subst hp
   exact dV (UU hl hV ⟨by omega,by omega⟩ hS) ⟨rfl,ho'⟩ fun w' bf hS' hm ho=>⟨none,.s12 hS' ho he ⟨rfl,rfl,rfl⟩ hso (hr.step hm) hb hat hlen ⟨rfl,rfl⟩ rfl⟩
 | s12 hS ho he ha hso hr hb hat hlen hka hp =>
   obtain⟨rfl,ho'⟩:=ho
   subst hp
   exact dV (UO hl hV ⟨by omega,by omega⟩ hS) ⟨rfl,ho'⟩ fun w' bf hS' hm ho=>⟨none,.s16 hS' ho he ⟨rfl,rfl,rfl⟩ hso (hr.step hm) hb hat hlen ⟨rfl,rfl⟩ rfl⟩
 | s16 hS ho he ha hso hr hb hat hlen hka hp =>
   rename_i aO kn kv kw dm cz dA bY bJ bX part bg off size pos ee at_ x0 x1 x2 len τ
   obtain⟨rfl,ho'⟩:=ho
   subst hp
   by_cases e0:((bJ:Nat):Int)=0
   ·have hb0:B=[]:=List.eq_nil_of_length_eq_zero (by omega)
    by_cases e1:aW=true
    ·refine dV (UJ hl hV ⟨hb.2,by omega⟩ ⟨by omega,by omega⟩ ⟨by omega,by omega⟩ e0 e1 hS) ⟨rfl,ho'⟩ fun w' bf hS' hm ho=>⟨none,.Gz hS' ho he ⟨rfl,rfl,rfl⟩ hso ?_⟩
     show inT _ _ 200 _ B=_
     rw[hb0,qY,e1,OC]
    ·refine dV (UI hl hV ⟨hb.2,by omega⟩ ⟨by omega,by omega⟩ e0 e1 hS) ⟨rfl,ho'⟩ fun w' bf hS' hm ho=>⟨none,.s20 hS' ho he ⟨rfl,rfl,rfl,rfl,rfl⟩ hso hat hlen ?_⟩
     show inT _ _ 200 _ B=_
     have e2:aW=false:=by simpa using e1
     rw[hb0,qY,e2,OD]
   ·refine dV (UH hl hV ⟨hb.2,by omega⟩ ⟨by omega,by omega⟩ e0 hS) ⟨rfl,ho'⟩ fun w' bf hS' hm ho=>⟨_,.G7 hS' ho he ⟨rfl,rfl,rfl,rfl⟩ ⟨rfl,rfl,rfl⟩ hso (b1:=B) (f:=200) ⟨by omega,by omega,by omega⟩ (hr.step hm) hb (by rw[←hb.1]) ⟨by omega,by omega,by omega,by omega⟩ hlen rfl⟩
 | G7 hS ho he ha hkb hso hb1 hr hd IC hat hlen hp =>
   rename_i aO kn kv kw dm cz dA bY bJ bX part bg off size pos ee at_ n8 da dn dc at2 len τ b1 f
   obtain⟨rfl,ho'⟩:=ho
   obtain⟨f,rfl⟩:∃f',f=f'+1:=⟨f-1,by omega⟩
   have ht:∀K,wB (inT (aS ⟨part,bg,off,size⟩) K (f+1) at_ b1) x=inT (aS ⟨part,bg,off,size⟩) K f (at_+8) (b1.drop 8):=fun K=>by
    rw[nK _ _ _ _ _ (fun h=>by rw[h]at hb1;simp at hb1)]
    rfl
   subst hp
   by_cases e0:((dn-n8.toNat:Nat):Int)=0
   ·have hd0:b1.drop 8=[]:=List.drop_eq_nil_of_le (by omega)
    by_cases e1:aW=true
    ·exact dV (UC hl hV ⟨by omega,by omega⟩ ⟨by omega,by omega,by omega⟩ ⟨hd.2,by omega⟩ ⟨by omega,by omega⟩ e0 e1 hS) ⟨rfl,ho'⟩ fun w' bf hS' hm ho=>⟨none,.Gz hS' ho he ⟨rfl,rfl,rfl⟩ hso (by rw[ht,hd0,qY,e1,OC])⟩
    ·have e2:aW=false:=by simpa using e1
     exact dV (UB hl hV ⟨by omega,by omega⟩ ⟨by omega,by omega,by omega⟩ ⟨hd.2,by omega⟩ ⟨by omega,by omega⟩ e0 e1 hS) ⟨rfl,ho'⟩ fun w' bf hS' hm ho=>⟨none,.s20 hS' ho he ⟨rfl,rfl,rfl,rfl,rfl⟩ hso ⟨by omega,by omega⟩ hlen (by rw[ht,hd0,qY,e2,OD])⟩
   ·have h8:n8.toNat=8:=by omega
    refine dV (UA hl hV ⟨by omega,by omega⟩ ⟨by omega,by omega,by omega⟩ ⟨hd.2,by omega⟩ e0 hS) ⟨rfl,ho'⟩ fun w' bf hS' hm ho=>⟨_,.G7 hS' ho he ⟨rfl,rfl,rfl,rfl⟩ ⟨rfl,rfl,rfl⟩ hso (b1:=b1.drop 8) (f:=f) ⟨by rw[List.length_drop];omega,by rw[List.length_drop];omega,by rw[List.length_drop];omega⟩ (by rw[h8];exact(hr.step hm).drop (by omega)) ⟨by rw[List.length_drop];omega,by omega⟩ (by rw[List.length_drop,hd.1,h8]) ⟨by omega,by rw[List.length_drop];omega,by omega,by omega⟩ hlen ((ht _).trans (by rw[show at_+8=at_+n8 by omega]))⟩
 | s20 hS ho he ha hso hat hlen hp =>
   obtain⟨rfl,ho'⟩:=ho
   subst hp
   exact dV (UD hl hV ⟨by omega,by omega⟩ hS) ⟨rfl,ho'⟩ fun w' bf hS' hm ho=>⟨none,.Gz hS' ho he ⟨rfl,rfl,rfl⟩ hso rfl⟩
 | Gz hS ho he ha hso hp =>
   obtain⟨rfl,ho'⟩:=ho
   subst hp
   exact dV (UE hl hV hso.1 hso.2 hS) ⟨rfl,ho'⟩ fun w' bf hS' hm ho=>⟨none,.Gy hS' ho rfl⟩
 | Gy hS ho hp =>
   obtain⟨rfl,ho'⟩:=ho
   subst hp
   exact dV (Ux hl hV hS) ⟨rfl,ho'⟩ fun w' bf hS' hm ho=>⟨none,.Gy hS' ho rfl⟩
 | s8 hS ho he ha hat hlen hka hp =>
   obtain⟨rfl,ho'⟩:=ho
   subst hp
   exact dV (UW hl hV ⟨by omega,by omega⟩ hS) ⟨rfl,ho'⟩ fun w' bf hS' hm ho=>⟨none,.s11 hS' ho he ⟨rfl,rfl,rfl⟩ hat hlen ⟨rfl,rfl⟩ rfl⟩
 | s11 hS ho he ha hat hlen hka hp =>
   obtain⟨rfl,ho'⟩:=ho
   subst hp
   exact dV (UQ hl hV ⟨by omega,by omega⟩ hS) ⟨rfl,ho'⟩ fun w' bf hS' hm ho=>⟨none,.s15 hS' ho he ⟨rfl,rfl,rfl⟩ hat hlen ⟨rfl,rfl⟩ rfl⟩
 | s15 hS ho he ha hat hlen hka hp =>
   obtain⟨rfl,ho'⟩:=ho
   subst hp
   exact dV (UK hl hV ⟨by omega,by omega⟩ hS) ⟨rfl,ho'⟩ fun w' bf hS' hm ho=>⟨none,.La hS' ho he ⟨rfl,rfl,rfl⟩ hat hlen ⟨rfl,rfl⟩ rfl⟩
 | La hS ho he ha hat hlen hka hp =>
   obtain⟨rfl,ho'⟩:=ho
   subst hp
   exact dV (UF hl hV ⟨by omega,by omega⟩ hS) ⟨rfl,ho'⟩ fun w' bf hS' hm ho=>⟨none,.JE hS' ho he ⟨rfl,rfl,rfl⟩ rfl⟩
 | JE hS ho he ha hp =>
   rename_i aO kn kv kw dm cz dA bY bJ bX part bg off size pos ee τ
   obtain⟨rfl,ho'⟩:=ho
   subst hp
   by_cases e0:u32 (bg-l.bG)≥2147483647
   ·exact dV (Uz hl hV e0 hS) ⟨rfl,ho'⟩ fun w' bf hS' hm ho=>⟨none,.s6 hS' ho (uB _ _ e0)⟩
   ·exact dV (Uy hl hV e0 hS) ⟨rfl,ho'⟩ fun w' bf hS' hm ho=>⟨none,.s7 hS' ho ⟨rfl,(bQ _).1,by omega⟩ rfl rfl ⟨rfl,rfl,rfl⟩ (qQ _ _ e0)⟩
 | s6 hS ho hp =>
   obtain⟨rfl,ho'⟩:=ho
   subst hp
   exact dV (UZ hl hV hS) ⟨rfl,ho'⟩ fun w' bf hS' hm ho=>⟨none,.s6 hS' ho rfl⟩
 | s7 hS ho hrc hrn hre iP hp =>
   rename_i aO kn kv kw dm cz dA bY bJ bX part bg off size pos ee bq bP bM aN az bD τ
   obtain⟨rfl,ho'⟩:=ho
   subst hp
   have hc:=hrc.1
   by_cases e0:iK x.v<az-1
   ·exact dV (UY hl hV hrc.2 e0 hS) ⟨rfl,ho'⟩ fun w' bf hS' hm ho=>⟨none,.s6 hS' ho (if_pos (by rw[hc]at e0;exact e0))⟩
   ·exact dV (UX hl hV hrc.2 e0 hS) ⟨rfl,ho'⟩ fun w' bf hS' hm ho=>⟨none,.s10 hS' ho (f:=999) hrc hrn hre (by omega) ⟨rfl,rfl,rfl,rfl⟩ (if_neg (by rw[hc]at e0;exact e0))⟩
 | s10 hS ho hrc hrn hre hf iP hp =>
   rename_i aO kn kv kw dm cz dA bY bJ bX part bg off size pos ee bq bP bM aN az bD rat τ f
   obtain⟨rfl,ho'⟩:=ho
   obtain⟨f,rfl⟩:∃f',f=f'+1:=⟨f-1,by omega⟩
   have ht:=BK (aP l) ⟨part,bg,off,size⟩ (f+1)
   have hcmp:bF (aN-3)=bF (bg+1-3):=by rw[hrn];exact CW _
   obtain⟨h1,rfl,h2⟩:=iP
   subst hp
   by_cases e0:bF (x.v/4294967296)=bF (aN-3)
   ·refine dV (UT hl hV e0 hS) ⟨rfl,ho'⟩ fun w' bf hS' hm ho=>⟨none,.s13 hS' ho (f:=f) hrc hrn hre (by omega) ⟨h1,rfl⟩ ?_⟩
    exact(congrArg (fun p=>wB p x) ht).trans (if_neg (fun h=>h (e0.trans hcmp)))
   ·refine dV (UR hl hV hrc.2 e0 hS) ⟨rfl,ho'⟩ fun w' bf hS' hm ho=>⟨none,.G9 hS' ho hrc hrn hre ⟨rfl,rfl,rfl⟩ ?_⟩
    exact(congrArg (fun p=>wB p x) ht).trans (if_pos (fun h=>e0 (h.trans hcmp.symm)))
 | s13 hS ho hrc hrn hre hf iP hp =>
   obtain⟨rfl,ho'⟩:=ho
   subst hp
   by_cases e0:x.dn=true
   ·exact dV (UN hl hV hrc.2 e0 hS) ⟨rfl,ho'⟩ fun w' bf hS' hm ho=>⟨none,.G9 hS' ho hrc hrn hre ⟨rfl,rfl,rfl⟩ (if_pos e0)⟩
   ·exact dV (UM hl hV hrc.2 e0 hS) ⟨rfl,ho'⟩ fun w' bf hS' hm ho=>⟨none,.s10 hS' ho hrc hrn hre (by omega) ⟨rfl,rfl,rfl,rfl⟩ (if_neg e0)⟩
 | G9 hS ho hrc hrn hre iP hp =>
   obtain⟨rfl,ho'⟩:=ho
   subst hp
   exact dV (UL hl hV hS) ⟨rfl,ho'⟩ fun w' bf hS' hm ho=>⟨none,.G8 hS' ho rfl⟩
 | G8 hS ho hp =>
   obtain⟨rfl,ho'⟩:=ho
   subst hp
   exact dV (UG hl hV hS) ⟨rfl,ho'⟩ fun w' bf hS' hm ho=>⟨none,.G8 hS' ho rfl⟩
