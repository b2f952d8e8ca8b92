import Derived.Test.YtlaogoehmndcjaaGreatDoorZ39
set_option maxRecDepth 100000
set_option linter.unusedVariables false
set_option linter.unusedSectionVars false
set_option linter.unusedSimpArgs false
namespace Go.Proofs.YtlaogoehmndcjaaGreatDoor.Sy
open Go RowKit Lib AS Base Ba
noncomputable section
variable {l:Lg} {aO kn kv kw part bg off size pos ee yf yg yh yi y9 V ya bq bP bM aN az bD:Int} {dm bY xa:Option Addr} {cz dA bJ bX xn xc:Nat} {aW dn rE:Bool} {w:World} {τ:Nat→Nat×Nat}
theorem UQ (hl:l.ok) (hV:0≤V∧V<18446744073709551616) (ko:0≤yf∧yf≤1000000) (hS:ah w (dl (Ja l aO kn kv kw (.slice dm cz dA) (.slice bY bJ bX) aW part bg off size pos ee yf yg yh yi y9)) Az τ):Goes 285 τ V dn xa xn xc w Az Ay (I8 l (yf+16) 8 yi 0 sZ (.slice bY bJ bX) aW part bg off size pos ee yf yg yh yi y9):=by
 letI:bH:=dw hS [iW V,.bool dn,.slice (xa) (xn) (xc),iL (yf+16)]
 have hlb:=hl.bounds
 have hR:dN T0 [⟨(10,3,3),[sym 20,iL 16],sym 28⟩]:=r6 .add yf 16 (iL (yf+16)) (aJ wq) gn
 exact bL nV nU 25 [RQ,LW,vL,(3,[iL 2]),Ak,jI,fC,mQ,fC,jH] [0,31,2,18,4,5,6,7,8,9] hR qn fn0 (fun _ _=>trivial) hS
theorem UO (hl:l.ok) (hV:0≤V∧V<18446744073709551616) (ko:0≤yf∧yf≤1000000) (hS:ah w (dl (I9 l aO kn kv kw (.slice dm cz dA) (.slice bY bJ bX) aW part bg off size pos ee yf yg yh yi ya)) wO τ):Goes 285 τ V dn xa xn xc w wO lX (Ar l (yf+24) 8 0 0 sZ (.slice bY bJ bX) aW part bg off size pos ee yf yg yh yi ya):=by
 letI:bH:=dw hS [iW V,.bool dn,.slice (xa) (xn) (xc),iL (yf+24)]
 have hlb:=hl.bounds
 have hR:dN T0 [⟨(10,3,3),[sym 20,iL 24],sym 28⟩]:=r6 .add yf 24 (iL (yf+24)) (aJ wq) gn
 exact bL nV nU 25 [RP,LW,vL,(3,[iL 3]),I5,jI,fC,mQ,fC,jH] [0,31,2,18,4,5,6,7,8,9] hR qn fn0 (fun _ _=>trivial) hS
theorem UN (hl:l.ok) (hV:0≤V∧V<18446744073709551616) (kX:0≤az∧az<2147483647) (e0:dn=true) (hS:ah w (dl (Av l aO kn kv kw (.slice dm cz dA) (.slice bY bJ bX) aW part bg off size pos ee bq bP bM aN az bD)) lY τ):Goes 285 τ V dn xa xn xc w lY mZ (Au l aO kn kv kw (.slice dm cz dA) (.slice bY bJ bX) aW part bg off size pos ee (l.base+3*l.term+24) az (az+1) aN az bD):=by
 letI:bH:=dw hS [iW V,.bool dn,.slice (xa) (xn) (xc),iL (l.base+3*l.term+24),iW az,iU (az+1),iW (az+1)]
 have hlb:=hl.bounds
 have hD:dG 33=true:=by kernel_rfl
 have hR:dN T0 [⟨(32,4,0),[sym 27],.bool false⟩,⟨(1,155,31),[sym 24],sym 30⟩,⟨(10,155,155),[sym 24,iU 1],sym 31⟩,⟨(1,155,31),[sym 31],sym 32⟩]:=YW dn true e0 (rc .u32 .u64 az az wu64 (ri .add .u32 .u32 az 1 (iU (az+1)) (aJ (ED)) (rc .u32 .u64 (az+1) (az+1) wu64 gn)))
 have hP:gY T0 [(80,[iD],sym 29)]:=pq hD (fun W hW=>iH l hl W) qn
 exact bL nV nU 26 [nS,(272,[iL 4,sym 29,iL 4,sym 30,sym 32,sZ,qF 240 [qP 41]]++dM++[sym 23,sym 24,.bool false,sym 25]),(293,[qF 239 [qP 19]]),vM] [0,1,41,19] hR hP fn0 (fun _ _=>trivial) hS
theorem UM (hl:l.ok) (hV:0≤V∧V<18446744073709551616) (kX:0≤az∧az<2147483647) (e0:¬(dn=true)) (hS:ah w (dl (Av l aO kn kv kw (.slice dm cz dA) (.slice bY bJ bX) aW part bg off size pos ee bq bP bM aN az bD)) lY τ):Goes 285 τ V dn xa xn xc w lY kP (wM l aO kn kv kw (.slice dm cz dA) (.slice bY bJ bX) aW part bg off size pos ee (l.base+3*l.term+((az+1)%3)*8) 0 0 aN az bD (l.base+3*l.term+((az+1)%3)*8)):=by
 letI:bH:=dw hS [iW V,.bool dn,.slice (xa) (xn) (xc),iU (az+1),iL ((az+1)%3),iL (l.base+3*l.term+((az+1)%3)*8)]
 have hlb:=hl.bounds
 have hD:dG 32=true:=by kernel_rfl
 have hR:dN T0 [⟨(32,4,0),[sym 27],.bool true⟩,⟨(10,155,155),[sym 24,iU 1],sym 29⟩]:=YW dn false (by simpa using e0) (ri .add .u32 .u32 az 1 (iU (az+1)) (aJ (ED)) gn)
 have hP:gY T0 [(103,[sym 29],sym 30),(78,[iD,sym 30],sym 31)]:=pq hD (fun W hW=>uO (az+1) (by first|exact(bQ _).1|omega) (by first|exact(bQ _).2|omega) W) (pq hD (fun W hW=>gD l hl ((az+1)%3) (by omega) (by omega) W) qn)
 exact bL nV nU 26 [nS,(272,[iL 1,sym 31,iL 8,uZ,uZ,sZ,qF 166 [qP 39]]++dM++[sym 23,sym 24,.bool false,sym 25]),(227,[qF 222 [qP 19,qP 31]]),vM,(3,[sym 31])] [0,1,39,19,31] hR hP fn0 (fun _ _=>trivial) hS
theorem UL (hl:l.ok) (hV:0≤V∧V<18446744073709551616) (hS:ah w (dl (Au l aO kn kv kw (.slice dm cz dA) (.slice bY bJ bX) aW part bg off size pos ee bq bP bM aN az bD)) mZ τ):Goes 285 τ V dn xa xn xc w mZ lW (Aq l aO kn kv kw (.slice dm cz dA) (.slice bY bJ bX) aW part bg off size pos ee 0 0 0 aN az dn 0):=by
 letI:bH:=dw hS [iW V,.bool dn,.slice (xa) (xn) (xc)]
 have hlb:=hl.bounds
 have hR:dN T0 []:=gn
 exact bL nV nU 26 [nS,(272,zA++[.nilFunc]++dM++[sym 23,sym 24,sym 27,iZ])] [0,1] hR qn fn0 (fun _ _=>trivial) hS
theorem UK (hl:l.ok) (hV:0≤V∧V<18446744073709551616) (ko:0≤yf∧yf≤1000000) (hS:ah w (dl (I8 l aO kn kv kw (.slice dm cz dA) (.slice bY bJ bX) aW part bg off size pos ee yf yg yh yi y9)) Ay τ):Goes 285 τ V dn xa xn xc w Ay Aw (I7 l (yf+24) 8 0 0 sZ (.slice bY bJ bX) aW part bg off size pos ee yf yg yh yi y9):=by
 letI:bH:=dw hS [iW V,.bool dn,.slice (xa) (xn) (xc),iL (yf+24)]
 have hlb:=hl.bounds
 have hR:dN T0 [⟨(10,3,3),[sym 20,iL 24],sym 28⟩]:=r6 .add yf 24 (iL (yf+24)) (aJ wq) gn
 exact bL nV nU 25 [RP,LW,vL,(3,[iL 3]),Ak,jI,fC,mQ,fC,jH] [0,31,2,18,4,5,6,7,8,9] hR qn fn0 (fun _ _=>trivial) hS
theorem UJ (hl:l.ok) (hV:0≤V∧V<18446744073709551616) (T9:bJ≤bX∧bJ≤1000) (ko:0≤yf∧yf≤1000000) (Xx:0≤ya∧ya≤1000000) (e0:((bJ:Nat):Int)=0) (e1:aW=true) (hS:ah w (dl (Ar l aO kn kv kw (.slice dm cz dA) (.slice bY bJ bX) aW part bg off size pos ee yf yg yh yi ya)) lX τ):Goes 285 τ V dn xa xn xc w lX tY (Ap l yf 4 ya 0 sZ (.slice bY bJ bX) aW part bg off size pos ee):=by
 letI:bH:=dw hS [iW V,.bool dn,.slice (xa) (xn) (xc),iL (yf+32),iL ((bJ:Nat):Int),iW ya]
 have hlb:=hl.bounds
 have hR:dN T0 [⟨(10,3,3),[sym 20,iL 32],sym 28⟩,⟨(4,32,3),[sym 12],sym 29⟩,⟨(21,3,3),[sym 29,iL 0],.bool true⟩,⟨(1,21,31),[sym 24],sym 30⟩]:=r6 .add yf 32 (iL (yf+32)) (aJ wq) (wZ (bY) bJ bX 32 5 Tryz.underlying32 (by decide) (r6 .eql (((bJ:Nat):Int)) 0 (.bool true) (dK (AO e0)) (rc .i32 .u64 ya ya wu64 gn)))
 exact yZ nV nU 25 [(211,[iL 2,sym 20,iL 4,sym 30,uZ,sZ,qF 201 [qP 43]]++dM++[sym 12,sym 13,.pointer none,sym 14,sym 15,sym 16,sym 17,.bool true,sym 18,sym 19]),(1,[qF 197 [qP 8]]),fC] [0,43,8] [(13,true)] (fun i b h=>KA (by show Value.bool aW =.bool true;rw[e1]) h) hR qn fn0 (fun _ _=>trivial) hS
theorem UI (hl:l.ok) (hV:0≤V∧V<18446744073709551616) (T9:bJ≤bX∧bJ≤1000) (ko:0≤yf∧yf≤1000000) (e0:((bJ:Nat):Int)=0) (e1:¬(aW=true)) (hS:ah w (dl (Ar l aO kn kv kw (.slice dm cz dA) (.slice bY bJ bX) aW part bg off size pos ee yf yg yh yi ya)) lX τ):Goes 285 τ V dn xa xn xc w lX wN (Ec l (yf+4) 4 49152 0 sZ (.slice bY bJ bX) aW part bg off size pos ee yf ya):=by
 letI:bH:=dw hS [iW V,.bool dn,.slice (xa) (xn) (xc),iL (yf+32),iL ((bJ:Nat):Int),iL (yf+4)]
 have hlb:=hl.bounds
 have hD:dG 31=true:=by kernel_rfl
 have hR:dN T0 [⟨(10,3,3),[sym 20,iL 32],sym 28⟩,⟨(4,32,3),[sym 12],sym 29⟩,⟨(21,3,3),[sym 29,iL 0],.bool true⟩,⟨(10,3,3),[sym 20,iL 4],sym 30⟩]:=r6 .add yf 32 (iL (yf+32)) (aJ wq) (wZ (bY) bJ bX 32 5 Tryz.underlying32 (by decide) (r6 .eql (((bJ:Nat):Int)) 0 (.bool true) (dK (AO e0)) (r6 .add yf 4 (iL (yf+4)) (aJ wq) gn)))
 have hP:gY T0 [(198,[.agg #[iI 0,.int .u8 0,.int .u8 192,.int .u16 0,iI 0,iI 0,iI 0,iI 0,iW 0]],.agg #[iW 211106232532992,iW 0,iW 0,iW 0])]:=pq hD (fun W hW=>MH W) qn
 exact yZ nV nU 25 [(211,[iL 2,sym 30,iL 4,iW 49152,uZ,sZ,qF 201 [qP 46]]++dM++[sym 12,sym 13,.pointer none,sym 14,sym 15,sym 16,sym 17,.bool true,sym 18,sym 19]),(1,[qF 196 [qP 8,qP 19,qP 9]]),fC,jI,jH] [0,46,8,19,9] [(13,false)] (fun i b h=>KA (by show Value.bool aW =.bool false;rw[show aW=false by simpa using e1]) h) hR hP fn0 (fun _ _=>trivial) hS
def F8:List fE:=[⟨(10,3,3),[sym 20,iL 32],sym 28⟩,⟨(4,32,3),[sym 12],sym 29⟩,⟨(21,3,3),[sym 29,iL 0],.bool false⟩,⟨(41,167,0),[.complex .f32 32 35,iL 0],.pointer (some ⟨35,0,none⟩)⟩,⟨(3,32,6),[sym 12,sym 30,sym 30],sym 31⟩]
theorem UH (hl:l.ok) (hV:0≤V∧V<18446744073709551616) (T9:bJ≤bX∧bJ≤1000) (ko:0≤yf∧yf≤1000000) (e0:¬(((bJ:Nat):Int)=0)) (hS:ah w (dl (Ar l aO kn kv kw (.slice dm cz dA) (.slice bY bJ bX) aW part bg off size pos ee yf yg yh yi ya)) lX τ):Goes 285 τ V dn xa xn xc w lX kN (wL l (yf+32) (((min bJ 8:Nat):Int)) 0 0 (.slice (bY) ((((min bJ 8:Nat):Int)).toNat) ((((min bJ 8:Nat):Int)).toNat)) (.slice bY bJ bX) aW part bg off size pos ee (yf+32) (((min bJ 8:Nat):Int)) (.slice bY bJ bX) yf ya):=by
 letI:bH:=dw hS [iW V,.bool dn,.slice (xa) (xn) (xc),iL (yf+32),iL ((bJ:Nat):Int),iL ((min bJ 8:Nat):Int),.slice (bY) ((((min bJ 8:Nat):Int)).toNat) ((((min bJ 8:Nat):Int)).toNat)]
 have hlb:=hl.bounds
 have hlm:=jA hl
 have hD:dG 32=true:=by kernel_rfl
 have hR:dN T0 F8:=r6 .add yf 32 (iL (yf+32)) (aJ wq) (wZ (bY) bJ bX 32 5 Tryz.underlying32 (by decide) (r6 .eql (((bJ:Nat):Int)) 0 (.bool false) (dK (uh e0)) (Qb 35 (P9 (bY) bJ bX .i64 .i64 (((min bJ 8:Nat):Int)) (((min bJ 8:Nat):Int)) (by omega) gn))))
 have hF:xM nV nU F8 T0 (ownB lX τ) [⟨226,[sym 29],AS.newRow 3 [sym 30],fun i => .complex .f32 32 i⟩]:=yK hD bJ (by omega) fn0
 exact bL nV nU 25 [(211,[iL 6,sym 28,sym 30,uZ,uZ,sym 31,qF 227 [qP 31,qP 32,qP 36,qP 33,qP 34]]++dM++[sym 12,sym 13,.pointer none,sym 14,sym 15,sym 16,sym 17,.bool true,sym 18,sym 19]),LX,(3,[sym 28]),(3,[sym 30]),(32,[sym 12]),(1,[qF 195 [qP 8,qP 19,qP 9]]),fC,jI,jH] [0,31,32,36,33,34,8,19,9] hR qn hF (fun _ _=>trivial) hS
theorem UG (hl:l.ok) (hV:0≤V∧V<18446744073709551616) (hS:ah w (dl (Aq l aO kn kv kw (.slice dm cz dA) (.slice bY bJ bX) aW part bg off size pos ee bq bP bM aN az rE bD)) lW τ):Goes 285 τ V dn xa xn xc w lW lW (Aq l aO kn kv kw (.slice dm cz dA) (.slice bY bJ bX) aW part bg off size pos ee bq bP bM aN az rE bD):=by
 letI:bH:=dw hS [iW V,.bool dn,.slice (xa) (xn) (xc)]
 have hlb:=hl.bounds
 have hR:dN T0 []:=gn
 exact bL nV nU 27 lW [0,1] hR qn fn0 (fun _ _=>trivial) hS
end
end Go.Proofs.YtlaogoehmndcjaaGreatDoor.Sy
namespace Go.Proofs.YtlaogoehmndcjaaGreatDoor.Sy
open Go RowKit Lib AS Base Ba
noncomputable section
variable {l:Lg} {aO kn kv kw part bg off size pos ee yf yg yh yi y9 V yd ye yk yl yb yc:Int} {dm bY xa yn:Option Addr} {cz dA bJ bX xn xc yp yo:Nat} {aW dn:Bool} {w:World} {τ:Nat→Nat×Nat}
theorem UF (hl:l.ok) (hV:0≤V∧V<18446744073709551616) (Xy:0≤y9∧y9≤1000000) (hS:ah w (dl (I7 l aO kn kv kw (.slice dm cz dA) (.slice bY bJ bX) aW part bg off size pos ee yf yg yh yi y9)) Aw τ):Goes 285 τ V dn xa xn xc w Aw tX (Eb l yf 4 y9 0 sZ (.slice bY bJ bX) aW part bg off size pos ee):=by
 letI:bH:=dw hS [iW V,.bool dn,.slice (xa) (xn) (xc),iW y9]
 have hlb:=hl.bounds
 have hR:dN T0 [⟨(1,21,31),[sym 24],sym 28⟩]:=rc .i32 .u64 y9 y9 wu64 gn
 exact bL nV nU 25 [(211,[iL 2,sym 20,iL 4,sym 28,uZ,sZ,qF 201 [qP 28]]++dM++[sym 12,sym 13,.pointer none,sym 14,sym 15,sym 16,sym 17,.bool true,sym 18,sym 19]),(1,[.func (.func 156) #[qP 0] #[]])] [0,28] hR qn fn0 (fun _ _=>trivial) hS
theorem UE (hl:l.ok) (hV:0≤V∧V<18446744073709551616) (abg:0≤off∧off<4294967296) (h_size:0≤size∧size≤1000000) (hS:ah w (dl (Ap l aO kn kv kw (.slice dm cz dA) (.slice bY bJ bX) aW part bg off size pos ee)) tY τ):Goes 285 τ V dn xa xn xc w tY tV (Ea l 0 0 0 0 sZ (.slice bY bJ bX) aW part bg off size ((((u32 (bg-l.bG))*l.term)+off)+size) 0):=by
 letI:bH:=dw hS [iW V,.bool dn,.slice (xa) (xn) (xc),iU (u32 (bg-l.bG)),iL (u32 (bg-l.bG)),iL ((u32 (bg-l.bG))*l.term),iL (((u32 (bg-l.bG))*l.term)+off),iL ((((u32 (bg-l.bG))*l.term)+off)+size)]
 have hlb:=hl.bounds
 have hm0:=nH hl (x:=(u32 (bg-l.bG))) (bQ _).1 (bQ _).2
 have hu0:=bQ (bg-l.bG)
 have hD:dG 28=true:=by kernel_rfl
 have hR:dN T0 [⟨(1,155,2),[sym 23],sym 24⟩,⟨(12,2,2),[sym 24,sym 1],sym 25⟩,⟨(10,2,2),[sym 25,sym 16],sym 26⟩,⟨(10,2,2),[sym 26,sym 17],sym 27⟩]:=rc .u32 .i64 (u32 (bg-l.bG)) (u32 (bg-l.bG)) wq (r6 .mul (u32 (bg-l.bG)) l.term (iL ((u32 (bg-l.bG))*l.term)) (gJ wq) (r6 .add ((u32 (bg-l.bG))*l.term) off (iL (((u32 (bg-l.bG))*l.term)+off)) (aJ wq) (r6 .add (((u32 (bg-l.bG))*l.term)+off) size (iL ((((u32 (bg-l.bG))*l.term)+off)+size)) (aJ wq) gn)))
 have hP:gY T0 [(182,[sym 15,sym 4],sym 23)]:=pq hD (args :=#[iI bg,iI l.bG]) (fun W hW=>countB _ _ W) qn
 exact bL nV nU 20 [(211,zA++[.nilFunc]++dM++[sym 12,sym 13,.pointer none,sym 14,sym 15,sym 16,sym 17,.bool true,sym 27,iZ])] [0] hR hP fn0 (fun _ _=>trivial) hS
theorem UD (hl:l.ok) (hV:0≤V∧V<18446744073709551616) (Xu:0≤ye∧ye≤1000000) (hS:ah w (dl (Ec l aO kn kv kw (.slice dm cz dA) (.slice bY bJ bX) aW part bg off size pos ee yd ye)) wN τ):Goes 285 τ V dn xa xn xc w wN tY (Ap l yd 4 ye 0 sZ (.slice bY bJ bX) aW part bg off size pos ee):=by
 letI:bH:=dw hS [iW V,.bool dn,.slice (xa) (xn) (xc),iW ye]
 have hlb:=hl.bounds
 have hR:dN T0 [⟨(1,21,31),[sym 21],sym 25⟩]:=rc .i32 .u64 ye ye wu64 gn
 exact bL nV nU 22 [(211,[iL 2,sym 20,iL 4,sym 25,uZ,sZ,qF 201 [qP 21]]++dM++[sym 12,sym 13,.pointer none,sym 14,sym 15,sym 16,sym 17,.bool true,sym 18,sym 19]),(1,[qF 197 [qP 2]]),fC] [0,21,2] hR qn fn0 (fun _ _=>trivial) hS
theorem UC (hl:l.ok) (hV:0≤V∧V<18446744073709551616) (vC:0≤yk∧yk≤1000000) (vB:1≤yl∧yl≤8∧yl≤(yp:Int)) (vw:yp≤yo∧yp≤1000) (Xv:0≤yc∧yc≤1000000) (e0:((yp-(yl).toNat:Nat):Int)=0) (e1:aW=true) (hS:ah w (dl (wL l aO kn kv kw (.slice dm cz dA) (.slice bY bJ bX) aW part bg off size pos ee yk yl (.slice yn yp yo) yb yc)) kN τ):Goes 285 τ V dn xa xn xc w kN tY (Ap l yb 4 yc 0 sZ (.slice bY bJ bX) aW part bg off size pos ee):=by
 letI:bH:=dw hS [iW V,.bool dn,.slice (xa) (xn) (xc),iL (yk+yl),.slice (sD (yn) (yo) ((yl).toNat)) (yp-(yl).toNat) (yo-(yl).toNat),iL ((yp-(yl).toNat:Nat):Int),iW yc]
 have hlb:=hl.bounds
 have hR:dN T0 [⟨(10,3,3),[sym 20,sym 21],sym 28⟩,⟨(3,32,1),[sym 22,sym 21],sym 29⟩,⟨(4,32,3),[sym 29],sym 30⟩,⟨(21,3,3),[sym 30,iL 0],.bool true⟩,⟨(1,21,31),[sym 24],sym 31⟩]:=r6 .add yk yl (iL (yk+yl)) (aJ wq) (CZ (yn) yp yo .i64 yl (by omega) (wZ (sD (yn) (yo) ((yl).toNat)) (yp-(yl).toNat) (yo-(yl).toNat) 32 5 Tryz.underlying32 (by decide) (r6 .eql (((yp-(yl).toNat:Nat):Int)) 0 (.bool true) (dK (AO e0)) (rc .i32 .u64 yc yc wu64 gn))))
 exact yZ nV nU 25 [(211,[iL 2,sym 23,iL 4,sym 31,uZ,sZ,qF 201 [qP 38]]++dM++[sym 12,sym 13,.pointer none,sym 14,sym 15,sym 16,sym 17,.bool true,sym 18,sym 19]),(1,[qF 197 [qP 6]]),fC] [0,38,6] [(13,true)] (fun i b h=>KA (by show Value.bool aW =.bool true;rw[e1]) h) hR qn fn0 (fun _ _=>trivial) hS
theorem UB (hl:l.ok) (hV:0≤V∧V<18446744073709551616) (vC:0≤yk∧yk≤1000000) (vB:1≤yl∧yl≤8∧yl≤(yp:Int)) (vw:yp≤yo∧yp≤1000) (Xw:0≤yb∧yb≤1000000) (e0:((yp-(yl).toNat:Nat):Int)=0) (e1:¬(aW=true)) (hS:ah w (dl (wL l aO kn kv kw (.slice dm cz dA) (.slice bY bJ bX) aW part bg off size pos ee yk yl (.slice yn yp yo) yb yc)) kN τ):Goes 285 τ V dn xa xn xc w kN wN (Ec l (yb+4) 4 49152 0 sZ (.slice bY bJ bX) aW part bg off size pos ee yb yc):=by
 letI:bH:=dw hS [iW V,.bool dn,.slice (xa) (xn) (xc),iL (yk+yl),.slice (sD (yn) (yo) ((yl).toNat)) (yp-(yl).toNat) (yo-(yl).toNat),iL ((yp-(yl).toNat:Nat):Int),iL (yb+4)]
 have hlb:=hl.bounds
 have hD:dG 32=true:=by kernel_rfl
 have hR:dN T0 [⟨(10,3,3),[sym 20,sym 21],sym 28⟩,⟨(3,32,1),[sym 22,sym 21],sym 29⟩,⟨(4,32,3),[sym 29],sym 30⟩,⟨(21,3,3),[sym 30,iL 0],.bool true⟩,⟨(10,3,3),[sym 23,iL 4],sym 31⟩]:=r6 .add yk yl (iL (yk+yl)) (aJ wq) (CZ (yn) yp yo .i64 yl (by omega) (wZ (sD (yn) (yo) ((yl).toNat)) (yp-(yl).toNat) (yo-(yl).toNat) 32 5 Tryz.underlying32 (by decide) (r6 .eql (((yp-(yl).toNat:Nat):Int)) 0 (.bool true) (dK (AO e0)) (r6 .add yb 4 (iL (yb+4)) (aJ wq) gn))))
 have hP:gY T0 [(198,[.agg #[iI 0,.int .u8 0,.int .u8 192,.int .u16 0,iI 0,iI 0,iI 0,iI 0,iW 0]],.agg #[iW 211106232532992,iW 0,iW 0,iW 0])]:=pq hD (fun W hW=>MH W) qn
 exact yZ nV nU 25 [(211,[iL 2,sym 31,iL 4,iW 49152,uZ,sZ,qF 201 [qP 41]]++dM++[sym 12,sym 13,.pointer none,sym 14,sym 15,sym 16,sym 17,.bool true,sym 18,sym 19]),(1,[qF 196 [qP 6,qP 7,qP 8]]),fC,(3,[sym 23]),jH] [0,41,6,7,8] [(13,false)] (fun i b h=>KA (by show Value.bool aW =.bool false;rw[show aW=false by simpa using e1]) h) hR hP fn0 (fun _ _=>trivial) hS
def F7:List fE:=[⟨(10,3,3),[sym 20,sym 21],sym 28⟩,⟨(3,32,1),[sym 22,sym 21],sym 29⟩,⟨(4,32,3),[sym 29],sym 30⟩,⟨(21,3,3),[sym 30,iL 0],.bool false⟩,⟨(41,167,0),[.complex .f32 32 30,iL 0],.pointer (some ⟨30,0,none⟩)⟩,⟨(3,32,6),[sym 29,sym 31,sym 31],sym 32⟩]
theorem UA (hl:l.ok) (hV:0≤V∧V<18446744073709551616) (vC:0≤yk∧yk≤1000000) (vB:1≤yl∧yl≤8∧yl≤(yp:Int)) (vw:yp≤yo∧yp≤1000) (e0:¬(((yp-(yl).toNat:Nat):Int)=0)) (hS:ah w (dl (wL l aO kn kv kw (.slice dm cz dA) (.slice bY bJ bX) aW part bg off size pos ee yk yl (.slice yn yp yo) yb yc)) kN τ):Goes 285 τ V dn xa xn xc w kN kN (wL l (yk+yl) (((min (yp-(yl).toNat) 8:Nat):Int)) 0 0 (.slice (sD (yn) (yo) ((yl).toNat)) ((((min (yp-(yl).toNat) 8:Nat):Int)).toNat) ((((min (yp-(yl).toNat) 8:Nat):Int)).toNat)) (.slice bY bJ bX) aW part bg off size pos ee (yk+yl) (((min (yp-(yl).toNat) 8:Nat):Int)) (.slice (sD (yn) (yo) ((yl).toNat)) (yp-(yl).toNat) (yo-(yl).toNat)) yb yc):=by
 letI:bH:=dw hS [iW V,.bool dn,.slice (xa) (xn) (xc),iL (yk+yl),.slice (sD (yn) (yo) ((yl).toNat)) (yp-(yl).toNat) (yo-(yl).toNat),iL ((yp-(yl).toNat:Nat):Int),iL ((min (yp-(yl).toNat) 8:Nat):Int),.slice (sD (yn) (yo) ((yl).toNat)) ((((min (yp-(yl).toNat) 8:Nat):Int)).toNat) ((((min (yp-(yl).toNat) 8:Nat):Int)).toNat)]
 have hlb:=hl.bounds
 have hlm:=jA hl
 have hD:dG 33=true:=by kernel_rfl
 have hR:dN T0 F7:=r6 .add yk yl (iL (yk+yl)) (aJ wq) (CZ (yn) yp yo .i64 yl (by omega) (wZ (sD (yn) (yo) ((yl).toNat)) (yp-(yl).toNat) (yo-(yl).toNat) 32 5 Tryz.underlying32 (by decide) (r6 .eql (((yp-(yl).toNat:Nat):Int)) 0 (.bool false) (dK (uh e0)) (Qb 30 (P9 (sD (yn) (yo) ((yl).toNat)) (yp-(yl).toNat) (yo-(yl).toNat) .i64 .i64 (((min (yp-(yl).toNat) 8:Nat):Int)) (((min (yp-(yl).toNat) 8:Nat):Int)) (by omega) gn)))))
 have hF:xM nV nU F7 T0 (ownB kN τ) [⟨226,[sym 30],AS.newRow 3 [sym 31],fun i => .complex .f32 32 i⟩]:=yK hD (yp-(yl).toNat) (by omega) fn0
 exact bL nV nU 25 [(211,[iL 6,sym 28,sym 31,uZ,uZ,sym 32,qF 227 [qP 26,qP 27,qP 31,qP 28,qP 29]]++dM++[sym 12,sym 13,.pointer none,sym 14,sym 15,sym 16,sym 17,.bool true,sym 18,sym 19]),LX,(3,[sym 28]),(3,[sym 31]),(32,[sym 29]),(1,[qF 195 [qP 6,qP 7,qP 8]]),fC,(3,[sym 23]),jH] [0,26,27,31,28,29,6,7,8] hR qn hF (fun _ _=>trivial) hS
theorem Uz (hl:l.ok) (hV:0≤V∧V<18446744073709551616) (e0:(u32 (bg-l.bG))≥2147483647) (hS:ah w (dl (Eb l aO kn kv kw (.slice dm cz dA) (.slice bY bJ bX) aW part bg off size pos ee)) tX τ):Goes 285 τ V dn xa xn xc w tX nT (Am l 0 0 0 0 sZ (.slice bY bJ bX) aW part bg off size pos ee 0 0 0 (bF (bg+1)) (u32 (bg-l.bG)) 7):=by
 letI:bH:=dw hS [iW V,.bool dn,.slice (xa) (xn) (xc),iI (bF (bg+1)),iU (u32 (bg-l.bG))]
 have hlb:=hl.bounds
 have hu0:=bQ (bg-l.bG)
 have hD:dG 25=true:=by kernel_rfl
 have hR:dN T0 [⟨(10,21,21),[sym 15,iI 1],sym 23⟩,⟨(26,155,155),[sym 24,iU 2147483647],.bool true⟩]:=ri .add .i32 .i32 bg 1 (iI (bF (bg+1))) (aJ xN) (ri .geq .u32 .u32 (u32 (bg-l.bG)) 2147483647 (.bool true) (dX (Ah e0)) gn)
 have hP:gY T0 [(182,[sym 15,sym 4],sym 24),(36,[iD],iL 0)]:=pq hD (args :=#[iI bg,iI l.bG]) (fun W hW=>countB _ _ W) (pq hD (fun W hW=>eT l hl W) qn)
 exact bL nV nU 20 [RO,(272,zA++[.nilFunc]++dM++[sym 23,sym 24,.bool false,iL 7])] [0,33] hR hP fn0 (fun _ _=>trivial) hS
theorem Uy (hl:l.ok) (hV:0≤V∧V<18446744073709551616) (e0:¬((u32 (bg-l.bG))≥2147483647)) (hS:ah w (dl (Eb l aO kn kv kw (.slice dm cz dA) (.slice bY bJ bX) aW part bg off size pos ee)) tX τ):Goes 285 τ V dn xa xn xc w tX pK (Ck l 0 0 0 0 sZ (.slice bY bJ bX) aW part bg off size pos ee (l.base+3*l.term+40) 0 0 (bF (bg+1)) (u32 (bg-l.bG)) 10):=by
 letI:bH:=dw hS [iW V,.bool dn,.slice (xa) (xn) (xc),iI (bF (bg+1)),iU (u32 (bg-l.bG)),iL (l.base+3*l.term+40)]
 have hlb:=hl.bounds
 have hu0:=bQ (bg-l.bG)
 have hD:dG 26=true:=by kernel_rfl
 have hR:dN T0 [⟨(10,21,21),[sym 15,iI 1],sym 23⟩,⟨(26,155,155),[sym 24,iU 2147483647],.bool false⟩]:=ri .add .i32 .i32 bg 1 (iI (bF (bg+1))) (aJ xN) (ri .geq .u32 .u32 (u32 (bg-l.bG)) 2147483647 (.bool false) (dX (tQ e0)) gn)
 have hP:gY T0 [(182,[sym 15,sym 4],sym 24),(36,[iD],iL 0),(83,[iD],sym 25)]:=pq hD (args :=#[iI bg,iI l.bG]) (fun W hW=>countB _ _ W) (pq hD (fun W hW=>eT l hl W) (pq hD (fun W hW=>mP l hl W) qn))
 exact bL nV nU 20 [RO,(272,[iL 1,sym 25,iL 8,uZ,uZ,sZ,qF 166 [qP 43]]++dM++[sym 23,sym 24,.bool false,iL 10]),(227,[qF 189 [qP 34]]),(209,[qP 33])] [0,33,43,34] hR hP fn0 (fun _ _=>trivial) hS
theorem Ux (hl:l.ok) (hV:0≤V∧V<18446744073709551616) (hS:ah w (dl (Ea l aO kn kv kw (.slice dm cz dA) (.slice bY bJ bX) aW part bg off size pos ee)) tV τ):Goes 285 τ V dn xa xn xc w tV tV (Ea l aO kn kv kw (.slice dm cz dA) (.slice bY bJ bX) aW part bg off size pos ee):=by
 letI:bH:=dw hS [iW V,.bool dn,.slice (xa) (xn) (xc)]
 have hlb:=hl.bounds
 have hR:dN T0 []:=gn
 exact bL nV nU 20 tV [0] hR qn fn0 (fun _ _=>trivial) hS
end
end Go.Proofs.YtlaogoehmndcjaaGreatDoor.Sy
