import Derived.Test.YtlaogoehmndcjaaGreatDoorZ39
set_option maxRecDepth 100000
set_option linter.unusedVariables false
set_option linter.unusedSectionVars false
set_option linter.unusedSimpArgs false
namespace Go.Proofs.YtlaogoehmndcjaaGreatDoor.Sy
open Go RowKit Lib AS Base Ba
noncomputable section
variable {l:Lg} {aO kn kv kw part bg off size pos ee y1 y0 V y2 y3 y4 y5 y6 y7 y8:Int} {dm bY xa:Option Addr} {cz dA bJ bX xn xc:Nat} {aW dn:Bool} {w:World} {τ:Nat→Nat×Nat}
theorem YC (hl:l.ok) (hV:0≤V∧V<18446744073709551616) (hS:ah w (dl (Cn l aO kn kv kw (.slice dm cz dA) (.slice bY bJ bX) aW part bg off size pos ee y1 y0)) pO τ):Goes 285 τ V dn xa xn xc w pO Cr (OY l (l.base+3*l.term+24) 4 0 0 sZ (.slice bY bJ bX) aW part bg off size pos ee V y1 y0):=by
 letI:bH:=dw hS [iW V,.bool dn,.slice (xa) (xn) (xc),iL (l.base+3*l.term+24)]
 have hlb:=hl.bounds
 have hD:dG 26=true:=by kernel_rfl
 have hR:dN T0 []:=gn
 have hP:gY T0 [(80,[iD],sym 25)]:=pq hD (fun W hW=>iH l hl W) qn
 exact bL nV nU 22 [(211,[iL 1,sym 25,iL 4,uZ,uZ,sZ,qF 166 [qP 22]]++dM++[sym 12,sym 13,.pointer none,sym 14,sym 15,sym 16,sym 17,.bool false,sym 18,sym 19]),(227,[qF 139 [qP 2,qP 3,qP 4,qP 16,qP 5]]),LX,(23,dM),(208,[qF 101 [qP 6,qP 7]]),(31,[sym 22]),(2,[sym 20]),fC,(3,[sym 21])] [0,22,2,3,4,16,5,6,7] hR hP fn0 (fun _ _=>trivial) hS
theorem YB (hl:l.ok) (hV:0≤V∧V<18446744073709551616) (hS:ah w (dl (OY l aO kn kv kw (.slice dm cz dA) (.slice bY bJ bX) aW part bg off size pos ee y2 y3 y0)) Cr τ):Goes 285 τ V dn xa xn xc w Cr mR (Ao l (l.base+3*l.term+((u32 V)%3)*8) 8 0 0 sZ (.slice bY bJ bX) aW part bg off size pos ee (u32 V) y2 y3 y0):=by
 letI:bH:=dw hS [iW V,.bool dn,.slice (xa) (xn) (xc),iU (u32 V),iL ((u32 V)%3),iL (l.base+3*l.term+((u32 V)%3)*8)]
 have hlb:=hl.bounds
 have huV:=bQ V
 have hD:dG 29=true:=by kernel_rfl
 have hR:dN T0 [⟨(1,31,155),[sym 23],sym 26⟩]:=rc .u64 .u32 V (u32 V) VE gn
 have hP:gY T0 [(103,[sym 26],sym 27),(78,[iD,sym 27],sym 28)]:=pq hD (fun W hW=>uO (u32 V) (by first|exact(bQ _).1|omega) (by first|exact(bQ _).2|omega) W) (pq hD (fun W hW=>gD l hl ((u32 V)%3) (by omega) (by omega) W) qn)
 exact bL nV nU 23 [(211,[iL 1,sym 28,iL 8,uZ,uZ,sZ,qF 166 [qP 25]]++dM++[sym 12,sym 13,.pointer none,sym 14,sym 15,sym 16,sym 17,.bool false,sym 18,sym 19]),(227,[qF 140 [qP 4,qP 17,qP 3,qP 5,qP 6]]),Uw,(155,[sym 26]),(23,dM),(31,[sym 20]),(2,[sym 21]),fC,(3,[sym 22])] [0,25,4,17,3,5,6,7,8] hR hP fn0 (fun _ _=>trivial) hS
theorem YA (hl:l.ok) (hV:0≤V∧V<18446744073709551616) (iQ:0≤y4∧y4<4294967296) (e0:(u32 ((bF (V/4294967296))-l.bG))=y4) (e1:y4≥2147483648) (hS:ah w (dl (Ao l aO kn kv kw (.slice dm cz dA) (.slice bY bJ bX) aW part bg off size pos ee y4 y5 y6 y0)) mR τ):Goes 285 τ V dn xa xn xc w mR gV (lU l 0 0 0 0 sZ (.slice bY bJ bX) aW part bg off size pos 7):=by
 letI:bH:=dw hS [iW V,.bool dn,.slice (xa) (xn) (xc),iL (iK y5),iI (bF (V/4294967296)),iU (V%4294967296),iL y4,iL (y4*l.term),iL (V%4294967296),iL (min (V%4294967296) l.term),iL ((y4*l.term)+(min (V%4294967296) l.term)),iU (u32 ((bF (V/4294967296))-l.bG))]
 have hlb:=hl.bounds
 have hm0:=nH hl (x:=y4) (by omega) (by omega)
 have hu0:=bQ ((bF (V/4294967296))-l.bG)
 have hD:dG 36=true:=by kernel_rfl
 have hR:dN T0 [⟨(1,31,2),[sym 21],sym 27⟩,⟨(1,155,2),[sym 20],sym 30⟩,⟨(12,2,2),[sym 30,sym 1],sym 31⟩,⟨(1,155,2),[sym 29],sym 32⟩,⟨(6,2,2),[sym 32,sym 1],sym 33⟩,⟨(10,2,2),[sym 31,sym 33],sym 34⟩,⟨(22,155,155),[sym 35,sym 20],.bool false⟩,⟨(26,155,155),[sym 20,iU 2147483648],.bool true⟩]:=rc .u64 .i64 y5 (iK y5) sG (rc .u32 .i64 y4 y4 wq (r6 .mul y4 l.term (iL (y4*l.term)) (gJ wq) (rc .u32 .i64 (V%4294967296) (V%4294967296) wq (M6 .i64 (V%4294967296) l.term (r6 .add (y4*l.term) (min (V%4294967296) l.term) (iL ((y4*l.term)+(min (V%4294967296) l.term))) (aJ wq) (ri .neq .u32 .u32 (u32 ((bF (V/4294967296))-l.bG)) y4 (.bool false) (gI (AJ e0)) (ri .geq .u32 .u32 y4 2147483648 (.bool true) (dX (Ah e1)) gn)))))))
 have hP:gY T0 [(144,[sym 24],.tuple #[sym 28,sym 29]),(182,[sym 28,sym 4],sym 35)]:=pq hD (fun W hW=>dO V (by omega) (by omega) W) (pq hD (args :=#[iI (bF (V/4294967296)),iI l.bG]) (fun W hW=>countB _ _ W) qn)
 exact bL nV nU 24 [Yo] [0] hR hP fn0 (fun _ _=>trivial) hS
theorem Yz (hl:l.ok) (hV:0≤V∧V<18446744073709551616) (iQ:0≤y4∧y4<4294967296) (Xz:0≤y0∧y0≤1000000) (e0:(u32 ((bF (V/4294967296))-l.bG))=y4) (e1:¬(y4≥2147483648)) (e2:((y4*l.term)+(min (V%4294967296) l.term))<(iK y5)) (hS:ah w (dl (Ao l aO kn kv kw (.slice dm cz dA) (.slice bY bJ bX) aW part bg off size pos ee y4 y5 y6 y0)) mR τ):Goes 285 τ V dn xa xn xc w mR pM (Cm l (l.base+3*l.term+(y4%3)*8) 8 y0 0 sZ (.slice bY bJ bX) aW part bg off size pos ee (y4%3) y0):=by
 letI:bH:=dw hS [iW V,.bool dn,.slice (xa) (xn) (xc),iL (iK y5),iI (bF (V/4294967296)),iU (V%4294967296),iL y4,iL (y4*l.term),iL (V%4294967296),iL (min (V%4294967296) l.term),iL ((y4*l.term)+(min (V%4294967296) l.term)),iU (u32 ((bF (V/4294967296))-l.bG)),iL (y4%3),iL (l.base+3*l.term+(y4%3)*8),iW y0]
 have hlb:=hl.bounds
 have hm0:=nH hl (x:=y4) (by omega) (by omega)
 have hu0:=bQ ((bF (V/4294967296))-l.bG)
 have hD:dG 39=true:=by kernel_rfl
 have hR:dN T0 [⟨(1,31,2),[sym 21],sym 27⟩,⟨(1,155,2),[sym 20],sym 30⟩,⟨(12,2,2),[sym 30,sym 1],sym 31⟩,⟨(1,155,2),[sym 29],sym 32⟩,⟨(6,2,2),[sym 32,sym 1],sym 33⟩,⟨(10,2,2),[sym 31,sym 33],sym 34⟩,⟨(22,155,155),[sym 35,sym 20],.bool false⟩,⟨(26,155,155),[sym 20,iU 2147483648],.bool false⟩,⟨(23,2,2),[sym 34,sym 27],.bool true⟩,⟨(1,2,31),[sym 23],sym 38⟩]:=rc .u64 .i64 y5 (iK y5) sG (rc .u32 .i64 y4 y4 wq (r6 .mul y4 l.term (iL (y4*l.term)) (gJ wq) (rc .u32 .i64 (V%4294967296) (V%4294967296) wq (M6 .i64 (V%4294967296) l.term (r6 .add (y4*l.term) (min (V%4294967296) l.term) (iL ((y4*l.term)+(min (V%4294967296) l.term))) (aJ wq) (ri .neq .u32 .u32 (u32 ((bF (V/4294967296))-l.bG)) y4 (.bool false) (gI (AJ e0)) (ri .geq .u32 .u32 y4 2147483648 (.bool false) (dX (tQ e1)) (r6 .lss ((y4*l.term)+(min (V%4294967296) l.term)) (iK y5) (.bool true) (iG (Ah e2)) (rc .i64 .u64 y0 y0 wu64 gn)))))))))
 have hP:gY T0 [(144,[sym 24],.tuple #[sym 28,sym 29]),(182,[sym 28,sym 4],sym 35),(103,[sym 20],sym 36),(78,[iD,sym 36],sym 37)]:=pq hD (fun W hW=>dO V (by omega) (by omega) W) (pq hD (args :=#[iI (bF (V/4294967296)),iI l.bG]) (fun W hW=>countB _ _ W) (pq hD (fun W hW=>uO y4 (by first|exact(bQ _).1|omega) (by first|exact(bQ _).2|omega) W) (pq hD (fun W hW=>gD l hl (y4%3) (by omega) (by omega) W) qn)))
 exact bL nV nU 24 [(211,[iL 3,sym 37,iL 8,sym 38,uZ,sZ,qF 184 [qP 49]]++dM++[sym 12,sym 13,.pointer none,sym 14,sym 15,sym 16,sym 17,.bool false,sym 18,sym 19]),(227,[qF 154 [qP 34,qP 35,qP 33]]),(3,[sym 36]),(2,[sym 23]),fC] [0,49,34,35,33] hR hP fn0 (fun _ _=>trivial) hS
theorem Yy (hl:l.ok) (hV:0≤V∧V<18446744073709551616) (iQ:0≤y4∧y4<4294967296) (zU:0≤y6∧y6≤1000000) (e0:(u32 ((bF (V/4294967296))-l.bG))=y4) (e1:¬(y4≥2147483648)) (e2:¬(((y4*l.term)+(min (V%4294967296) l.term))<(iK y5))) (e3:(((y4*l.term)+(min (V%4294967296) l.term))+y6)>(l.term*2147483648)) (hS:ah w (dl (Ao l aO kn kv kw (.slice dm cz dA) (.slice bY bJ bX) aW part bg off size pos ee y4 y5 y6 y0)) mR τ):Goes 285 τ V dn xa xn xc w mR gV (lU l 0 0 0 0 sZ (.slice bY bJ bX) aW part bg off size pos 7):=by
 letI:bH:=dw hS [iW V,.bool dn,.slice (xa) (xn) (xc),iL (iK y5),iI (bF (V/4294967296)),iU (V%4294967296),iL y4,iL (y4*l.term),iL (V%4294967296),iL (min (V%4294967296) l.term),iL ((y4*l.term)+(min (V%4294967296) l.term)),iU (u32 ((bF (V/4294967296))-l.bG)),iL (((y4*l.term)+(min (V%4294967296) l.term))+y6),iL (l.term*2147483648)]
 have hlb:=hl.bounds
 have hm0:=nH hl (x:=y4) (by omega) (by omega)
 have hu0:=bQ ((bF (V/4294967296))-l.bG)
 have hD:dG 38=true:=by kernel_rfl
 have hR:dN T0 [⟨(1,31,2),[sym 21],sym 27⟩,⟨(1,155,2),[sym 20],sym 30⟩,⟨(12,2,2),[sym 30,sym 1],sym 31⟩,⟨(1,155,2),[sym 29],sym 32⟩,⟨(6,2,2),[sym 32,sym 1],sym 33⟩,⟨(10,2,2),[sym 31,sym 33],sym 34⟩,⟨(22,155,155),[sym 35,sym 20],.bool false⟩,⟨(26,155,155),[sym 20,iU 2147483648],.bool false⟩,⟨(23,2,2),[sym 34,sym 27],.bool false⟩,⟨(10,2,2),[sym 34,sym 22],sym 36⟩,⟨(25,2,2),[sym 36,sym 37],.bool true⟩]:=rc .u64 .i64 y5 (iK y5) sG (rc .u32 .i64 y4 y4 wq (r6 .mul y4 l.term (iL (y4*l.term)) (gJ wq) (rc .u32 .i64 (V%4294967296) (V%4294967296) wq (M6 .i64 (V%4294967296) l.term (r6 .add (y4*l.term) (min (V%4294967296) l.term) (iL ((y4*l.term)+(min (V%4294967296) l.term))) (aJ wq) (ri .neq .u32 .u32 (u32 ((bF (V/4294967296))-l.bG)) y4 (.bool false) (gI (AJ e0)) (ri .geq .u32 .u32 y4 2147483648 (.bool false) (dX (tQ e1)) (r6 .lss ((y4*l.term)+(min (V%4294967296) l.term)) (iK y5) (.bool false) (iG (tQ e2)) (r6 .add ((y4*l.term)+(min (V%4294967296) l.term)) y6 (iL (((y4*l.term)+(min (V%4294967296) l.term))+y6)) (aJ wq) (r6 .gtr (((y4*l.term)+(min (V%4294967296) l.term))+y6) (l.term*2147483648) (.bool true) (jZ (Ah e3)) gn))))))))))
 have hP:gY T0 [(144,[sym 24],.tuple #[sym 28,sym 29]),(182,[sym 28,sym 4],sym 35),(183,[sym 1],sym 37)]:=pq hD (fun W hW=>dO V (by omega) (by omega) W) (pq hD (args :=#[iI (bF (V/4294967296)),iI l.bG]) (fun W hW=>countB _ _ W) (pq hD (fun W hW=>Qp l hl W) qn))
 exact bL nV nU 24 [Yo] [0] hR hP fn0 (fun _ _=>trivial) hS
theorem Yx (hl:l.ok) (hV:0≤V∧V<18446744073709551616) (iQ:0≤y4∧y4<4294967296) (zU:0≤y6∧y6≤1000000) (e0:(u32 ((bF (V/4294967296))-l.bG))=y4) (e1:¬(y4≥2147483648)) (e2:¬(((y4*l.term)+(min (V%4294967296) l.term))<(iK y5))) (e3:¬((((y4*l.term)+(min (V%4294967296) l.term))+y6)>(l.term*2147483648))) (hS:ah w (dl (Ao l aO kn kv kw (.slice dm cz dA) (.slice bY bJ bX) aW part bg off size pos ee y4 y5 y6 y0)) mR τ):Goes 285 τ V dn xa xn xc w mR gV (lU l 0 0 0 0 sZ (.slice bY bJ bX) aW part bg off size pos 5):=by
 letI:bH:=dw hS [iW V,.bool dn,.slice (xa) (xn) (xc),iL (iK y5),iI (bF (V/4294967296)),iU (V%4294967296),iL y4,iL (y4*l.term),iL (V%4294967296),iL (min (V%4294967296) l.term),iL ((y4*l.term)+(min (V%4294967296) l.term)),iU (u32 ((bF (V/4294967296))-l.bG)),iL (((y4*l.term)+(min (V%4294967296) l.term))+y6),iL (l.term*2147483648)]
 have hlb:=hl.bounds
 have hm0:=nH hl (x:=y4) (by omega) (by omega)
 have hu0:=bQ ((bF (V/4294967296))-l.bG)
 have hD:dG 38=true:=by kernel_rfl
 have hR:dN T0 [⟨(1,31,2),[sym 21],sym 27⟩,⟨(1,155,2),[sym 20],sym 30⟩,⟨(12,2,2),[sym 30,sym 1],sym 31⟩,⟨(1,155,2),[sym 29],sym 32⟩,⟨(6,2,2),[sym 32,sym 1],sym 33⟩,⟨(10,2,2),[sym 31,sym 33],sym 34⟩,⟨(22,155,155),[sym 35,sym 20],.bool false⟩,⟨(26,155,155),[sym 20,iU 2147483648],.bool false⟩,⟨(23,2,2),[sym 34,sym 27],.bool false⟩,⟨(10,2,2),[sym 34,sym 22],sym 36⟩,⟨(25,2,2),[sym 36,sym 37],.bool false⟩]:=rc .u64 .i64 y5 (iK y5) sG (rc .u32 .i64 y4 y4 wq (r6 .mul y4 l.term (iL (y4*l.term)) (gJ wq) (rc .u32 .i64 (V%4294967296) (V%4294967296) wq (M6 .i64 (V%4294967296) l.term (r6 .add (y4*l.term) (min (V%4294967296) l.term) (iL ((y4*l.term)+(min (V%4294967296) l.term))) (aJ wq) (ri .neq .u32 .u32 (u32 ((bF (V/4294967296))-l.bG)) y4 (.bool false) (gI (AJ e0)) (ri .geq .u32 .u32 y4 2147483648 (.bool false) (dX (tQ e1)) (r6 .lss ((y4*l.term)+(min (V%4294967296) l.term)) (iK y5) (.bool false) (iG (tQ e2)) (r6 .add ((y4*l.term)+(min (V%4294967296) l.term)) y6 (iL (((y4*l.term)+(min (V%4294967296) l.term))+y6)) (aJ wq) (r6 .gtr (((y4*l.term)+(min (V%4294967296) l.term))+y6) (l.term*2147483648) (.bool false) (jZ (tQ e3)) gn))))))))))
 have hP:gY T0 [(144,[sym 24],.tuple #[sym 28,sym 29]),(182,[sym 28,sym 4],sym 35),(183,[sym 1],sym 37)]:=pq hD (fun W hW=>dO V (by omega) (by omega) W) (pq hD (args :=#[iI (bF (V/4294967296)),iI l.bG]) (fun W hW=>countB _ _ W) (pq hD (fun W hW=>Qp l hl W) qn))
 exact bL nV nU 24 [(211,zA++[.nilFunc]++dM++[sym 12,sym 13,.pointer none,sym 14,sym 15,sym 16,sym 17,.bool false,sym 18,iL 5])] [0] hR hP fn0 (fun _ _=>trivial) hS
theorem Yw (hl:l.ok) (hV:0≤V∧V<18446744073709551616) (iQ:0≤y4∧y4<4294967296) (e0:¬((u32 ((bF (V/4294967296))-l.bG))=y4)) (hS:ah w (dl (Ao l aO kn kv kw (.slice dm cz dA) (.slice bY bJ bX) aW part bg off size pos ee y4 y5 y6 y0)) mR τ):Goes 285 τ V dn xa xn xc w mR gV (lU l 0 0 0 0 sZ (.slice bY bJ bX) aW part bg off size pos 6):=by
 letI:bH:=dw hS [iW V,.bool dn,.slice (xa) (xn) (xc),iL (iK y5),iI (bF (V/4294967296)),iU (V%4294967296),iL y4,iL (y4*l.term),iL (V%4294967296),iL (min (V%4294967296) l.term),iL ((y4*l.term)+(min (V%4294967296) l.term)),iU (u32 ((bF (V/4294967296))-l.bG))]
 have hlb:=hl.bounds
 have hm0:=nH hl (x:=y4) (by omega) (by omega)
 have hu0:=bQ ((bF (V/4294967296))-l.bG)
 have hD:dG 36=true:=by kernel_rfl
 have hR:dN T0 [⟨(1,31,2),[sym 21],sym 27⟩,⟨(1,155,2),[sym 20],sym 30⟩,⟨(12,2,2),[sym 30,sym 1],sym 31⟩,⟨(1,155,2),[sym 29],sym 32⟩,⟨(6,2,2),[sym 32,sym 1],sym 33⟩,⟨(10,2,2),[sym 31,sym 33],sym 34⟩,⟨(22,155,155),[sym 35,sym 20],.bool true⟩]:=rc .u64 .i64 y5 (iK y5) sG (rc .u32 .i64 y4 y4 wq (r6 .mul y4 l.term (iL (y4*l.term)) (gJ wq) (rc .u32 .i64 (V%4294967296) (V%4294967296) wq (M6 .i64 (V%4294967296) l.term (r6 .add (y4*l.term) (min (V%4294967296) l.term) (iL ((y4*l.term)+(min (V%4294967296) l.term))) (aJ wq) (ri .neq .u32 .u32 (u32 ((bF (V/4294967296))-l.bG)) y4 (.bool true) (gI (Q6 e0)) gn))))))
 have hP:gY T0 [(144,[sym 24],.tuple #[sym 28,sym 29]),(182,[sym 28,sym 4],sym 35)]:=pq hD (fun W hW=>dO V (by omega) (by omega) W) (pq hD (args :=#[iI (bF (V/4294967296)),iI l.bG]) (fun W hW=>countB _ _ W) qn)
 exact bL nV nU 24 [(211,zA++[.nilFunc]++dM++[sym 12,sym 13,.pointer none,sym 14,sym 15,sym 16,sym 17,.bool false,sym 18,iL 6])] [0] hR hP fn0 (fun _ _=>trivial) hS
theorem Yv (hl:l.ok) (hV:0≤V∧V<18446744073709551616) (hS:ah w (dl (lU l aO kn kv kw (.slice dm cz dA) (.slice bY bJ bX) aW part bg off size pos ee)) gV τ):Goes 285 τ V dn xa xn xc w gV gV (lU l aO kn kv kw (.slice dm cz dA) (.slice bY bJ bX) aW part bg off size pos ee):=by
 letI:bH:=dw hS [iW V,.bool dn,.slice (xa) (xn) (xc)]
 have hlb:=hl.bounds
 have hR:dN T0 []:=gn
 exact bL nV nU 20 gV [0] hR qn fn0 (fun _ _=>trivial) hS
theorem Yu (hl:l.ok) (hV:0≤V∧V<18446744073709551616) (T9:bJ≤bX∧bJ≤1000) (Og:0≤y7∧y7≤2) (zT:0≤y8∧y8≤1000000) (e0:((V%4294967296)+y8)≤l.term) (hS:ah w (dl (Cm l aO kn kv kw (.slice dm cz dA) (.slice bY bJ bX) aW part bg off size pos ee y7 y8)) pM τ):Goes 285 τ V dn xa xn xc w pM Cq (OX l (((l.base+y7*l.term)+(V%4294967296))+0) 8 (qZ (-(32+((bJ:Nat):Int))) 192 1) 0 sZ (.slice bY bJ bX) aW y7 (bF (V/4294967296)) (V%4294967296) y8 pos ee ((l.base+y7*l.term)+(V%4294967296)) (qZ (-(32+((bJ:Nat):Int))) 192 1) (u32 (V%4294967296)+4294967296*u32 l.dQ) (u32 l.str+4294967296*u32 (bF (V/4294967296))) (32+((bJ:Nat):Int))):=by
 letI:bH:=dw hS [iW V,.bool dn,.slice (xa) (xn) (xc),iI (bF (V/4294967296)),iU (V%4294967296),iL (V%4294967296),iL ((V%4294967296)+y8),iL ((bJ:Nat):Int),iL (32+((bJ:Nat):Int)),iI (32+((bJ:Nat):Int)),iI (V%4294967296),iI (-(32+((bJ:Nat):Int))),iL (l.base+y7*l.term),iL ((l.base+y7*l.term)+(V%4294967296)),iW (qZ (-(32+((bJ:Nat):Int))) 192 1),iW (u32 (V%4294967296)+4294967296*u32 l.dQ),iW (u32 l.str+4294967296*u32 (bF (V/4294967296))),iL (((l.base+y7*l.term)+(V%4294967296))+0)]
 have hlb:=hl.bounds
 have hm0:=nH hl (x:=y7) (by omega) (by omega)
 have hD:dG 40=true:=by kernel_rfl
 have hR:dN T0 [⟨(1,155,2),[sym 26],sym 27⟩,⟨(10,2,2),[sym 27,sym 21],sym 28⟩,⟨(24,2,2),[sym 28,sym 1],.bool true⟩,⟨(4,32,3),[sym 12],sym 29⟩,⟨(10,3,3),[iL 32,sym 29],sym 30⟩,⟨(1,3,21),[sym 30],sym 31⟩,⟨(1,2,21),[sym 27],sym 32⟩,⟨(30,21,0),[sym 31],sym 33⟩,⟨(10,3,3),[sym 34,sym 27],sym 35⟩,⟨(10,3,3),[sym 35,iL 0],sym 39⟩]:=rc .u32 .i64 (V%4294967296) (V%4294967296) wq (r6 .add (V%4294967296) y8 (iL ((V%4294967296)+y8)) (aJ wq) (r6 .leq ((V%4294967296)+y8) l.term (.bool true) (kY (Ah e0)) (wZ (bY) bJ bX 32 5 Tryz.underlying32 (by decide) (r6 .add 32 (((bJ:Nat):Int)) (iL (32+((bJ:Nat):Int))) (aJ wq) (rc .i64 .i32 (32+((bJ:Nat):Int)) (32+((bJ:Nat):Int)) (uu) (rc .i64 .i32 (V%4294967296) (V%4294967296) (uu) (rg (He (k :=.i32) (n:=32+((bJ:Nat):Int)) (n' := -(32+((bJ:Nat):Int))) (by kernel_rfl) (by kernel_rfl) (by kernel_rfl) (GR)) (r6 .add (l.base+y7*l.term) (V%4294967296) (iL ((l.base+y7*l.term)+(V%4294967296))) (aJ wq) (r6 .add ((l.base+y7*l.term)+(V%4294967296)) 0 (iL (((l.base+y7*l.term)+(V%4294967296))+0)) (aJ wq) gn)))))))))
 have hP:gY T0 [(144,[sym 22],.tuple #[sym 25,sym 26]),(130,[iD,sym 20],sym 34),(198,[.agg #[sym 33,.int .u8 0,.int .u8 192,.int .u16 1,sym 32,sym 5,sym 6,sym 25,iW 0]],.agg #[sym 36,sym 37,sym 38,iW 0])]:=pq hD (fun W hW=>dO V (by omega) (by omega) W) (pq hD (fun W hW=>jd l hl y7 (by omega) (by omega) W) (pq hD (fun W hW=>pW (-(32+((bJ:Nat):Int))) (V%4294967296) l.dQ l.str (bF (V/4294967296)) 192 1 (by omega) (by omega) W) qn))
 exact bL nV nU 22 [(211,[iL 2,sym 39,iL 8,sym 36,uZ,sZ,qF 201 [qP 110]]++dM++[sym 12,sym 13,.pointer none,sym 20,sym 25,sym 27,sym 21,.bool true,sym 18,sym 19]),(1,[qF 200 [qP 96,qP 97]]),(148,[qF 199 [qP 47,qP 93,qP 45,qP 95,qP 96]]),(3,[iZ]),(148,[qF 193 [qP 37,qP 38]]),(3,[sym 35]),fC,(162,[sym 36,sym 37,sym 38,uZ]),fC,(21,[sym 31])] [0,110,96,97,47,93,45,95,37,38] hR hP fn0 (fun _ _=>trivial) hS
theorem Yt (hl:l.ok) (hV:0≤V∧V<18446744073709551616) (zT:0≤y8∧y8≤1000000) (e0:¬(((V%4294967296)+y8)≤l.term)) (e1:(V%4294967296)≥l.term) (e2:(u32 ((bF (V/4294967296))-l.bG))≥2147483647) (hS:ah w (dl (Cm l aO kn kv kw (.slice dm cz dA) (.slice bY bJ bX) aW part bg off size pos ee y7 y8)) pM τ):Goes 285 τ V dn xa xn xc w pM nT (Am l 0 0 0 0 sZ (.slice bY bJ bX) aW y7 (bF (V/4294967296)) (V%4294967296) y8 pos ee 0 0 0 (bF ((bF (V/4294967296))+1)) (u32 ((bF (V/4294967296))-l.bG)) 7):=by
 letI:bH:=dw hS [iW V,.bool dn,.slice (xa) (xn) (xc),iI (bF (V/4294967296)),iU (V%4294967296),iL (V%4294967296),iL ((V%4294967296)+y8),iI (bF ((bF (V/4294967296))+1)),iU (u32 ((bF (V/4294967296))-l.bG))]
 have hlb:=hl.bounds
 have hu0:=bQ ((bF (V/4294967296))-l.bG)
 have hD:dG 31=true:=by kernel_rfl
 have hR:dN T0 [⟨(1,155,2),[sym 26],sym 27⟩,⟨(10,2,2),[sym 27,sym 21],sym 28⟩,⟨(24,2,2),[sym 28,sym 1],.bool false⟩,⟨(26,2,2),[sym 27,sym 1],.bool true⟩,⟨(10,21,21),[sym 25,iI 1],sym 29⟩,⟨(26,155,155),[sym 30,iU 2147483647],.bool true⟩]:=rc .u32 .i64 (V%4294967296) (V%4294967296) wq (r6 .add (V%4294967296) y8 (iL ((V%4294967296)+y8)) (aJ wq) (r6 .leq ((V%4294967296)+y8) l.term (.bool false) (kY (tQ e0)) (r6 .geq (V%4294967296) l.term (.bool true) (dX (Ah e1)) (ri .add .i32 .i32 (bF (V/4294967296)) 1 (iI (bF ((bF (V/4294967296))+1))) (aJ xN) (ri .geq .u32 .u32 (u32 ((bF (V/4294967296))-l.bG)) 2147483647 (.bool true) (dX (Ah e2)) gn)))))
 have hP:gY T0 [(144,[sym 22],.tuple #[sym 25,sym 26]),(182,[sym 25,sym 4],sym 30),(36,[iD],iL 0)]:=pq hD (fun W hW=>dO V (by omega) (by omega) W) (pq hD (args :=#[iI (bF (V/4294967296)),iI l.bG]) (fun W hW=>countB _ _ W) (pq hD (fun W hW=>eT l hl W) qn))
 exact bL nV nU 22 [Yn,(272,zA++[.nilFunc]++dM++[sym 29,sym 30,.bool false,iL 7])] [0,60] hR hP fn0 (fun _ _=>trivial) hS
end
end Go.Proofs.YtlaogoehmndcjaaGreatDoor.Sy
namespace Go.Proofs.YtlaogoehmndcjaaGreatDoor.Sy
open Go RowKit Lib AS Base Ba
noncomputable section
variable {l:Lg} {aO kn kv kw part bg off size pos ee y7 y8 V yf yg yh yi ya bq bP bM aN az bD y9 yj:Int} {dm bY xa:Option Addr} {cz dA bJ bX xn xc:Nat} {aW dn:Bool} {w:World} {τ:Nat→Nat×Nat}
theorem U2 (hl:l.ok) (hV:0≤V∧V<18446744073709551616) (zT:0≤y8∧y8≤1000000) (e0:¬(((V%4294967296)+y8)≤l.term)) (e1:(V%4294967296)≥l.term) (e2:¬((u32 ((bF (V/4294967296))-l.bG))≥2147483647)) (hS:ah w (dl (Cm l aO kn kv kw (.slice dm cz dA) (.slice bY bJ bX) aW part bg off size pos ee y7 y8)) pM τ):Goes 285 τ V dn xa xn xc w pM pK (Ck l 0 0 0 0 sZ (.slice bY bJ bX) aW y7 (bF (V/4294967296)) (V%4294967296) y8 pos ee (l.base+3*l.term+40) 0 0 (bF ((bF (V/4294967296))+1)) (u32 ((bF (V/4294967296))-l.bG)) 10):=by
 letI:bH:=dw hS [iW V,.bool dn,.slice (xa) (xn) (xc),iI (bF (V/4294967296)),iU (V%4294967296),iL (V%4294967296),iL ((V%4294967296)+y8),iI (bF ((bF (V/4294967296))+1)),iU (u32 ((bF (V/4294967296))-l.bG)),iL (l.base+3*l.term+40)]
 have hlb:=hl.bounds
 have hu0:=bQ ((bF (V/4294967296))-l.bG)
 have hD:dG 32=true:=by kernel_rfl
 have hR:dN T0 [⟨(1,155,2),[sym 26],sym 27⟩,⟨(10,2,2),[sym 27,sym 21],sym 28⟩,⟨(24,2,2),[sym 28,sym 1],.bool false⟩,⟨(26,2,2),[sym 27,sym 1],.bool true⟩,⟨(10,21,21),[sym 25,iI 1],sym 29⟩,⟨(26,155,155),[sym 30,iU 2147483647],.bool false⟩]:=rc .u32 .i64 (V%4294967296) (V%4294967296) wq (r6 .add (V%4294967296) y8 (iL ((V%4294967296)+y8)) (aJ wq) (r6 .leq ((V%4294967296)+y8) l.term (.bool false) (kY (tQ e0)) (r6 .geq (V%4294967296) l.term (.bool true) (dX (Ah e1)) (ri .add .i32 .i32 (bF (V/4294967296)) 1 (iI (bF ((bF (V/4294967296))+1))) (aJ xN) (ri .geq .u32 .u32 (u32 ((bF (V/4294967296))-l.bG)) 2147483647 (.bool false) (dX (tQ e2)) gn)))))
 have hP:gY T0 [(144,[sym 22],.tuple #[sym 25,sym 26]),(182,[sym 25,sym 4],sym 30),(36,[iD],iL 0),(83,[iD],sym 31)]:=pq hD (fun W hW=>dO V (by omega) (by omega) W) (pq hD (args :=#[iI (bF (V/4294967296)),iI l.bG]) (fun W hW=>countB _ _ W) (pq hD (fun W hW=>eT l hl W) (pq hD (fun W hW=>mP l hl W) qn)))
 exact bL nV nU 22 [Yn,(272,[iL 1,sym 31,iL 8,uZ,uZ,sZ,qF 166 [qP 70]]++dM++[sym 29,sym 30,.bool false,iL 10]),(227,[qF 189 [qP 61]]),(209,[qP 60])] [0,60,70,61] hR hP fn0 (fun _ _=>trivial) hS
theorem U1 (hl:l.ok) (hV:0≤V∧V<18446744073709551616) (Og:0≤y7∧y7≤2) (zT:0≤y8∧y8≤1000000) (e0:¬(((V%4294967296)+y8)≤l.term)) (e1:¬((V%4294967296)≥l.term)) (hS:ah w (dl (Cm l aO kn kv kw (.slice dm cz dA) (.slice bY bJ bX) aW part bg off size pos ee y7 y8)) pM τ):Goes 285 τ V dn xa xn xc w pM F9 (OW l (((l.base+y7*l.term)+(V%4294967296))+0) 8 (qZ (-(l.term-(V%4294967296))) 0 0) 0 sZ (.slice bY bJ bX) aW y7 (bF (V/4294967296)) (V%4294967296) y8 pos ee ((l.base+y7*l.term)+(V%4294967296)) (qZ (-(l.term-(V%4294967296))) 0 0) (u32 (V%4294967296)+4294967296*u32 l.dQ) (u32 l.str+4294967296*u32 (bF (V/4294967296))) (l.term-(V%4294967296))):=by
 letI:bH:=dw hS [iW V,.bool dn,.slice (xa) (xn) (xc),iI (bF (V/4294967296)),iU (V%4294967296),iL (V%4294967296),iL ((V%4294967296)+y8),iL (l.term-(V%4294967296)),iI (l.term-(V%4294967296)),iI (V%4294967296),iI (-(l.term-(V%4294967296))),iL (l.base+y7*l.term),iL ((l.base+y7*l.term)+(V%4294967296)),iW (qZ (-(l.term-(V%4294967296))) 0 0),iW (u32 (V%4294967296)+4294967296*u32 l.dQ),iW (u32 l.str+4294967296*u32 (bF (V/4294967296))),iL (((l.base+y7*l.term)+(V%4294967296))+0)]
 have hlb:=hl.bounds
 have hm0:=nH hl (x:=y7) (by omega) (by omega)
 have hD:dG 39=true:=by kernel_rfl
 have hR:dN T0 [⟨(1,155,2),[sym 26],sym 27⟩,⟨(10,2,2),[sym 27,sym 21],sym 28⟩,⟨(24,2,2),[sym 28,sym 1],.bool false⟩,⟨(26,2,2),[sym 27,sym 1],.bool false⟩,⟨(11,2,2),[sym 1,sym 27],sym 29⟩,⟨(1,2,21),[sym 29],sym 30⟩,⟨(1,2,21),[sym 27],sym 31⟩,⟨(30,21,0),[sym 30],sym 32⟩,⟨(10,3,3),[sym 33,sym 27],sym 34⟩,⟨(10,3,3),[sym 34,iL 0],sym 38⟩]:=rc .u32 .i64 (V%4294967296) (V%4294967296) wq (r6 .add (V%4294967296) y8 (iL ((V%4294967296)+y8)) (aJ wq) (r6 .leq ((V%4294967296)+y8) l.term (.bool false) (kY (tQ e0)) (r6 .geq (V%4294967296) l.term (.bool false) (dX (tQ e1)) (r6 .sub l.term (V%4294967296) (iL (l.term-(V%4294967296))) (gq wq) (rc .i64 .i32 (l.term-(V%4294967296)) (l.term-(V%4294967296)) (uu) (rc .i64 .i32 (V%4294967296) (V%4294967296) (uu) (rg (He (k :=.i32) (n:=l.term-(V%4294967296)) (n' := -(l.term-(V%4294967296))) (by kernel_rfl) (by kernel_rfl) (by kernel_rfl) (GR)) (r6 .add (l.base+y7*l.term) (V%4294967296) (iL ((l.base+y7*l.term)+(V%4294967296))) (aJ wq) (r6 .add ((l.base+y7*l.term)+(V%4294967296)) 0 (iL (((l.base+y7*l.term)+(V%4294967296))+0)) (aJ wq) gn)))))))))
 have hP:gY T0 [(144,[sym 22],.tuple #[sym 25,sym 26]),(130,[iD,sym 20],sym 33),(198,[.agg #[sym 32,.int .u8 0,.int .u8 0,.int .u16 0,sym 31,sym 5,sym 6,sym 25,iW 0]],.agg #[sym 35,sym 36,sym 37,iW 0])]:=pq hD (fun W hW=>dO V (by omega) (by omega) W) (pq hD (fun W hW=>jd l hl y7 (by omega) (by omega) W) (pq hD (fun W hW=>pW (-(l.term-(V%4294967296))) (V%4294967296) l.dQ l.str (bF (V/4294967296)) 0 0 (by omega) (by omega) W) qn))
 exact bL nV nU 22 [(211,[iL 2,sym 38,iL 8,sym 35,uZ,sZ,qF 201 [qP 103]]++dM++[sym 12,sym 13,.pointer none,sym 20,sym 25,sym 27,sym 21,.bool true,sym 18,sym 19]),(1,[qF 200 [qP 89,qP 90]]),(148,[qF 199 [qP 40,qP 86,qP 38,qP 88,qP 89]]),(3,[iZ]),(148,[qF 158 [qP 4,qP 37]]),(3,[sym 34]),fC,(162,[sym 35,sym 36,sym 37,uZ]),fC,(21,[sym 30])] [0,103,89,90,40,86,38,88,4,37] hR hP fn0 (fun _ _=>trivial) hS
theorem U0 (hl:l.ok) (hV:0≤V∧V<18446744073709551616) (ko:0≤yf∧yf≤1000000) (hS:ah w (dl (OX l aO kn kv kw (.slice dm cz dA) (.slice bY bJ bX) aW part bg off size pos ee yf yg yh yi ya)) Cq τ):Goes 285 τ V dn xa xn xc w Cq Co (OV l (yf+8) 8 yh 0 sZ (.slice bY bJ bX) aW part bg off size pos ee yf yg yh yi ya):=by
 letI:bH:=dw hS [iW V,.bool dn,.slice (xa) (xn) (xc),iL (yf+8)]
 have hlb:=hl.bounds
 have hR:dN T0 [⟨(10,3,3),[sym 20,iL 8],sym 28⟩]:=r6 .add yf 8 (iL (yf+8)) (aJ wq) gn
 exact bL nV nU 25 [Ym,LW,vL,(3,[iL 1]),I5,jI,fC,mQ,fC,jH] [0,31,2,18,4,5,6,7,8,9] hR qn fn0 (fun _ _=>trivial) hS
theorem UZ (hl:l.ok) (hV:0≤V∧V<18446744073709551616) (hS:ah w (dl (Am l aO kn kv kw (.slice dm cz dA) (.slice bY bJ bX) aW part bg off size pos ee bq bP bM aN az bD)) nT τ):Goes 285 τ V dn xa xn xc w nT nT (Am l aO kn kv kw (.slice dm cz dA) (.slice bY bJ bX) aW part bg off size pos ee bq bP bM aN az bD):=by
 letI:bH:=dw hS [iW V,.bool dn,.slice (xa) (xn) (xc)]
 have hlb:=hl.bounds
 have hR:dN T0 []:=gn
 exact bL nV nU 26 nT [0,1] hR qn fn0 (fun _ _=>trivial) hS
theorem UY (hl:l.ok) (hV:0≤V∧V<18446744073709551616) (kX:0≤az∧az<2147483647) (e0:(iK V)<(az-1)) (hS:ah w (dl (Ck l aO kn kv kw (.slice dm cz dA) (.slice bY bJ bX) aW part bg off size pos ee bq bP bM aN az bD)) pK τ):Goes 285 τ V dn xa xn xc w pK nT (Am l aO kn kv kw (.slice dm cz dA) (.slice bY bJ bX) aW part bg off size pos ee 0 0 0 aN az 5):=by
 letI:bH:=dw hS [iW V,.bool dn,.slice (xa) (xn) (xc),iL (iK V),iL az,iL (az-1)]
 have hlb:=hl.bounds
 have hR:dN T0 [⟨(1,31,2),[sym 26],sym 29⟩,⟨(1,155,2),[sym 24],sym 30⟩,⟨(11,2,2),[sym 30,iL 1],sym 31⟩,⟨(23,2,2),[sym 29,sym 31],.bool true⟩]:=rc .u64 .i64 V (iK V) sG (rc .u32 .i64 az az wq (r6 .sub az 1 (iL (az-1)) (gq wq) (r6 .lss (iK V) (az-1) (.bool true) (iG (Ah e0)) gn)))
 exact bL nV nU 26 [nS,(272,zA++[.nilFunc]++dM++[sym 23,sym 24,.bool false,iL 5])] [0,1] hR qn fn0 (fun _ _=>trivial) hS
theorem UX (hl:l.ok) (hV:0≤V∧V<18446744073709551616) (kX:0≤az∧az<2147483647) (e0:¬((iK V)<(az-1))) (hS:ah w (dl (Ck l aO kn kv kw (.slice dm cz dA) (.slice bY bJ bX) aW part bg off size pos ee bq bP bM aN az bD)) pK τ):Goes 285 τ V dn xa xn xc w pK kP (wM l aO kn kv kw (.slice dm cz dA) (.slice bY bJ bX) aW part bg off size pos ee (l.base+3*l.term+((az+1)%3)*8) 0 0 aN az bD (l.base+3*l.term+((az+1)%3)*8)):=by
 letI:bH:=dw hS [iW V,.bool dn,.slice (xa) (xn) (xc),iL (iK V),iL az,iL (az-1),iU (az+1),iL ((az+1)%3),iL (l.base+3*l.term+((az+1)%3)*8)]
 have hlb:=hl.bounds
 have hD:dG 35=true:=by kernel_rfl
 have hR:dN T0 [⟨(1,31,2),[sym 26],sym 29⟩,⟨(1,155,2),[sym 24],sym 30⟩,⟨(11,2,2),[sym 30,iL 1],sym 31⟩,⟨(23,2,2),[sym 29,sym 31],.bool false⟩,⟨(10,155,155),[sym 24,iU 1],sym 32⟩]:=rc .u64 .i64 V (iK V) sG (rc .u32 .i64 az az wq (r6 .sub az 1 (iL (az-1)) (gq wq) (r6 .lss (iK V) (az-1) (.bool false) (iG (tQ e0)) (ri .add .u32 .u32 az 1 (iU (az+1)) (aJ (ED)) gn))))
 have hP:gY T0 [(103,[sym 32],sym 33),(78,[iD,sym 33],sym 34)]:=pq hD (fun W hW=>uO (az+1) (by first|exact(bQ _).1|omega) (by first|exact(bQ _).2|omega) W) (pq hD (fun W hW=>gD l hl ((az+1)%3) (by omega) (by omega) W) qn)
 exact bL nV nU 26 [nS,(272,[iL 1,sym 34,iL 8,uZ,uZ,sZ,qF 166 [qP 39]]++dM++[sym 23,sym 24,.bool false,sym 25]),(227,[qF 222 [qP 19,qP 31]]),vM,(3,[sym 34])] [0,1,39,19,31] hR hP fn0 (fun _ _=>trivial) hS
theorem UW (hl:l.ok) (hV:0≤V∧V<18446744073709551616) (ko:0≤yf∧yf≤1000000) (hS:ah w (dl (OW l aO kn kv kw (.slice dm cz dA) (.slice bY bJ bX) aW part bg off size pos ee yf yg yh yi y9)) F9 τ):Goes 285 τ V dn xa xn xc w F9 Az (Ja l (yf+8) 8 yh 0 sZ (.slice bY bJ bX) aW part bg off size pos ee yf yg yh yi y9):=by
 letI:bH:=dw hS [iW V,.bool dn,.slice (xa) (xn) (xc),iL (yf+8)]
 have hlb:=hl.bounds
 have hR:dN T0 [⟨(10,3,3),[sym 20,iL 8],sym 28⟩]:=r6 .add yf 8 (iL (yf+8)) (aJ wq) gn
 exact bL nV nU 25 [Ym,LW,vL,(3,[iL 1]),Ak,jI,fC,mQ,fC,jH] [0,31,2,18,4,5,6,7,8,9] hR qn fn0 (fun _ _=>trivial) hS
theorem UU (hl:l.ok) (hV:0≤V∧V<18446744073709551616) (ko:0≤yf∧yf≤1000000) (hS:ah w (dl (OV l aO kn kv kw (.slice dm cz dA) (.slice bY bJ bX) aW part bg off size pos ee yf yg yh yi ya)) Co τ):Goes 285 τ V dn xa xn xc w Co wO (I9 l (yf+16) 8 yi 0 sZ (.slice bY bJ bX) aW part bg off size pos ee yf yg yh yi ya):=by
 letI:bH:=dw hS [iW V,.bool dn,.slice (xa) (xn) (xc),iL (yf+16)]
 have hlb:=hl.bounds
 have hR:dN T0 [⟨(10,3,3),[sym 20,iL 16],sym 28⟩]:=r6 .add yf 16 (iL (yf+16)) (aJ wq) gn
 exact bL nV nU 25 [RQ,LW,vL,(3,[iL 2]),I5,jI,fC,mQ,fC,jH] [0,31,2,18,4,5,6,7,8,9] hR qn fn0 (fun _ _=>trivial) hS
theorem UT (hl:l.ok) (hV:0≤V∧V<18446744073709551616) (e0:(bF (V/4294967296))=(bF (aN-3))) (hS:ah w (dl (wM l aO kn kv kw (.slice dm cz dA) (.slice bY bJ bX) aW part bg off size pos ee bq bP bM aN az bD yj)) kP τ):Goes 285 τ V dn xa xn xc w kP lY (Av l aO kn kv kw (.slice dm cz dA) (.slice bY bJ bX) aW part bg off size pos ee yj V (pack aN 0) aN az bD):=by
 letI:bH:=dw hS [iW V,.bool dn,.slice (xa) (xn) (xc),iI (bF (V/4294967296)),iU (V%4294967296),iI (bF (aN-3)),iW (pack aN 0)]
 have hlb:=hl.bounds
 have hD:dG 34=true:=by kernel_rfl
 have hR:dN T0 [⟨(11,21,21),[sym 23,iI 3],sym 32⟩,⟨(22,21,21),[sym 30,sym 32],.bool false⟩]:=ri .sub .i32 .i32 aN 3 (iI (bF (aN-3))) (gq xN) (ri .neq .i32 .i32 (bF (V/4294967296)) (bF (aN-3)) (.bool false) (gI (AJ e0)) gn)
 have hP:gY T0 [(144,[sym 27],.tuple #[sym 30,sym 31]),(79,[sym 23,iU 0],sym 33)]:=pq hD (fun W hW=>dO V (by omega) (by omega) W) (pq hD (fun W hW=>Rn aN 0 (by omega) (by omega) W) qn)
 exact bL nV nU 27 [nS,(272,[iL 4,sym 26,iL 8,sym 27,sym 33,sZ,qF 240 [qP 32]]++dM++[sym 23,sym 24,.bool false,sym 25]),(293,[qF 225 [qP 3]]),vM] [0,1,32,3] hR hP fn0 (fun _ _=>trivial) hS
theorem UR (hl:l.ok) (hV:0≤V∧V<18446744073709551616) (kX:0≤az∧az<2147483647) (e0:¬((bF (V/4294967296))=(bF (aN-3)))) (hS:ah w (dl (wM l aO kn kv kw (.slice dm cz dA) (.slice bY bJ bX) aW part bg off size pos ee bq bP bM aN az bD yj)) kP τ):Goes 285 τ V dn xa xn xc w kP mZ (Au l aO kn kv kw (.slice dm cz dA) (.slice bY bJ bX) aW part bg off size pos ee (l.base+3*l.term+24) az (az+1) aN az bD):=by
 letI:bH:=dw hS [iW V,.bool dn,.slice (xa) (xn) (xc),iI (bF (V/4294967296)),iU (V%4294967296),iI (bF (aN-3)),iL (l.base+3*l.term+24),iW az,iU (az+1),iW (az+1)]
 have hlb:=hl.bounds
 have hD:dG 37=true:=by kernel_rfl
 have hR:dN T0 [⟨(11,21,21),[sym 23,iI 3],sym 32⟩,⟨(22,21,21),[sym 30,sym 32],.bool true⟩,⟨(1,155,31),[sym 24],sym 34⟩,⟨(10,155,155),[sym 24,iU 1],sym 35⟩,⟨(1,155,31),[sym 35],sym 36⟩]:=ri .sub .i32 .i32 aN 3 (iI (bF (aN-3))) (gq xN) (ri .neq .i32 .i32 (bF (V/4294967296)) (bF (aN-3)) (.bool true) (gI (Q6 e0)) (rc .u32 .u64 az az wu64 (ri .add .u32 .u32 az 1 (iU (az+1)) (aJ (ED)) (rc .u32 .u64 (az+1) (az+1) wu64 gn))))
 have hP:gY T0 [(144,[sym 27],.tuple #[sym 30,sym 31]),(80,[iD],sym 33)]:=pq hD (fun W hW=>dO V (by omega) (by omega) W) (pq hD (fun W hW=>iH l hl W) qn)
 exact bL nV nU 27 [nS,(272,[iL 4,sym 33,iL 4,sym 34,sym 36,sZ,qF 240 [qP 42]]++dM++[sym 23,sym 24,.bool false,sym 25]),(293,[qF 239 [qP 20]]),vM] [0,1,42,20] hR hP fn0 (fun _ _=>trivial) hS
end
end Go.Proofs.YtlaogoehmndcjaaGreatDoor.Sy
