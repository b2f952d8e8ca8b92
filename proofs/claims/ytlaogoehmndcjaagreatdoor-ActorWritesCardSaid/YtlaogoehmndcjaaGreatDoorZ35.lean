import Derived.Test.YtlaogoehmndcjaaGreatDoorZ33
set_option maxRecDepth 100000
set_option linter.unusedVariables false
set_option linter.unusedSectionVars false
set_option linter.unusedSimpArgs false
namespace Go.Proofs.YtlaogoehmndcjaaGreatDoor.Sy
open Go RowKit Lib AS Base Ba
noncomputable section
variable {l:Lg} {aO kv kw pos ee aG bA bz bu af ay aA aj ya yb V yl ym yn yo yc ye y0 y1 y2 bq bP bM aN az bD yh:Int} {aX aL xa ys:Option Addr} {aT aY aK aF aI aH aD aQ xn xc yu yt:Nat} {dn:Bool} {w:World} {τ:Nat→Nat×Nat}
theorem Ty (hl:l.ok) (hV:0≤V∧V<18446744073709551616) (vD:0≤yb∧yb≤1000000) (e0:¬(((V%4294967296)+yb)≤l.term)) (e1:(V%4294967296)≥l.term) (e2:(u32 ((bF (V/4294967296))-l.bG))≥2147483647) (hS:ah w (dl (rU l aO kv kw pos ee aG bA bz bu (.slice aX aT aY) (.slice aL aK aF) (.slice (some ⟨aI,aH,none⟩) (aD) (aQ)) af ay aA aj ya yb)) gy τ):Goes 281 τ V dn xa xn xc w gy uX (BQ l aO kv kw pos 7 0 0 0 (bF ((bF (V/4294967296))+1)) (u32 ((bF (V/4294967296))-l.bG)) 7 0 0 0 0 sZ (.slice aL aK aF) (.slice (some ⟨aI,aH,none⟩) (aD) (aQ)) ya (bF (V/4294967296)) (V%4294967296) yb):=by
 letI:bH:=dw hS [iW V,.bool dn,.slice (xa) (xn) (xc),iI (bF (V/4294967296)),iU (V%4294967296),iL (V%4294967296),iL ((V%4294967296)+yb),iI (bF ((bF (V/4294967296))+1)),iU (u32 ((bF (V/4294967296))-l.bG))]
 have hlb:=hl.bounds
 have hu0:=bQ ((bF (V/4294967296))-l.bG)
 have hD:dG 34=true:=by kernel_rfl
 have hR:dN T0 [⟨(1,155,2),[sym 29],sym 30⟩,⟨(10,2,2),[sym 30,sym 24],sym 31⟩,⟨(24,2,2),[sym 31,sym 1],.bool false⟩,⟨(26,2,2),[sym 30,sym 1],.bool true⟩,⟨(10,21,21),[sym 28,iI 1],sym 32⟩,⟨(26,155,155),[sym 33,iU 2147483647],.bool true⟩]:=rc .u32 .i64 (V%4294967296) (V%4294967296) wq (r6 .add (V%4294967296) yb (iL ((V%4294967296)+yb)) (aJ wq) (r6 .leq ((V%4294967296)+yb) l.term (.bool false) (kY (tQ e0)) (r6 .geq (V%4294967296) l.term (.bool true) (dX (Ah e1)) (ri .add .i32 .i32 (bF (V/4294967296)) 1 (iI (bF ((bF (V/4294967296))+1))) (aJ xN) (ri .geq .u32 .u32 (u32 ((bF (V/4294967296))-l.bG)) 2147483647 (.bool true) (dX (Ah e2)) gn)))))
 have hP:gY T0 [(144,[sym 25],.tuple #[sym 28,sym 29]),(182,[sym 28,sym 4],sym 33),(36,[iD],iL 0)]:=pq hD (fun W hW=>dO V (by omega) (by omega) W) (pq hD (args :=#[iI (bF (V/4294967296)),iI l.bG]) (fun W hW=>countB _ _ W) (pq hD (fun W hW=>eT l hl W) qn))
 exact bL mH mG 25 [(203,[iZ,sym 7,iZ,sym 8,sym 9,sZ,.nilFunc,.iface 209 (qP 79),.nilFunc]++dM++[qP 1,sym 10,iL 7]),(272,zA++[.nilFunc]++dM++[sym 32,sym 33,.bool false,iL 7]),Rx] [0,79,1] hR hP fn0 (fun _ _=>trivial) hS
theorem Tx (hl:l.ok) (hV:0≤V∧V<18446744073709551616) (vD:0≤yb∧yb≤1000000) (e0:¬(((V%4294967296)+yb)≤l.term)) (e1:(V%4294967296)≥l.term) (e2:¬((u32 ((bF (V/4294967296))-l.bG))≥2147483647)) (hS:ah w (dl (rU l aO kv kw pos ee aG bA bz bu (.slice aX aT aY) (.slice aL aK aF) (.slice (some ⟨aI,aH,none⟩) (aD) (aQ)) af ay aA aj ya yb)) gy τ):Goes 281 τ V dn xa xn xc w gy xu (Fb l aO kv kw pos ee (l.base+3*l.term+40) 0 0 (bF ((bF (V/4294967296))+1)) (u32 ((bF (V/4294967296))-l.bG)) 10 0 0 0 0 sZ (.slice aL aK aF) (.slice (some ⟨aI,aH,none⟩) (aD) (aQ)) ya (bF (V/4294967296)) (V%4294967296) yb):=by
 letI:bH:=dw hS [iW V,.bool dn,.slice (xa) (xn) (xc),iI (bF (V/4294967296)),iU (V%4294967296),iL (V%4294967296),iL ((V%4294967296)+yb),iI (bF ((bF (V/4294967296))+1)),iU (u32 ((bF (V/4294967296))-l.bG)),iL (l.base+3*l.term+40)]
 have hlb:=hl.bounds
 have hu0:=bQ ((bF (V/4294967296))-l.bG)
 have hD:dG 35=true:=by kernel_rfl
 have hR:dN T0 [⟨(1,155,2),[sym 29],sym 30⟩,⟨(10,2,2),[sym 30,sym 24],sym 31⟩,⟨(24,2,2),[sym 31,sym 1],.bool false⟩,⟨(26,2,2),[sym 30,sym 1],.bool true⟩,⟨(10,21,21),[sym 28,iI 1],sym 32⟩,⟨(26,155,155),[sym 33,iU 2147483647],.bool false⟩]:=rc .u32 .i64 (V%4294967296) (V%4294967296) wq (r6 .add (V%4294967296) yb (iL ((V%4294967296)+yb)) (aJ wq) (r6 .leq ((V%4294967296)+yb) l.term (.bool false) (kY (tQ e0)) (r6 .geq (V%4294967296) l.term (.bool true) (dX (Ah e1)) (ri .add .i32 .i32 (bF (V/4294967296)) 1 (iI (bF ((bF (V/4294967296))+1))) (aJ xN) (ri .geq .u32 .u32 (u32 ((bF (V/4294967296))-l.bG)) 2147483647 (.bool false) (dX (tQ e2)) gn)))))
 have hP:gY T0 [(144,[sym 25],.tuple #[sym 28,sym 29]),(182,[sym 28,sym 4],sym 33),(36,[iD],iL 0),(83,[iD],sym 34)]:=pq hD (fun W hW=>dO V (by omega) (by omega) W) (pq hD (args :=#[iI (bF (V/4294967296)),iI l.bG]) (fun W hW=>countB _ _ W) (pq hD (fun W hW=>eT l hl W) (pq hD (fun W hW=>mP l hl W) qn)))
 exact bL mH mG 25 [(203,[iZ,sym 7,iZ,sym 8,sym 9,sZ,.nilFunc,.iface 209 (qP 79),qF 151 [qP 68,qP 38]]++dM++[qP 1,sym 10,sym 11]),(272,[iL 1,sym 34,iL 8,uZ,uZ,sZ,qF 166 [qP 89]]++dM++[sym 32,sym 33,.bool false,iL 10]),(209,[qP 79]),rF,Rx,(227,[qF 189 [qP 80]]),(209,[qP 79])] [0,79,68,38,1,89,80] hR hP fn0 (fun _ _=>trivial) hS
theorem Tv (hl:l.ok) (hV:0≤V∧V<18446744073709551616) (FK:0≤ya∧ya≤2) (vD:0≤yb∧yb≤1000000) (e0:¬(((V%4294967296)+yb)≤l.term)) (e1:¬((V%4294967296)≥l.term)) (hS:ah w (dl (rU l aO kv kw pos ee aG bA bz bu (.slice aX aT aY) (.slice aL aK aF) (.slice (some ⟨aI,aH,none⟩) (aD) (aQ)) af ay aA aj ya yb)) gy τ):Goes 281 τ V dn xa xn xc w gy Fe (Nr l aO kv kw pos ee (((l.base+ya*l.term)+(V%4294967296))+0) 8 (qZ (-(l.term-(V%4294967296))) 0 0) 0 sZ (.slice aL aK aF) (.slice (some ⟨aI,aH,none⟩) (aD) (aQ)) ya (bF (V/4294967296)) (V%4294967296) yb ((l.base+ya*l.term)+(V%4294967296)) (qZ (-(l.term-(V%4294967296))) 0 0) (u32 (V%4294967296)+4294967296*u32 l.dQ) (u32 l.str+4294967296*u32 (bF (V/4294967296))) ((l.base+ya*l.term)+(V%4294967296)) (l.term-(V%4294967296))):=by
 letI:bH:=dw hS [iW V,.bool dn,.slice (xa) (xn) (xc),iI (bF (V/4294967296)),iU (V%4294967296),iL (V%4294967296),iL ((V%4294967296)+yb),iI (V%4294967296),iL (l.term-(V%4294967296)),iI (l.term-(V%4294967296)),iL (l.base+ya*l.term),iL ((l.base+ya*l.term)+(V%4294967296)),iI (-(l.term-(V%4294967296))),iW (qZ (-(l.term-(V%4294967296))) 0 0),iW (u32 (V%4294967296)+4294967296*u32 l.dQ),iW (u32 l.str+4294967296*u32 (bF (V/4294967296))),iL (((l.base+ya*l.term)+(V%4294967296))+0)]
 have hlb:=hl.bounds
 have hm0:=nH hl (x:=ya) (by omega) (by omega)
 have hD:dG 42=true:=by kernel_rfl
 have hR:dN T0 [⟨(1,155,2),[sym 29],sym 30⟩,⟨(10,2,2),[sym 30,sym 24],sym 31⟩,⟨(24,2,2),[sym 31,sym 1],.bool false⟩,⟨(26,2,2),[sym 30,sym 1],.bool false⟩,⟨(1,2,21),[sym 30],sym 32⟩,⟨(11,2,2),[sym 1,sym 30],sym 33⟩,⟨(1,2,21),[sym 33],sym 34⟩,⟨(1,21,3),[sym 32],sym 30⟩,⟨(10,3,3),[sym 35,sym 30],sym 36⟩,⟨(30,21,0),[sym 34],sym 37⟩,⟨(10,3,3),[sym 36,iL 0],sym 41⟩]:=rc .u32 .i64 (V%4294967296) (V%4294967296) wq (r6 .add (V%4294967296) yb (iL ((V%4294967296)+yb)) (aJ wq) (r6 .leq ((V%4294967296)+yb) l.term (.bool false) (kY (tQ e0)) (r6 .geq (V%4294967296) l.term (.bool false) (dX (tQ e1)) (rc .i64 .i32 (V%4294967296) (V%4294967296) (uu) (r6 .sub l.term (V%4294967296) (iL (l.term-(V%4294967296))) (gq wq) (rc .i64 .i32 (l.term-(V%4294967296)) (l.term-(V%4294967296)) (uu) (rc .i32 .i64 (V%4294967296) (V%4294967296) wq (r6 .add (l.base+ya*l.term) (V%4294967296) (iL ((l.base+ya*l.term)+(V%4294967296))) (aJ wq) (rg (He (k :=.i32) (n:=l.term-(V%4294967296)) (n' := -(l.term-(V%4294967296))) (by kernel_rfl) (by kernel_rfl) (by kernel_rfl) (GR)) (r6 .add ((l.base+ya*l.term)+(V%4294967296)) 0 (iL (((l.base+ya*l.term)+(V%4294967296))+0)) (aJ wq) gn))))))))))
 have hP:gY T0 [(144,[sym 25],.tuple #[sym 28,sym 29]),(130,[iD,sym 23],sym 35),(198,[.agg #[sym 37,.int .u8 0,.int .u8 0,.int .u16 0,sym 32,sym 5,sym 6,sym 28,iW 0]],.agg #[sym 38,sym 39,sym 40,iW 0])]:=pq hD (fun W hW=>dO V (by omega) (by omega) W) (pq hD (fun W hW=>jd l hl ya (by omega) (by omega) W) (pq hD (fun W hW=>pW (-(l.term-(V%4294967296))) (V%4294967296) l.dQ l.str (bF (V/4294967296)) 0 0 (by omega) (by omega) W) qn))
 exact bL mH mG 25 [jJ,(247,[iL 2,sym 41,iL 8,sym 38,uZ,sZ,qF 201 [qP 118]]++dM++[sym 17,sym 18,sym 23,sym 28,sym 30,sym 24,.bool true,.bool false,iL 10]),(1,[qF 238 [qP 101,qP 102,qP 103,qP 104,qP 105]]),bU,(3,[sym 36]),(162,[sym 38,sym 39,sym 40,uZ]),(3,[iZ]),(1,[qF 220 [qP 53,qP 92,qP 55,qP 94,qP 56]]),bU,(3,[sym 36]),(32,[sZ]),(21,[sym 34]),(1,[qF 186 [qP 21]]),bU] [0,1,118,101,102,103,104,105,53,92,55,94,56,21] hR hP fn0 (fun _ _=>trivial) hS
theorem Tu (hl:l.ok) (hV:0≤V∧V<18446744073709551616) (qm:0≤yl∧yl≤1000000) (hS:ah w (dl (BR l aO kv kw pos ee aG bA bz bu (.slice aX aT aY) (.slice aL aK aF) (.slice (some ⟨aI,aH,none⟩) (aD) (aQ)) af ay aA aj yl ym yn yo yc (.slice ys yu yt) ye y0 y1 y2)) mF τ):Goes 281 τ V dn xa xn xc w mF zF (Nq l aO kv kw pos ee (yl+8) 8 yn 0 sZ (.slice aL aK aF) (.slice (some ⟨aI,aH,none⟩) (aD) (aQ)) af ay aA aj yl ym yn yo yc (.slice ys yu yt) ye y0 y1 y2):=by
 letI:bH:=dw hS [iW V,.bool dn,.slice (xa) (xn) (xc),iL (yl+8)]
 have hlb:=hl.bounds
 have hR:dN T0 [⟨(10,3,3),[sym 23,iL 8],sym 36⟩]:=r6 .add yl 8 (iL (yl+8)) (aJ wq) gn
 exact bL mH mG 33 [jJ,(247,[iL 2,sym 36,iL 8,sym 25,uZ,sZ,qF 201 [qP 49]]++dM++[sym 17,sym 18,sym 19,sym 20,sym 21,sym 22,.bool true,.bool false,iL 10]),Np,bU,kU,mE,(3,[iL 1]),mD,bU,lJ,xm,xk,uW,bU,qg,uV,uU] [0,1,49,32,33,34,35,36,8,9,10,11,12,13,14,15,16] hR qn fn0 (fun _ _=>trivial) hS
theorem Tt (hl:l.ok) (hV:0≤V∧V<18446744073709551616) (hS:ah w (dl (BQ l aO kv kw pos ee bq bP bM aN az bD aG bA bz bu (.slice aX aT aY) (.slice aL aK aF) (.slice (some ⟨aI,aH,none⟩) (aD) (aQ)) af ay aA aj)) uX τ):Goes 281 τ V dn xa xn xc w uX uX (BQ l aO kv kw pos ee bq bP bM aN az bD aG bA bz bu (.slice aX aT aY) (.slice aL aK aF) (.slice (some ⟨aI,aH,none⟩) (aD) (aQ)) af ay aA aj):=by
 letI:bH:=dw hS [iW V,.bool dn,.slice (xa) (xn) (xc)]
 have hlb:=hl.bounds
 have hR:dN T0 []:=gn
 exact bL mH mG 29 uX [0,1,2] hR qn fn0 (fun _ _=>trivial) hS
theorem Tq (hl:l.ok) (hV:0≤V∧V<18446744073709551616) (kX:0≤az∧az<2147483647) (e0:(iK V)<(az-1)) (hS:ah w (dl (Fb l aO kv kw pos ee bq bP bM aN az bD aG bA bz bu (.slice aX aT aY) (.slice aL aK aF) (.slice (some ⟨aI,aH,none⟩) (aD) (aQ)) af ay aA aj)) xu τ):Goes 281 τ V dn xa xn xc w xu uX (BQ l aO kv kw pos 6 0 0 0 aN az 5 aG bA bz bu (.slice aX aT aY) (.slice aL aK aF) (.slice (some ⟨aI,aH,none⟩) (aD) (aQ)) af ay aA aj):=by
 letI:bH:=dw hS [iW V,.bool dn,.slice (xa) (xn) (xc),iL (iK V),iL az,iL (az-1)]
 have hlb:=hl.bounds
 have hR:dN T0 [⟨(1,31,2),[sym 29],sym 32⟩,⟨(1,155,2),[sym 16],sym 33⟩,⟨(11,2,2),[sym 33,iL 1],sym 34⟩,⟨(23,2,2),[sym 32,sym 34],.bool true⟩]:=rc .u64 .i64 V (iK V) sG (rc .u32 .i64 az az wq (r6 .sub az 1 (iL (az-1)) (gq wq) (r6 .lss (iK V) (az-1) (.bool true) (iG (Ah e0)) gn)))
 exact bL mH mG 29 [Rv,(272,zA++[.nilFunc]++dM++[sym 15,sym 16,.bool false,iL 5]),pF] [0,1,4] hR qn fn0 (fun _ _=>trivial) hS
theorem Tp (hl:l.ok) (hV:0≤V∧V<18446744073709551616) (kX:0≤az∧az<2147483647) (e0:¬((iK V)<(az-1))) (hS:ah w (dl (Fb l aO kv kw pos ee bq bP bM aN az bD aG bA bz bu (.slice aX aT aY) (.slice aL aK aF) (.slice (some ⟨aI,aH,none⟩) (aD) (aQ)) af ay aA aj)) xu τ):Goes 281 τ V dn xa xn xc w xu qi (zD l aO kv kw pos ee (l.base+3*l.term+((az+1)%3)*8) 0 0 aN az bD aG bA bz bu (.slice aX aT aY) (.slice aL aK aF) (.slice (some ⟨aI,aH,none⟩) (aD) (aQ)) af ay aA aj (l.base+3*l.term+((az+1)%3)*8)):=by
 letI:bH:=dw hS [iW V,.bool dn,.slice (xa) (xn) (xc),iL (iK V),iL az,iL (az-1),iU (az+1),iL ((az+1)%3),iL (l.base+3*l.term+((az+1)%3)*8)]
 have hlb:=hl.bounds
 have hD:dG 38=true:=by kernel_rfl
 have hR:dN T0 [⟨(1,31,2),[sym 29],sym 32⟩,⟨(1,155,2),[sym 16],sym 33⟩,⟨(11,2,2),[sym 33,iL 1],sym 34⟩,⟨(23,2,2),[sym 32,sym 34],.bool false⟩,⟨(10,155,155),[sym 16,iU 1],sym 35⟩]:=rc .u64 .i64 V (iK V) sG (rc .u32 .i64 az az wq (r6 .sub az 1 (iL (az-1)) (gq wq) (r6 .lss (iK V) (az-1) (.bool false) (iG (tQ e0)) (ri .add .u32 .u32 az 1 (iU (az+1)) (aJ (ED)) gn))))
 have hP:gY T0 [(103,[sym 35],sym 36),(78,[iD,sym 36],sym 37)]:=pq hD (fun W hW=>uO (az+1) (by first|exact(bQ _).1|omega) (by first|exact(bQ _).2|omega) W) (pq hD (fun W hW=>gD l hl ((az+1)%3) (by omega) (by omega) W) qn)
 exact bL mH mG 29 [uT,(272,[iL 1,sym 37,iL 8,uZ,uZ,sZ,qF 166 [qP 42]]++dM++[sym 15,sym 16,.bool false,sym 17]),jM,rF,pF,(227,[qF 222 [qP 22,qP 34]]),jM,(3,[sym 37])] [0,1,2,3,4,42,22,34] hR hP fn0 (fun _ _=>trivial) hS
theorem Tn (hl:l.ok) (hV:0≤V∧V<18446744073709551616) (qm:0≤yl∧yl≤1000000) (hS:ah w (dl (Nr l aO kv kw pos ee aG bA bz bu (.slice aX aT aY) (.slice aL aK aF) (.slice (some ⟨aI,aH,none⟩) (aD) (aQ)) af ay aA aj yl ym yn yo yc ye)) Fe τ):Goes 281 τ V dn xa xn xc w Fe zI (Ig l aO kv kw pos ee (yl+8) 8 yn 0 sZ (.slice aL aK aF) (.slice (some ⟨aI,aH,none⟩) (aD) (aQ)) af ay aA aj yl ym yn yo yc ye):=by
 letI:bH:=dw hS [iW V,.bool dn,.slice (xa) (xn) (xc),iL (yl+8)]
 have hlb:=hl.bounds
 have hR:dN T0 [⟨(10,3,3),[sym 23,iL 8],sym 32⟩]:=r6 .add yl 8 (iL (yl+8)) (aJ wq) gn
 exact bL mH mG 29 [jJ,(247,[iL 2,sym 32,iL 8,sym 25,uZ,sZ,qF 201 [qP 46]]++dM++[sym 17,sym 18,sym 19,sym 20,sym 21,sym 22,.bool true,.bool false,iL 10]),Nn,bU,kU,mE,(3,[iL 1]),mD,bU,lJ,(32,[sZ]),zz,xh,bU] [0,1,46,29,30,31,32,33,8,9,10,11,12,13] hR qn fn0 (fun _ _=>trivial) hS
theorem Tm (hl:l.ok) (hV:0≤V∧V<18446744073709551616) (qm:0≤yl∧yl≤1000000) (hS:ah w (dl (Nq l aO kv kw pos ee aG bA bz bu (.slice aX aT aY) (.slice aL aK aF) (.slice (some ⟨aI,aH,none⟩) (aD) (aQ)) af ay aA aj yl ym yn yo yc (.slice ys yu yt) ye y0 y1 y2)) zF τ):Goes 281 τ V dn xa xn xc w zF sS (Ie l aO kv kw pos ee (yl+16) 8 yo 0 sZ (.slice aL aK aF) (.slice (some ⟨aI,aH,none⟩) (aD) (aQ)) af ay aA aj yl ym yn yo yc (.slice ys yu yt) ye y0 y1 y2):=by
 letI:bH:=dw hS [iW V,.bool dn,.slice (xa) (xn) (xc),iL (yl+16)]
 have hlb:=hl.bounds
 have hR:dN T0 [⟨(10,3,3),[sym 23,iL 16],sym 36⟩]:=r6 .add yl 16 (iL (yl+16)) (aJ wq) gn
 exact bL mH mG 33 [jJ,(247,[iL 2,sym 36,iL 8,sym 26,uZ,sZ,qF 201 [qP 49]]++dM++[sym 17,sym 18,sym 19,sym 20,sym 21,sym 22,.bool true,.bool false,iL 10]),Np,bU,kU,mE,(3,[iL 2]),mD,bU,lJ,xm,xk,uW,bU,qg,uV,uU] [0,1,49,32,33,34,35,36,8,9,10,11,12,13,14,15,16] hR qn fn0 (fun _ _=>trivial) hS
theorem Tk (hl:l.ok) (hV:0≤V∧V<18446744073709551616) (e0:(bF (V/4294967296))=(bF (aN-3))) (hS:ah w (dl (zD l aO kv kw pos ee bq bP bM aN az bD aG bA bz bu (.slice aX aT aY) (.slice aL aK aF) (.slice (some ⟨aI,aH,none⟩) (aD) (aQ)) af ay aA aj yh)) qi τ):Goes 281 τ V dn xa xn xc w qi sQ (Di l aO kv kw pos ee yh V (pack aN 0) aN az bD aG bA bz bu (.slice aX aT aY) (.slice aL aK aF) (.slice (some ⟨aI,aH,none⟩) (aD) (aQ)) af ay aA aj):=by
 letI:bH:=dw hS [iW V,.bool dn,.slice (xa) (xn) (xc),iI (bF (V/4294967296)),iU (V%4294967296),iI (bF (aN-3)),iW (pack aN 0)]
 have hlb:=hl.bounds
 have hD:dG 37=true:=by kernel_rfl
 have hR:dN T0 [⟨(11,21,21),[sym 15,iI 3],sym 35⟩,⟨(22,21,21),[sym 33,sym 35],.bool false⟩]:=ri .sub .i32 .i32 aN 3 (iI (bF (aN-3))) (gq xN) (ri .neq .i32 .i32 (bF (V/4294967296)) (bF (aN-3)) (.bool false) (gI (AJ e0)) gn)
 have hP:gY T0 [(144,[sym 30],.tuple #[sym 33,sym 34]),(79,[sym 15,iU 0],sym 36)]:=pq hD (fun W hW=>dO V (by omega) (by omega) W) (pq hD (fun W hW=>Rn aN 0 (by omega) (by omega) W) qn)
 exact bL mH mG 30 [uT,(272,[iL 4,sym 29,iL 8,sym 30,sym 36,sZ,qF 240 [qP 35]]++dM++[sym 15,sym 16,.bool false,sym 17]),jM,rF,pF,(293,[qF 225 [qP 6]]),jM] [0,1,2,3,4,35,6] hR hP fn0 (fun _ _=>trivial) hS
theorem Tj (hl:l.ok) (hV:0≤V∧V<18446744073709551616) (kX:0≤az∧az<2147483647) (e0:¬((bF (V/4294967296))=(bF (aN-3)))) (hS:ah w (dl (zD l aO kv kw pos ee bq bP bM aN az bD aG bA bz bu (.slice aX aT aY) (.slice aL aK aF) (.slice (some ⟨aI,aH,none⟩) (aD) (aQ)) af ay aA aj yh)) qi τ):Goes 281 τ V dn xa xn xc w qi wz (Dh l aO kv kw pos ee (l.base+3*l.term+24) az (az+1) aN az bD aG bA bz bu (.slice aX aT aY) (.slice aL aK aF) (.slice (some ⟨aI,aH,none⟩) (aD) (aQ)) af ay aA aj):=by
 letI:bH:=dw hS [iW V,.bool dn,.slice (xa) (xn) (xc),iI (bF (V/4294967296)),iU (V%4294967296),iI (bF (aN-3)),iL (l.base+3*l.term+24),iW az,iU (az+1),iW (az+1)]
 have hlb:=hl.bounds
 have hD:dG 40=true:=by kernel_rfl
 have hR:dN T0 [⟨(11,21,21),[sym 15,iI 3],sym 35⟩,⟨(22,21,21),[sym 33,sym 35],.bool true⟩,⟨(1,155,31),[sym 16],sym 37⟩,⟨(10,155,155),[sym 16,iU 1],sym 38⟩,⟨(1,155,31),[sym 38],sym 39⟩]:=ri .sub .i32 .i32 aN 3 (iI (bF (aN-3))) (gq xN) (ri .neq .i32 .i32 (bF (V/4294967296)) (bF (aN-3)) (.bool true) (gI (Q6 e0)) (rc .u32 .u64 az az wu64 (ri .add .u32 .u32 az 1 (iU (az+1)) (aJ (ED)) (rc .u32 .u64 (az+1) (az+1) wu64 gn))))
 have hP:gY T0 [(144,[sym 30],.tuple #[sym 33,sym 34]),(80,[iD],sym 36)]:=pq hD (fun W hW=>dO V (by omega) (by omega) W) (pq hD (fun W hW=>iH l hl W) qn)
 exact bL mH mG 30 [uT,(272,[iL 4,sym 36,iL 4,sym 37,sym 39,sZ,qF 240 [qP 45]]++dM++[sym 15,sym 16,.bool false,sym 17]),jM,rF,pF,(293,[qF 239 [qP 23]]),jM] [0,1,2,3,4,45,23] hR hP fn0 (fun _ _=>trivial) hS
end
end Go.Proofs.YtlaogoehmndcjaaGreatDoor.Sy
namespace Go.Proofs.YtlaogoehmndcjaaGreatDoor.Sy
open Go RowKit Lib AS Base Ba
noncomputable section
variable {l:Lg} {aO kv kw pos ee aG bA bz bu af ay aA aj yl ym yn yo yc ye V y0 y1 y2 bq bP bM aN az bD:Int} {aX aL xa ys:Option Addr} {aT aY aK aF aI aH aD aQ xn xc yu yt:Nat} {dn rE:Bool} {w:World} {τ:Nat→Nat×Nat}
theorem Ti (hl:l.ok) (hV:0≤V∧V<18446744073709551616) (qm:0≤yl∧yl≤1000000) (hS:ah w (dl (Ig l aO kv kw pos ee aG bA bz bu (.slice aX aT aY) (.slice aL aK aF) (.slice (some ⟨aI,aH,none⟩) (aD) (aQ)) af ay aA aj yl ym yn yo yc ye)) zI τ):Goes 281 τ V dn xa xn xc w zI zH (Ic l aO kv kw pos ee (yl+16) 8 yo 0 sZ (.slice aL aK aF) (.slice (some ⟨aI,aH,none⟩) (aD) (aQ)) af ay aA aj yl ym yn yo yc ye):=by
 letI:bH:=dw hS [iW V,.bool dn,.slice (xa) (xn) (xc),iL (yl+16)]
 have hlb:=hl.bounds
 have hR:dN T0 [⟨(10,3,3),[sym 23,iL 16],sym 32⟩]:=r6 .add yl 16 (iL (yl+16)) (aJ wq) gn
 exact bL mH mG 29 [jJ,(247,[iL 2,sym 32,iL 8,sym 26,uZ,sZ,qF 201 [qP 46]]++dM++[sym 17,sym 18,sym 19,sym 20,sym 21,sym 22,.bool true,.bool false,iL 10]),Nn,bU,kU,mE,(3,[iL 2]),mD,bU,lJ,(32,[sZ]),zz,xh,bU] [0,1,46,29,30,31,32,33,8,9,10,11,12,13] hR qn fn0 (fun _ _=>trivial) hS
theorem Tg (hl:l.ok) (hV:0≤V∧V<18446744073709551616) (qm:0≤yl∧yl≤1000000) (hS:ah w (dl (Ie l aO kv kw pos ee aG bA bz bu (.slice aX aT aY) (.slice aL aK aF) (.slice (some ⟨aI,aH,none⟩) (aD) (aQ)) af ay aA aj yl ym yn yo yc (.slice ys yu yt) ye y0 y1 y2)) sS τ):Goes 281 τ V dn xa xn xc w sS mX (Dg l aO kv kw pos ee (yl+24) 8 0 0 sZ (.slice aL aK aF) (.slice (some ⟨aI,aH,none⟩) (aD) (aQ)) af ay aA aj yl ym yn yo yc (.slice ys yu yt) ye y0 y1 y2):=by
 letI:bH:=dw hS [iW V,.bool dn,.slice (xa) (xn) (xc),iL (yl+24)]
 have hlb:=hl.bounds
 have hR:dN T0 [⟨(10,3,3),[sym 23,iL 24],sym 36⟩]:=r6 .add yl 24 (iL (yl+24)) (aJ wq) gn
 exact bL mH mG 33 [jJ,(247,[iL 2,sym 36,iL 8,uZ,uZ,sZ,qF 201 [qP 49]]++dM++[sym 17,sym 18,sym 19,sym 20,sym 21,sym 22,.bool true,.bool false,iL 10]),Np,bU,kU,mE,(3,[iL 3]),mD,bU,lJ,xm,xk,uW,bU,qg,uV,uU] [0,1,49,32,33,34,35,36,8,9,10,11,12,13,14,15,16] hR qn fn0 (fun _ _=>trivial) hS
theorem Tf (hl:l.ok) (hV:0≤V∧V<18446744073709551616) (kX:0≤az∧az<2147483647) (e0:dn=true) (hS:ah w (dl (Di l aO kv kw pos ee bq bP bM aN az bD aG bA bz bu (.slice aX aT aY) (.slice aL aK aF) (.slice (some ⟨aI,aH,none⟩) (aD) (aQ)) af ay aA aj)) sQ τ):Goes 281 τ V dn xa xn xc w sQ wz (Dh l aO kv kw pos ee (l.base+3*l.term+24) az (az+1) aN az bD aG bA bz bu (.slice aX aT aY) (.slice aL aK aF) (.slice (some ⟨aI,aH,none⟩) (aD) (aQ)) af ay aA aj):=by
 letI:bH:=dw hS [iW V,.bool dn,.slice (xa) (xn) (xc),iL (l.base+3*l.term+24),iW az,iU (az+1),iW (az+1)]
 have hlb:=hl.bounds
 have hD:dG 36=true:=by kernel_rfl
 have hR:dN T0 [⟨(32,4,0),[sym 30],.bool false⟩,⟨(1,155,31),[sym 16],sym 33⟩,⟨(10,155,155),[sym 16,iU 1],sym 34⟩,⟨(1,155,31),[sym 34],sym 35⟩]:=YW dn true e0 (rc .u32 .u64 az az wu64 (ri .add .u32 .u32 az 1 (iU (az+1)) (aJ (ED)) (rc .u32 .u64 (az+1) (az+1) wu64 gn)))
 have hP:gY T0 [(80,[iD],sym 32)]:=pq hD (fun W hW=>iH l hl W) qn
 exact bL mH mG 29 [uT,(272,[iL 4,sym 32,iL 4,sym 33,sym 35,sZ,qF 240 [qP 44]]++dM++[sym 15,sym 16,.bool false,sym 17]),jM,rF,pF,(293,[qF 239 [qP 22]]),jM] [0,1,2,3,4,44,22] hR hP fn0 (fun _ _=>trivial) hS
theorem Te (hl:l.ok) (hV:0≤V∧V<18446744073709551616) (kX:0≤az∧az<2147483647) (e0:¬(dn=true)) (hS:ah w (dl (Di l aO kv kw pos ee bq bP bM aN az bD aG bA bz bu (.slice aX aT aY) (.slice aL aK aF) (.slice (some ⟨aI,aH,none⟩) (aD) (aQ)) af ay aA aj)) sQ τ):Goes 281 τ V dn xa xn xc w sQ qi (zD l aO kv kw pos ee (l.base+3*l.term+((az+1)%3)*8) 0 0 aN az bD aG bA bz bu (.slice aX aT aY) (.slice aL aK aF) (.slice (some ⟨aI,aH,none⟩) (aD) (aQ)) af ay aA aj (l.base+3*l.term+((az+1)%3)*8)):=by
 letI:bH:=dw hS [iW V,.bool dn,.slice (xa) (xn) (xc),iU (az+1),iL ((az+1)%3),iL (l.base+3*l.term+((az+1)%3)*8)]
 have hlb:=hl.bounds
 have hD:dG 35=true:=by kernel_rfl
 have hR:dN T0 [⟨(32,4,0),[sym 30],.bool true⟩,⟨(10,155,155),[sym 16,iU 1],sym 32⟩]:=YW dn false (by simpa using e0) (ri .add .u32 .u32 az 1 (iU (az+1)) (aJ (ED)) gn)
 have hP:gY T0 [(103,[sym 32],sym 33),(78,[iD,sym 33],sym 34)]:=pq hD (fun W hW=>uO (az+1) (by first|exact(bQ _).1|omega) (by first|exact(bQ _).2|omega) W) (pq hD (fun W hW=>gD l hl ((az+1)%3) (by omega) (by omega) W) qn)
 exact bL mH mG 29 [uT,(272,[iL 1,sym 34,iL 8,uZ,uZ,sZ,qF 166 [qP 42]]++dM++[sym 15,sym 16,.bool false,sym 17]),jM,rF,pF,(227,[qF 222 [qP 22,qP 34]]),jM,(3,[sym 34])] [0,1,2,3,4,42,22,34] hR hP fn0 (fun _ _=>trivial) hS
theorem Td (hl:l.ok) (hV:0≤V∧V<18446744073709551616) (hS:ah w (dl (Dh l aO kv kw pos ee bq bP bM aN az bD aG bA bz bu (.slice aX aT aY) (.slice aL aK aF) (.slice (some ⟨aI,aH,none⟩) (aD) (aQ)) af ay aA aj)) wz τ):Goes 281 τ V dn xa xn xc w wz sP (Df l aO kv kw pos 6 0 0 0 aN az dn 0 aG bA bz bu (.slice aX aT aY) (.slice aL aK aF) (.slice (some ⟨aI,aH,none⟩) (aD) (aQ)) af ay aA aj):=by
 letI:bH:=dw hS [iW V,.bool dn,.slice (xa) (xn) (xc)]
 have hlb:=hl.bounds
 have hR:dN T0 []:=gn
 exact bL mH mG 29 [Rv,(272,zA++[.nilFunc]++dM++[sym 15,sym 16,sym 30,iZ]),pF] [0,1,4] hR qn fn0 (fun _ _=>trivial) hS
theorem Tc (hl:l.ok) (hV:0≤V∧V<18446744073709551616) (qm:0≤yl∧yl≤1000000) (hS:ah w (dl (Ic l aO kv kw pos ee aG bA bz bu (.slice aX aT aY) (.slice aL aK aF) (.slice (some ⟨aI,aH,none⟩) (aD) (aQ)) af ay aA aj yl ym yn yo yc ye)) zH τ):Goes 281 τ V dn xa xn xc w zH zG (Ib l aO kv kw pos ee (yl+24) 8 0 0 sZ (.slice aL aK aF) (.slice (some ⟨aI,aH,none⟩) (aD) (aQ)) af ay aA aj yl ym yn yo yc ye):=by
 letI:bH:=dw hS [iW V,.bool dn,.slice (xa) (xn) (xc),iL (yl+24)]
 have hlb:=hl.bounds
 have hR:dN T0 [⟨(10,3,3),[sym 23,iL 24],sym 32⟩]:=r6 .add yl 24 (iL (yl+24)) (aJ wq) gn
 exact bL mH mG 29 [jJ,(247,[iL 2,sym 32,iL 8,uZ,uZ,sZ,qF 201 [qP 46]]++dM++[sym 17,sym 18,sym 19,sym 20,sym 21,sym 22,.bool true,.bool false,iL 10]),Nn,bU,kU,mE,(3,[iL 3]),mD,bU,lJ,(32,[sZ]),zz,xh,bU] [0,1,46,29,30,31,32,33,8,9,10,11,12,13] hR qn fn0 (fun _ _=>trivial) hS
theorem Ta (hl:l.ok) (hV:0≤V∧V<18446744073709551616) (FJ:0≤yc∧yc≤1000000) (Oe:yu≤yt∧yu≤1000) (Od:0≤ye∧ye≤1000000) (e0:((yu:Nat):Int)=0) (hS:ah w (dl (Dg l aO kv kw pos ee aG bA bz bu (.slice aX aT aY) (.slice aL aK aF) (.slice (some ⟨aI,aH,none⟩) (aD) (aQ)) af ay aA aj yl ym yn yo yc (.slice ys yu yt) ye y0 y1 y2)) mX τ):Goes 281 τ V dn xa xn xc w mX je (wu l aO kv kw pos ee yc 4 ye 0 sZ (.slice aL aK aF) (.slice (some ⟨aI,aH,none⟩) (aD) (aQ)) af ay aA aj y0 y1 y2):=by
 letI:bH:=dw hS [iW V,.bool dn,.slice (xa) (xn) (xc),iL (yc+32),iL ((yu:Nat):Int),iW ye]
 have hlb:=hl.bounds
 have hR:dN T0 [⟨(10,3,3),[sym 27,iL 32],sym 36⟩,⟨(4,32,3),[sym 28],sym 37⟩,⟨(21,3,3),[sym 37,iL 0],.bool true⟩,⟨(1,21,31),[sym 29],sym 38⟩]:=r6 .add yc 32 (iL (yc+32)) (aJ wq) (wZ (ys) yu yt 32 5 Tryz.underlying32 (by decide) (r6 .eql (((yu:Nat):Int)) 0 (.bool true) (dK (AO e0)) (rc .i32 .u64 ye ye wu64 gn)))
 exact bL mH mG 33 [jJ,(247,[iL 2,sym 27,iL 4,sym 38,uZ,sZ,qF 201 [qP 57]]++dM++[sym 17,sym 18,sym 19,sym 20,sym 21,sym 22,.bool true,.bool false,iL 10]),uW,bU,qg,uV,uU] [0,1,57,13,14,15,16] hR qn fn0 (fun _ _=>trivial) hS
def Fa:List fE:=[⟨(10,3,3),[sym 27,iL 32],sym 36⟩,⟨(4,32,3),[sym 28],sym 37⟩,⟨(21,3,3),[sym 37,iL 0],.bool false⟩,⟨(41,167,0),[.complex .f32 32 49,iL 0],.pointer (some ⟨49,0,none⟩)⟩,⟨(3,32,6),[sym 28,sym 38,sym 38],sym 39⟩]
theorem S9 (hl:l.ok) (hV:0≤V∧V<18446744073709551616) (FJ:0≤yc∧yc≤1000000) (Oe:yu≤yt∧yu≤1000) (e0:¬(((yu:Nat):Int)=0)) (hS:ah w (dl (Dg l aO kv kw pos ee aG bA bz bu (.slice aX aT aY) (.slice aL aK aF) (.slice (some ⟨aI,aH,none⟩) (aD) (aQ)) af ay aA aj yl ym yn yo yc (.slice ys yu yt) ye y0 y1 y2)) mX τ):Goes 281 τ V dn xa xn xc w mX lK (zC l aO kv kw pos ee (yc+32) (((min yu 8:Nat):Int)) 0 0 (.slice (ys) ((((min yu 8:Nat):Int)).toNat) ((((min yu 8:Nat):Int)).toNat)) (.slice aL aK aF) (.slice (some ⟨aI,aH,none⟩) (aD) (aQ)) af ay aA aj (yc+32) (((min yu 8:Nat):Int)) (.slice ys yu yt) yc ye y0 y1 y2):=by
 letI:bH:=dw hS [iW V,.bool dn,.slice (xa) (xn) (xc),iL (yc+32),iL ((yu:Nat):Int),iL ((min yu 8:Nat):Int),.slice (ys) ((((min yu 8:Nat):Int)).toNat) ((((min yu 8:Nat):Int)).toNat)]
 have hlb:=hl.bounds
 have hlm:=jA hl
 have hD:dG 40=true:=by kernel_rfl
 have hR:dN T0 Fa:=r6 .add yc 32 (iL (yc+32)) (aJ wq) (wZ (ys) yu yt 32 5 Tryz.underlying32 (by decide) (r6 .eql (((yu:Nat):Int)) 0 (.bool false) (dK (uh e0)) (Qb 49 (P9 (ys) yu yt .i64 .i64 (((min yu 8:Nat):Int)) (((min yu 8:Nat):Int)) (by omega) gn))))
 have hF:xM mH mG Fa T0 (ownB mX τ) [⟨226,[sym 37],AS.newRow 3 [sym 38],fun i => .complex .f32 32 i⟩]:=yK hD yu (by omega) fn0
 exact bL mH mG 33 [jJ,(247,[iL 6,sym 36,sym 38,uZ,uZ,sym 39,qF 227 [qP 45,qP 46,qP 50,qP 47,qP 48]]++dM++[sym 17,sym 18,sym 19,sym 20,sym 21,sym 22,.bool true,.bool false,iL 10]),(171,[qP 1]),(3,[sym 36]),(3,[sym 38]),xm,(1,[qF 221 [qP 8,qP 9,qP 11,qP 12]]),bU,lJ,xk,uW,bU,qg,uV,uU] [0,1,45,46,50,47,48,8,9,11,12,13,14,15,16] hR qn hF (fun _ _=>trivial) hS
theorem SY (hl:l.ok) (hV:0≤V∧V<18446744073709551616) (hS:ah w (dl (Df l aO kv kw pos ee bq bP bM aN az rE bD aG bA bz bu (.slice aX aT aY) (.slice aL aK aF) (.slice (some ⟨aI,aH,none⟩) (aD) (aQ)) af ay aA aj)) sP τ):Goes 281 τ V dn xa xn xc w sP sP (Df l aO kv kw pos ee bq bP bM aN az rE bD aG bA bz bu (.slice aX aT aY) (.slice aL aK aF) (.slice (some ⟨aI,aH,none⟩) (aD) (aQ)) af ay aA aj):=by
 letI:bH:=dw hS [iW V,.bool dn,.slice (xa) (xn) (xc)]
 have hlb:=hl.bounds
 have hR:dN T0 []:=gn
 exact bL mH mG 30 sP [0,1,2] hR qn fn0 (fun _ _=>trivial) hS
theorem SX (hl:l.ok) (hV:0≤V∧V<18446744073709551616) (FJ:0≤yc∧yc≤1000000) (Od:0≤ye∧ye≤1000000) (hS:ah w (dl (Ib l aO kv kw pos ee aG bA bz bu (.slice aX aT aY) (.slice aL aK aF) (.slice (some ⟨aI,aH,none⟩) (aD) (aQ)) af ay aA aj yl ym yn yo yc ye)) zG τ):Goes 281 τ V dn xa xn xc w zG sM (De l aO kv kw pos ee yc 4 ye 0 sZ (.slice aL aK aF) (.slice (some ⟨aI,aH,none⟩) (aD) (aQ)) af ay aA aj):=by
 letI:bH:=dw hS [iW V,.bool dn,.slice (xa) (xn) (xc),iL (yc+32),iW ye]
 have hlb:=hl.bounds
 have hR:dN T0 [⟨(10,3,3),[sym 27,iL 32],sym 32⟩,⟨(1,21,31),[sym 28],sym 33⟩]:=r6 .add yc 32 (iL (yc+32)) (aJ wq) (rc .i32 .u64 ye ye wu64 gn)
 exact bL mH mG 29 [jJ,(247,[iL 2,sym 27,iL 4,sym 33,uZ,sZ,qF 201 [qP 54]]++dM++[sym 17,sym 18,sym 19,sym 20,sym 21,sym 22,.bool true,.bool false,iL 10]),xh,bU] [0,1,54,13] hR qn fn0 (fun _ _=>trivial) hS
theorem SV (hl:l.ok) (hV:0≤V∧V<18446744073709551616) (DN:0<aD∧aD≤1000) (Y9:0≤aA∧aA<4294967296) (XE:0≤aj∧aj≤1000000) (Kr:0≤y0∧y0≤1000000) (Kq:0≤y1∧y1≤1000000) (Ko:0≤y2∧y2+1≤(aD:Int)) (e0:(y2+1)=((aD:Nat):Int)) (hS:ah w (dl (wu l aO kv kw pos ee aG bA bz bu (.slice aX aT aY) (.slice aL aK aF) (.slice (some ⟨aI,aH,none⟩) (aD) (aQ)) af ay aA aj y0 y1 y2)) je τ):Goes 281 τ V dn xa xn xc w je sK (Dc l aO kv kw ((((u32 (ay-l.bG))*l.term)+aA)+aj) 0 0 0 0 0 sZ (.slice aL aK aF) (.slice (some ⟨aI,aH,none⟩) (aD) (aQ)) af ay aA aj):=by
 letI:bH:=dw hS [iW V,.bool dn,.slice (xa) (xn) (xc),iL (y0+y1),iL (y2+1),iL ((aD:Nat):Int),iU (u32 (ay-l.bG)),iL (u32 (ay-l.bG)),iL ((u32 (ay-l.bG))*l.term),iL (((u32 (ay-l.bG))*l.term)+aA),iL ((((u32 (ay-l.bG))*l.term)+aA)+aj)]
 have hlb:=hl.bounds
 have hm0:=nH hl (x:=(u32 (ay-l.bG))) (bQ _).1 (bQ _).2
 have hu0:=bQ (ay-l.bG)
 have hD:dG 37=true:=by kernel_rfl
 have hR:dN T0 [⟨(10,2,2),[sym 23,sym 24],sym 29⟩,⟨(10,3,3),[sym 25,iL 1],sym 30⟩,⟨(4,167,3),[sym 18],sym 31⟩,⟨(21,3,3),[sym 30,sym 31],.bool true⟩,⟨(1,155,2),[sym 32],sym 33⟩,⟨(12,2,2),[sym 33,sym 1],sym 34⟩,⟨(10,2,2),[sym 34,sym 21],sym 35⟩,⟨(10,2,2),[sym 35,sym 22],sym 36⟩]:=r6 .add y0 y1 (iL (y0+y1)) (aJ wq) (r6 .add y2 1 (iL (y2+1)) (aJ wq) (wZ (some ⟨aI,aH,none⟩) aD aQ 167 3 Tryz.underlying167 (by decide) (r6 .eql (y2+1) (((aD:Nat):Int)) (.bool true) (dK (AO e0)) (rc .u32 .i64 (u32 (ay-l.bG)) (u32 (ay-l.bG)) wq (r6 .mul (u32 (ay-l.bG)) l.term (iL ((u32 (ay-l.bG))*l.term)) (gJ wq) (r6 .add ((u32 (ay-l.bG))*l.term) aA (iL (((u32 (ay-l.bG))*l.term)+aA)) (aJ wq) (r6 .add (((u32 (ay-l.bG))*l.term)+aA) aj (iL ((((u32 (ay-l.bG))*l.term)+aA)+aj)) (aJ wq) gn)))))))
 have hP:gY T0 [(182,[sym 20,sym 4],sym 32)]:=pq hD (args :=#[iI ay,iI l.bG]) (fun W hW=>countB _ _ W) qn
 exact bL mH mG 26 [(203,[iZ,sym 7,iZ,sym 8,sym 9,sZ,.nilFunc,.iface 201 (qP 1),.nilFunc]++dM++[qP 1,sym 36,iZ]),(247,zA++[.nilFunc]++dM++[sym 17,sym 18,sym 19,sym 20,sym 21,sym 22,.bool true,.bool false,iZ])] [0,1] hR hP fn0 (fun _ _=>trivial) hS
end
end Go.Proofs.YtlaogoehmndcjaaGreatDoor.Sy
