import Derived.Test.YtlaogoehmndcjaaGreatDoorZ33
import Derived.Test.YtlaogoehmndcjaaGreatDoorZ36
set_option maxRecDepth 100000
set_option linter.unusedVariables false
set_option maxHeartbeats 4000000
set_option linter.unusedSectionVars false
set_option linter.unusedSimpArgs false
namespace Go.Proofs.YtlaogoehmndcjaaGreatDoor.Sy
open Go RowKit Lib AS Base Ba
noncomputable section
abbrev J3:List Nat:=[28,36,57,58,81,94,95,100,116,126]
abbrev J2:List Nat:=[1,2,3,4,23,31,32,34,39,49,76,95,126,136,138,171,201,203,208,209,211,227]
theorem Bi {X:List Value} {R:List fE} {pl:om} {fr:List Fr} {Tw:World→Prop} (fs ts:List Nat) {f:FuncId} (args:List Value) {A':dU} (K:dU) (ids oQ:List Nat) (qs:List (Value→Nat→Obj→Prop)) (v:Value) {args':Array Value} {L':(Nat→Value)→List Value} {w:World}
 (hR : @dN ⟨dl X⟩ Tw R) (hP : @gY ⟨dl X⟩ Tw pl) (hF : @xM ⟨dl X⟩ fs ts R Tw (fun _=>False) fr []) (hT:∀w',Below w.heap.size w w'→Tw w') (hw:1≤w.heap.size)
 (hm:∀V bf,K.map (fun p=>(p.1,p.2.map (im (dx (dl X) V) bf)))=A'.map (fun p=>(p.1,p.2.map (im (dl (L' V)) fun k=>bf (ids.getD k 0)))):=by intro _ _;kernel_rfl)
 (hrun:xR 0 (eB (dz Tryz.prog fs ts R Tw) (jf fr (jD pl)) 60 40 (.fn f) args (kI [])) ids oQ=[(v,true,K.map some,qs.map some)]:=by kernel_rfl)
 (hD:((List.range X.length).all fun i=>(dl X i).oneCell')=true:=by kernel_rfl)
 (h1:(args.all (within X.length 0 DP)&&lI DP v&&K.all (fun p=>p.2.all (lI DP))&&ids.Nodup&&ids.length==K.length&&A'.length==K.length&&oQ.all (fun i=>Nat.ble 0 i))=true:=by kernel_rfl)
 (ha:(args.map (im (dl X) bI)).toArray=args':=by kernel_rfl)
 (hv:∀V bf,im (dx (dl X) V) bf v =.pointer (some ⟨(bf (ids.getD 0 0)).1,(bf (ids.getD 0 0)).2+0,none⟩):=by intro _ _;kernel_rfl) :
 Calls Tryz.prog f args' w fun e w'=>∃bf V,e =.returned (.pointer (some ⟨(bf 0).1,(bf 0).2+0,none⟩))∧ah w' (dl (L' V)) A' bf∧bK [] bI w A' bf w'∧∀(k i:Nat) (q:Value→Nat→Obj→Prop),oQ[k]? = some i→qs[k]? = some q→mV A' bf w w' q (V i):=by
 simp only[Bool.and_eq_true,decide_eq_true_eq,beq_iff_eq]at h1
 obtain⟨⟨⟨⟨⟨⟨a2,a3⟩,a5⟩,a6⟩,a7⟩,a8⟩,a11⟩:=h1
 letI:bH:=⟨dl X⟩
 have key:=CY mixed (own:=fun _=>False) (dl X) hD hR (fun _ _ h=>by cases h) (S:=jf fr (jD pl)) (fun w0 h0=>rq (fun σ m w hM=>h0 w hM.below) hF (nD (fun σ m w hM=>h0 w hM.below) hP)) (A:=[]) (by rfl) a2 (by rfl) a3 hrun (by rw[List.all_map];exact List.all_eq_true.2 fun _ _=>rfl) (by rw[List.length_map,a7]) a11 (w:=w) (τ:=bI) (fun w' hk=>hT w' hk.below) (fun i hi=>absurd hi (Nat.not_lt_zero _)) ⟨fun i p h=>by simp at h,fun i j h=>absurd h (Nat.not_lt_zero _),fun i h=>absurd h (Nat.not_lt_zero _)⟩
 rw[ha]at key
 refine key.mono ?_
 rintro e w' ⟨bf,V,rfl,h,hq⟩
 refine⟨_,V,by rw[hv],h.stands (fun i hi=>absurd hi (Nat.not_lt_zero _)) hw a5 a6 a7 (hm V bf),h.moved a7 a8,fun k i q hk hi => ?_⟩
 obtain⟨b,ob,b1,b2,b3,b4⟩:=hq k i q hk hi
 refine⟨b,ob,b1,b2,b3,fun j hj=>b4 _ ?_⟩
 have hj':j<ids.length:=by omega
 simp only[List.getD,List.getElem?_eq_getElem hj',Option.getD_some]
 exact List.getElem_mem hj'
theorem AA (l:Lg) (hw:l.wf) (hn:¬l.ok) (W:World):Calls Tryz.prog 36 #[l.val] W fun e w'=>e =.returned (iL 1)∧Below W.heap.size W w':=by
 have h:=Cs l hw W
 rw[tQ hn]at h
 exact h
theorem QV (l:Lg) (n:Int) (hw:l.wf) (h0:0≤n) (e0:¬(l.ok)) (w:World):Calls Tryz.prog 137 #[l.val,iL n] w fun e w'=>e =.returned (.tuple #[sZ,iL 1])∧Below w.heap.size w w':=by
 letI:bH:=⟨dl (iN l++[iL n])⟩
 have hD:dG 8=true:=by kernel_rfl
 have hR:dN T0 []:=gn
 have hP:gY T0 [(36,[iD],iL 1)]:=pq hD (fun W hW=>AA l hw e0 W) (qn)
 exact zn (D:=dl (iN l++[iL n])) [36,137] [23] [iD,sym 7] (.tuple #[sZ,iL 1]) hD hR hP (fn0 (fs:=[36,137]) (ts:=[23]) (R:=[])) (fun _ _=>trivial)
theorem LK (l:Lg) (n:Int) (hw:l.wf) (h0:0≤n) (e0:l.ok) (e1:n>(l.term/8)) (w:World):Calls Tryz.prog 137 #[l.val,iL n] w fun e w'=>e =.returned (.tuple #[sZ,iL 4])∧Below w.heap.size w w':=by
 letI:bH:=⟨dl (iN l++[iL n,iL (l.term/8)])⟩
 have hD:dG 9=true:=by kernel_rfl
 have hR:dN T0 [⟨(23,3,3),[sym 7,iZ],.bool false⟩,⟨(25,3,3),[sym 7,sym 8],.bool true⟩]:=r6 .lss n 0 (.bool false) (iG (tQ (by omega))) (r6 .gtr n (l.term/8) (.bool true) (jZ (Ah e1)) (gn))
 have hP:gY T0 [(36,[iD],iZ),(181,[iD],sym 8)]:=pq hD (fun W hW=>eT l e0 W) (pq hD (fun W hW=>zM l e0 W) (qn))
 exact zn (D:=dl (iN l++[iL n,iL (l.term/8)])) [36,137,181] [23] [iD,sym 7] (.tuple #[sZ,iL 4]) hD hR hP (fn0 (fs:=[36,137,181]) (ts:=[23]) (R:=[⟨(23,3,3),[sym 7,iZ],.bool false⟩,⟨(25,3,3),[sym 7,sym 8],.bool true⟩])) (fun _ _=>trivial)
theorem Lp (l:Lg) (n:Int) (hw:l.wf) (h0:0≤n) (e0:l.ok) (e1:n>l.term/8) (w:World):Calls Tryz.prog 94 #[l.val,iL n] w fun e w'=>e =.returned (.tuple #[iZ,iL 4])∧Below w.heap.size w w':=by
 letI:bH:=⟨dl (iN l++[iL n])⟩
 have hD:dG 8=true:=by kernel_rfl
 have hR:dN T0 []:=gn
 have hP:gY T0 [(137,[iD,sym 7],.tuple #[sZ,iL 4])]:=pq hD (fun W hW=>LK l n hw h0 e0 e1 W) (qn)
 exact zn (D:=dl (iN l++[iL n])) [94,137] [23] [iD,sym 7] (.tuple #[iZ,iL 4]) hD hR hP (fn0 (fs:=[94,137]) (ts:=[23]) (R:=[])) (fun _ _=>trivial)
theorem Ql (l:Lg) (n:Int) (hw:l.wf) (h0:0≤n) (e0:¬(l.ok)) (w:World):Calls Tryz.prog 94 #[l.val,iL n] w fun e w'=>e =.returned (.tuple #[iZ,iL 1])∧Below w.heap.size w w':=by
 letI:bH:=⟨dl (iN l++[iL n])⟩
 have hD:dG 8=true:=by kernel_rfl
 have hR:dN T0 []:=gn
 have hP:gY T0 [(137,[iD,sym 7],.tuple #[sZ,iL 1])]:=pq hD (fun W hW=>QV l n hw h0 e0 W) (qn)
 exact zn (D:=dl (iN l++[iL n])) [94,137] [23] [iD,sym 7] (.tuple #[iZ,iL 1]) hD hR hP (fn0 (fs:=[94,137]) (ts:=[23]) (R:=[])) (fun _ _=>trivial)
theorem WE {l:Lg} {ba:Option Addr} {bn bc:Nat} (hw:l.wf) (hbn:bn≤1000) (e0:l.ok) (e1:((bn:Nat):Int)>l.term/8) {w:World} (hw1:1≤w.heap.size)  : Calls Tryz.prog 57 #[l.val,.slice (ba) (bn) (bc)] w fun e w'=>∃bf,∃VV:Nat→Value,e =.returned (.pointer (some ⟨(bf 0).1,(bf 0).2+0,none⟩))∧ah w' (dl (qh l 0 0 0 0 4)) kH bf∧bK [] bI w kH bf w':=by
 letI:bH:=⟨dl (iN l++[.slice (ba) (bn) (bc),iL ((bn:Nat):Int)])⟩
 have hlb:=e0.bounds
 have hlm:=jA e0
 have hD:dG 9=true:=by kernel_rfl
 have hR:dN T0 [⟨(4,32,3),[sym 7],sym 8⟩]:=wZ (ba) bn bc 32 5 Tryz.underlying32 (by decide) (gn)
 have hP:gY T0 [(94,[iD,sym 8],.tuple #[iZ,iL 4])]:=pq hD (fun W hW=>Lp l ((bn:Nat):Int) hw (by omega) e0 e1 W) (qn)
 refine(Bi J3 J2 [iD,sym 7] [(203,zA++[.nilFunc,.nilIface,.nilFunc]++dM++[.pointer none,iZ,iL 4])] [2] [] [] (qP 2) hR hP fn0 (fun _ _=>trivial) hw1 (A':=kH) (L':=fun(VV:Nat→Value)=>(qh l 0 0 0 0 4))).mono ?_
 rintro e w' ⟨bf,VV,h0,h1,h2,_⟩
 exact⟨bf,VV,h0,h1,h2⟩
theorem WC {l:Lg} {ba:Option Addr} {bn bc:Nat} (hw:l.wf) (hbn:bn≤1000) (e0:l.ok) (e1:¬(((bn:Nat):Int)>l.term/8)) (e2:ba=none) {w:World} (hw1:1≤w.heap.size)  : Calls Tryz.prog 57 #[l.val,.slice (ba) (bn) (bc)] w fun e w'=>∃bf,∃VV:Nat→Value,e =.returned (.pointer (some ⟨(bf 0).1,(bf 0).2+0,none⟩))∧ah w' (dl (BU l (l.base+3*l.term+32) 0 0 0 10 (bB (aP l) 40 ((bn:Nat):Int)) sZ)) pG bf∧bK [] bI w pG bf w':=by
 letI:bH:=⟨dl (iN l++[.slice (ba) (bn) (bc),iL ((bn:Nat):Int),iL (bB (aP l) 40 ((bn:Nat):Int)),iL (l.base+3*l.term+32)])⟩
 have hlb:=e0.bounds
 have hlm:=jA e0
 have hnd:=lD (aP l) ⟨(jA e0).1,(jA e0).2.1⟩ 40 ((bn:Nat):Int) (by omega) (by omega) (by omega)
 have hD:dG 11=true:=by kernel_rfl
 have hR:dN T0 [⟨(4,32,3),[sym 7],sym 8⟩]:=wZ (ba) bn bc 32 5 Tryz.underlying32 (by decide) (gn)
 have hP:gY T0 [(94,[iD,sym 8],.tuple #[sym 9,iZ]),(28,[sym 7],sZ),(81,[iD],sym 10)]:=pq hD (fun W hW=>J6 l e0 bn (by omega) W) (pq hD (args :=#[.slice (ba) (bn) (bc)]) (fun W hW=>by rw[e2];exact wK _ _ W) (pq hD (fun W hW=>mK l e0 W) (qn)))
 refine(Bi J3 J2 [iD,sym 7] [(203,[iL 1,sym 10,iL 8,uZ,uZ,sZ,qF 166 [qP 20],.iface 171 (qP 2),.nilFunc]++dM++[.pointer none,iZ,iL 10]),(227,[qF 138 [qP 11,qP 12,qP 14,qP 13]]),(171,[qP 2]),(23,dM),(208,[qF 96 [qP 3,qP 0,qP 1]]),(2,[sym 9]),(136,[qP 2]),(23,dM),(32,[sZ])] [2,20,11,12,14,13,3,0,1] [] [] (qP 2) hR hP fn0 (fun _ _=>trivial) hw1 (A':=pG) (L':=fun(VV:Nat→Value)=>(BU l (l.base+3*l.term+32) 0 0 0 10 (bB (aP l) 40 ((bn:Nat):Int)) sZ))).mono ?_
 rintro e w' ⟨bf,VV,h0,h1,h2,_⟩
 exact⟨bf,VV,h0,h1,h2⟩
theorem WA {l:Lg} {ba:Option Addr} {bn bc:Nat} (hw:l.wf) (hbn:bn≤1000) (e0:l.ok) (e1:¬(((bn:Nat):Int)>l.term/8)) (e2:¬(ba=none)) {w:World} (hw1:1≤w.heap.size) {B:List Nat} (hBl:B.length=bn) (hB:∀x∈B,x<256) (hT:∀w',Below w.heap.size w w'→fK w' ba B):Calls Tryz.prog 57 #[l.val,.slice (ba) (bn) (bc)] w fun e w'=>∃bf,∃VV:Nat→Value,e =.returned (.pointer (some ⟨(bf 0).1,(bf 0).2+0,none⟩))∧ah w' (dl (BU l (l.base+3*l.term+32) 0 0 0 10 (bB (aP l) 40 ((bn:Nat):Int)) (VV 4))) pG bf∧bK [] bI w pG bf w'∧mV pG bf w w' (qB bn B) (VV 4):=by
 letI:bH:=⟨dl (iN l++[.slice (ba) (bn) (bc),iL ((bn:Nat):Int),iL (bB (aP l) 40 ((bn:Nat):Int)),iL (l.base+3*l.term+32)])⟩
 have hlb:=e0.bounds
 have hlm:=jA e0
 have hnd:=lD (aP l) ⟨(jA e0).1,(jA e0).2.1⟩ 40 ((bn:Nat):Int) (by omega) (by omega) (by omega)
 have hD:dG 11=true:=by kernel_rfl
 have hR:dN (fun W=>fK W ba B) [⟨(4,32,3),[sym 7],sym 8⟩]:=wZ (ba) bn bc 32 5 Tryz.underlying32 (by decide) (gn)
 have hP:gY (fun W=>fK W ba B) [(94,[iD,sym 8],.tuple #[sym 9,iZ]),(81,[iD],sym 10)]:=pq hD (fun W hW=>J6 l e0 bn (by omega) W) (pq hD (fun W hW=>mK l e0 W) (qn))
 have hF:xM J3 J2 [⟨(4,32,3),[sym 7],sym 8⟩] (fun W=>fK W ba B) (fun _=>False) [⟨28,[sym 7],.dyn (qB bn B),fun i => .complex .f32 31 i⟩]:=Ac hD (ba) (bn) (bc) B hBl (by omega) hB e2 (fun w hw=>hw) (fn0)
 refine(Bi J3 J2 [iD,sym 7] [(203,[iL 1,sym 10,iL 8,uZ,uZ,sZ,qF 166 [qP 21],.iface 171 (qP 2),.nilFunc]++dM++[.pointer none,iZ,iL 10]),(227,[qF 138 [qP 12,qP 13,qP 15,qP 14]]),(171,[qP 2]),(23,dM),(208,[qF 96 [qP 3,qP 0,qP 1]]),(2,[sym 9]),(136,[qP 2]),(23,dM),(32,[.complex .f32 31 4])] [2,21,12,13,15,14,3,0,1] [4] [(qB bn B)] (qP 2) hR hP hF (hT) hw1 (A':=pG) (L':=fun(VV:Nat→Value)=>(BU l (l.base+3*l.term+32) 0 0 0 10 (bB (aP l) 40 ((bn:Nat):Int)) (VV 4)))).mono ?_
 rintro e w' ⟨bf,VV,h0,h1,h2,hq⟩
 exact⟨bf,VV,h0,h1,h2,hq (0) (4) _ rfl rfl⟩
theorem Wz {l:Lg} {ba:Option Addr} {bn bc:Nat} (hw:l.wf) (hbn:bn≤1000) (e0:¬(l.ok)) {w:World} (hw1:1≤w.heap.size)  : Calls Tryz.prog 57 #[l.val,.slice (ba) (bn) (bc)] w fun e w'=>∃bf,∃VV:Nat→Value,e =.returned (.pointer (some ⟨(bf 0).1,(bf 0).2+0,none⟩))∧ah w' (dl (qh l 0 0 0 0 1)) kH bf∧bK [] bI w kH bf w':=by
 letI:bH:=⟨dl (iN l++[.slice (ba) (bn) (bc),iL ((bn:Nat):Int)])⟩
 have hD:dG 9=true:=by kernel_rfl
 have hR:dN T0 [⟨(4,32,3),[sym 7],sym 8⟩]:=wZ (ba) bn bc 32 5 Tryz.underlying32 (by decide) (gn)
 have hP:gY T0 [(94,[iD,sym 8],.tuple #[iZ,iL 1])]:=pq hD (fun W hW=>Ql l ((bn:Nat):Int) hw (by omega) e0 W) (qn)
 refine(Bi J3 J2 [iD,sym 7] [(203,zA++[.nilFunc,.nilIface,.nilFunc]++dM++[.pointer none,iZ,iL 1])] [2] [] [] (qP 2) hR hP fn0 (fun _ _=>trivial) hw1 (A':=kH) (L':=fun(VV:Nat→Value)=>(qh l 0 0 0 0 1))).mono ?_
 rintro e w' ⟨bf,VV,h0,h1,h2,_⟩
 exact⟨bf,VV,h0,h1,h2⟩
theorem Wn {l:Lg} {aO kv kw pos ee:Int} {V:Int} (hV:0≤V∧V<18446744073709551616) {dn:Bool} {xa:Option Addr} {xn xc:Nat}  {w:World} {τ:Nat→Nat×Nat}  (hS:ah w (dl (qh l aO kv kw pos ee)) kH τ):Calls Tryz.prog 281 #[.pointer (some ⟨(τ 0).1,(τ 0).2+0,none⟩),.agg #[iW V,.bool dn,.slice (xa) (xn) (xc)]] w fun e w'=>e =.returned (.tuple #[])∧∃bf,ah w' (dl (qh l aO kv kw pos ee)) kH bf∧bK kH τ w kH bf w'∧bf 0=τ 0:=by
 letI:bH:=⟨dl ((qh l aO kv kw pos ee)++[iW V,.bool dn,.slice (xa) (xn) (xc)])⟩
 have hR:dN T0 []:=gn
 have hP:gY T0 []:=qn
 exact bL [281] [51,126,136,203] 12 [(203,[iZ,sym 7,iZ,sym 8,sym 9,sZ,.nilFunc,.nilIface,.nilFunc]++dM++[.pointer none,sym 10,sym 11])] [0] hR hP fn0 (fun _ _=>trivial) hS
end
end Go.Proofs.YtlaogoehmndcjaaGreatDoor.Sy
namespace Go.Proofs.YtlaogoehmndcjaaGreatDoor.Sy
open Go RowKit Lib AS Base Pr Ba
noncomputable section
def wB {A O:Type} (p:Pr A O) (x:A):Pr A O:=match p with
 | .done o => .done o
 | .ask _ _ k=>k x
theorem dR {A A':dU} {τ:Nat→Nat×Nat} {rt:Nat×Nat} {O:Nat→Prop} {w:World} {D':Nat→Value} {f:FuncId} {args:Array Value} {v:Value} {R:World→(Nat→Prop)→Prop}
 (h:Calls Tryz.prog f args w fun e w'=>e =.returned v∧∃bf,ah w' D' A' bf∧bK A τ w A' bf w'∧bf 0=τ 0) (ho:Own A τ rt O)
 (hr:∀w' bf,ah w' D' A' bf→bK A τ w A' bf w'→Own A' bf rt (Grow O w w')→R w' (Grow O w w')) :
 Calls Tryz.prog f args w fun e w'=>e =.returned v∧jB O w w'∧R w' (Grow O w w'):=by
 refine h.mono ?_
 rintro e w' ⟨rfl,bf,hS,hm,h0⟩
 exact⟨rfl,ho.jL hm,hr w' bf hS hm (ho.step hm h0 hS)⟩
theorem zq (l:Lg) (p off:Int):(aP l).partAt p+off=(l.base+p*l.term)+off:=by
 show l.base+l.term*p+off=_
 rw[Int.mul_comm]
theorem yQ {l:Lg} {s:jU} {off:Int} {first last:Bool} {b:List Nat} {k:Pr An Ot} {c:Nat} (hb:b.length=c) {at_ fl:Int} (ha:(l.base+s.part*l.term)+off=at_) (hf:flagsOf first last=fl):Cg (aP l) s off first last b k=W0 (aS s) at_ (qZ (-(32+(c:Int))) fl 1) (u32 off+4294967296*u32 l.dQ) (u32 l.str+4294967296*u32 s.term) (inT (aS s) (FS (aS s) at_ (32+(c:Int)) k) 200 (at_+32) b):=by
 unfold Cg
 rw[zq,ha,hf,hb]
 rfl
theorem Nf {l:Lg} {s:jU} {k:Pr An Ot} (h:s.off<l.term) {at_:Int} (ha:(l.base+s.part*l.term)+s.off=at_):eO (aP l) s k=W0 (aS s) at_ (qZ (-(l.term-s.off)) 0 0) (u32 s.off+4294967296*u32 l.dQ) (u32 l.str+4294967296*u32 s.term) (FS (aS s) at_ (l.term-s.off) k):=by
 rw[Hr (aP l) s k h,zq,ha]
 rfl
theorem Db {l:Lg} (hl:l.ok) {p:Int} (h:0≤p∧p≤2):0≤p*l.term∧p*l.term≤16384:=by
 have hb:=hl.bounds
 have h2:p=0∨p=1∨p=2:=by omega
 rcases h2 with rfl|rfl|rfl<;>omega
theorem OR.take {l:Lg} (hl:l.ok) {B:List Nat} (hB:∀x∈B,x<256) (hBl:B.length≤1000∧(B.length:Int)≤l.term/8) {q:Nat} (hq:q≤1500) {p:Pr An Ot} {W:World} {rt:Nat×Nat} {O:Nat→Prop} {ka:Option Addr} (h:OR l B (q+1) p ka W rt O) (x:An) (hV:0≤x.v∧x.v<18446744073709551616) {xa:Option Addr} {xn xc:Nat} :
 Calls Tryz.prog 281 #[.pointer (some ⟨rt.1,rt.2+0,none⟩),.agg #[.int .u64 x.v,.bool x.dn,.slice xa xn xc]] W fun e w'=>e =.returned (.tuple #[])∧jB O W w'∧ORx l B q (wB p x) w' rt (Grow O W w'):=by
 have hlb:=hl.bounds
 have hlm:=jA hl
 have hnd:=lD (aP l) ⟨hlm.1,hlm.2.1⟩ 40 (B.length:Int) (by omega) (by omega) (by omega)
 cases h with
 | s0 hS ho hk he hn hr hb hp =>
   obtain⟨rfl,ho'⟩:=ho
   subst hp
   exact dR (Wy hl hV hS) ⟨rfl,ho'⟩ fun w' bf hS' hm ho=>⟨none,.s1 hS' ho ⟨rfl,rfl,rfl⟩ he hn (hr.step hm) hb rfl⟩
 | s1 hS ho hk he hn hr hb hp =>
   obtain⟨rfl,ho'⟩:=ho
   subst hp
   exact dR (Wx hl hV hS) ⟨rfl,ho'⟩ fun w' bf hS' hm ho=>⟨none,.s2 hS' ho ⟨rfl,rfl,rfl⟩ he (bQ _) hn (hr.step hm) hb rfl⟩
 | s2 hS ho hk he hc hn hr hb hp =>
   rename_i aO kv kw pos ee cn lim nd ba bn bc τ
   obtain⟨rfl,ho'⟩:=ho
   subst hp hn hb
   by_cases e0:u32 (bF (x.v/4294967296)-l.bG)=cn
   ·by_cases e1:cn≥2147483648
    ·exact dR (Ww hl hV hc e0 e1 hS) ⟨rfl,ho'⟩ fun w' bf hS' hm ho=>⟨none,.s3 hS' ho he.1 ((if_neg (fun h=>h e0)).trans (if_pos e1))⟩
    ·by_cases e2:cn*l.term+min (x.v%4294967296) l.term<iK lim
     ·have ht:wB (Gr (aP l) (bB (aP l) 40 (B.length:Int)) (kQ (aP l) B) lim cn) x=kQ (aP l) B cn:=(if_neg (fun h=>h e0)).trans ((if_neg e1).trans (if_pos e2))
      by_cases e3:ba=none
      ·refine(Wv hl hV hc ⟨hBl.1,hBl.2⟩ e0 e1 e2 e3 hS).mono ?_
       rintro e w' ⟨rfl,bf,VV,hS',hm,h0,hq1⟩
       have hown:=Own.step ⟨rfl,ho'⟩ hm h0 hS'
       obtain⟨g,cap,hv,hcut⟩:=hq1.cut (O:=O)
       rw[hv]at hS'
       have hB0:B=[]:=by
        cases B with
        | nil=>rfl
        | cons y ys=>obtain⟨_,_,e,_⟩:=hr 0 y rfl;rw[e3]at e;cases e
       subst hB0
       exact⟨rfl,Own.jL ⟨rfl,ho'⟩ hm,none,.s4 hS' hown he ⟨rfl,rfl,rfl,rfl,rfl⟩ ⟨rfl,rfl,rfl,rfl⟩ (by omega) rfl RowK.nil ⟨rfl,Nat.le_refl _⟩ hcut rfl (ht.trans (by unfold kQ;rfl))⟩
      ·refine(Wu hl hV hc ⟨hBl.1,hBl.2⟩ e0 e1 e2 e3 rfl hB (fun w' hk=>hr.kept hk) hS).mono ?_
       rintro e w' ⟨rfl,bf,VV,hS',hm,h0,hq0,hq1⟩
       have hown:=Own.step ⟨rfl,ho'⟩ hm h0 hS'
       obtain⟨g0,cap0,hv0,hc0,hrow⟩:=hq0.row (O:=O)
       obtain⟨g,cap,hv,hcut⟩:=hq1.cut (O:=O)
       rw[hv,hv0]at hS'
       exact⟨rfl,Own.jL ⟨rfl,ho'⟩ hm,none,.s4 hS' hown he ⟨rfl,rfl,rfl,rfl,rfl⟩ ⟨rfl,rfl,rfl,rfl⟩ (by omega) rfl hrow ⟨rfl,hc0⟩ hcut rfl (ht.trans (by unfold kQ;rfl))⟩
     ·by_cases e3:cn*l.term+min (x.v%4294967296) l.term+bB (aP l) 40 (B.length:Int)>l.term*2147483648
      ·exact dR (Wt hl hV hc ⟨by omega,by omega⟩ e0 e1 e2 e3 hS) ⟨rfl,ho'⟩ fun w' bf hS' hm ho=>⟨none,.s3 hS' ho he.1 ((if_neg (fun h=>h e0)).trans ((if_neg e1).trans ((if_neg e2).trans (if_pos e3))))⟩
      ·exact dR (Ws hl hV hc ⟨by omega,by omega⟩ e0 e1 e2 e3 hS) ⟨rfl,ho'⟩ fun w' bf hS' hm ho=>⟨none,.s3 hS' ho he.1 ((if_neg (fun h=>h e0)).trans ((if_neg e1).trans ((if_neg e2).trans (if_neg e3))))⟩
   ·exact dR (Wq hl hV hc e0 hS) ⟨rfl,ho'⟩ fun w' bf hS' hm ho=>⟨none,.s3 hS' ho he.1 (if_pos e0)⟩
 | s3 hS ho he hp =>
   obtain⟨rfl,ho'⟩:=ho
   subst hp
   exact dR (Wp hl hV hS) ⟨rfl,ho'⟩ fun w' bf hS' hm ho=>⟨none,.s3 hS' ho he rfl⟩
 | s4 hS ho he ha hz hpt hn hr hb hc hcn hp =>
   rename_i aO kv kw pos ee aG bA bz bu aX aT aY aL aK aF aI aH aD aQ af ay aA aj pt nd τ
   obtain⟨rfl,ho'⟩:=ho
   subst hp hn hcn
   have hpb:=Db hl hpt
   have hcl:=Aj l.aV 40 (B.length:Int)
   have hcp:=rz l.aV 40 (B.length:Int)
   by_cases e0:x.v%4294967296+bB (aP l) 40 (B.length:Int)≤l.term
   ·have ht:wB (Pr.ask fF (rO ((aP l).fu pt) (bB (aP l) 40 (B.length:Int))) fun raw=>rM (aP l) B (bB (aP l) 40 (B.length:Int)) pt raw.v) x=framesT (aP l) ⟨pt,bF (x.v/4294967296),x.v%4294967296,bB (aP l) 40 (B.length:Int)⟩ 40 true (x.v%4294967296) B:=if_neg (show ¬(x.v%4294967296+bB (aP l) 40 (B.length:Int)>l.term) by omega)
    obtain⟨c,last,k,hci,hcb,hc1,hct,hi1,hlast,hfr,hnx⟩:=O3 hl ⟨pt,bF (x.v/4294967296),x.v%4294967296,bB (aP l) 40 (B.length:Int)⟩ (C:=dH l.aV 40 (B.length:Int)) (F:=39) (i:=0) true (x.v%4294967296) (b:=B) rfl (by omega) hBl.1
    have hfs:=qo (n:=(c:Int)) (by omega) (by omega)
    have TY:aU (c:Int)≤1200:=by unfold aU;omega
    have mk:∀{w':World} {bf:Nat→Nat×Nat} (hm:bK gy τ W mF bf w'),KQ l B w' mF bf (Grow O W w') ⟨pt,bF (x.v/4294967296),x.v%4294967296,bB (aP l) 40 (B.length:Int)⟩ k (x.v%4294967296) (aU (c:Int)) 0 (sD aL aF ((c:Int)).toNat) (aK-((c:Int)).toNat) (aF-((c:Int)).toNat) aI aH (dH l.aV 40 (B.length:Int)).length:=fun hm =>
     ⟨hc.step hm,rfl,⟨by omega,by omega⟩,hpt,(show 0≤x.v%4294967296∧x.v%4294967296<4294967296 by omega),(show 0≤bB (aP l) 40 (B.length:Int)∧bB (aP l) 40 (B.length:Int)≤1000000 by omega),⟨by omega,by omega,by omega,TY⟩,by
       rcases hnx with⟨h1,h2⟩|⟨F',h1,h2,h3,h4⟩
       ·exact .inl ⟨by omega,h2⟩
       ·refine .inr ⟨F',B.drop c,by omega,h2,h3,h4,?_,by rw[List.length_drop,Int.toNat_natCast,hb.1],by rw[Int.toNat_natCast];omega,by rw[List.length_drop];omega⟩
        rw[Int.toNat_natCast]
        exact(hr.step hm).drop (by omega)⟩
    have hT:∀w',Kept (ownB gy τ) W w'→w'.cell? ⟨aI,aH+(0:Int).toNat,none⟩=some (.int .i64 (c:Int)):=fun w' hk=>hc.kept hci hk
    by_cases e1:(0:Int)=((((dH l.aV 40 (B.length:Int)).length:Nat):Int)-1)
    ·have hl1:last=true:=hlast.2 (by omega)
     subst hl1
     refine dR (Wo hl hV (cut:=(c:Int)) ⟨by omega,by omega⟩ ⟨hb.2,by omega⟩ ⟨hcp,by omega⟩ hpt ⟨by omega,by omega⟩ e0 e1 hT hS) ⟨rfl,ho'⟩ fun w' bf hS' hm ho => ?_
     refine⟨none,.s5 hS' ho (k:=k) (b1:=B.take c) he ⟨rfl,rfl,rfl⟩ (mk hm) (by rw[hct];omega) ((hr.step hm).take c) ⟨by rw[hct,Int.toNat_natCast],by rw[Int.toNat_natCast];omega⟩ ⟨by omega,by omega,rfl⟩ ⟨by omega,by omega⟩ (by omega) ?_⟩
     rw[ht,hfr]
     exact yQ hct rfl rfl
    ·have hl1:last=false:=by
      cases last with
      | false=>rfl
      | true=>exact absurd (hlast.1 rfl) (by omega)
     subst hl1
     refine dR (Tz hl hV (cut:=(c:Int)) ⟨by omega,by omega⟩ ⟨hb.2,by omega⟩ ⟨hcp,by omega⟩ hpt ⟨by omega,by omega⟩ e0 e1 hT hS) ⟨rfl,ho'⟩ fun w' bf hS' hm ho => ?_
     refine⟨none,.s5 hS' ho (k:=k) (b1:=B.take c) he ⟨rfl,rfl,rfl⟩ (mk hm) (by rw[hct];omega) ((hr.step hm).take c) ⟨by rw[hct,Int.toNat_natCast],by rw[Int.toNat_natCast];omega⟩ ⟨by omega,by omega,rfl⟩ ⟨by omega,by omega⟩ (by omega) ?_⟩
     rw[ht,hfr]
     exact yQ hct rfl rfl
   ·have ht:wB (Pr.ask fF (rO ((aP l).fu pt) (bB (aP l) 40 (B.length:Int))) fun raw=>rM (aP l) B (bB (aP l) 40 (B.length:Int)) pt raw.v) x=eO (aP l) ⟨pt,bF (x.v/4294967296),x.v%4294967296,bB (aP l) 40 (B.length:Int)⟩ (dh (aP l) ⟨pt,bF (x.v/4294967296),x.v%4294967296,bB (aP l) 40 (B.length:Int)⟩):=if_pos (show(x.v%4294967296+bB (aP l) 40 (B.length:Int)>l.term) by omega)
    by_cases e1:x.v%4294967296≥l.term
    ·have ht2:eO (aP l) ⟨pt,bF (x.v/4294967296),x.v%4294967296,bB (aP l) 40 (B.length:Int)⟩ (dh (aP l) ⟨pt,bF (x.v/4294967296),x.v%4294967296,bB (aP l) 40 (B.length:Int)⟩)=dh (aP l) ⟨pt,bF (x.v/4294967296),x.v%4294967296,bB (aP l) 40 (B.length:Int)⟩:=if_neg (show ¬(x.v%4294967296<l.term) by omega)
     by_cases e2:u32 (bF (x.v/4294967296)-l.bG)≥2147483647
     ·exact dR (Ty hl hV ⟨by omega,by omega⟩ e0 e1 e2 hS) ⟨rfl,ho'⟩ fun w' bf hS' hm ho=>⟨none,.s6 hS' ho he.1 (ht.trans (ht2.trans (uB _ _ e2)))⟩
     ·exact dR (Tx hl hV ⟨by omega,by omega⟩ e0 e1 e2 hS) ⟨rfl,ho'⟩ fun w' bf hS' hm ho=>⟨none,.s7 hS' ho ⟨rfl,(bQ _).1,by omega⟩ rfl he ⟨rfl,rfl,rfl⟩ (ht.trans (ht2.trans (qQ _ _ e2)))⟩
    ·refine dR (Tv hl hV hpt ⟨by omega,by omega⟩ e0 e1 hS) ⟨rfl,ho'⟩ fun w' bf hS' hm ho=>⟨none,.s8 hS' ho he ⟨rfl,rfl,rfl⟩ rfl ⟨by omega,by omega,rfl⟩ ⟨by omega,by omega⟩ (by omega) ?_⟩
     rw[ht]
     exact Nf (show x.v%4294967296<l.term by omega) rfl
 | s5 hS ho he ha hk hb1 hr hd hat hlen hka hp =>
   obtain⟨rfl,ho'⟩:=ho
   subst hp
   exact dR (Tu hl hV ⟨by omega,by omega⟩ hS) ⟨rfl,ho'⟩ fun w' bf hS' hm ho=>⟨none,.s9 hS' ho he ⟨rfl,rfl,rfl⟩ (hk.step hm) hb1 (hr.step hm) hd hat hlen ⟨rfl,rfl⟩ rfl⟩
 | s9 hS ho he ha hk hb1 hr hd hat hlen hka hp =>
   obtain⟨rfl,ho'⟩:=ho
   subst hp
   exact dR (Tm hl hV ⟨by omega,by omega⟩ hS) ⟨rfl,ho'⟩ fun w' bf hS' hm ho=>⟨none,.s12 hS' ho he ⟨rfl,rfl,rfl⟩ (hk.step hm) hb1 (hr.step hm) hd hat hlen ⟨rfl,rfl⟩ rfl⟩
 | s12 hS ho he ha hk hb1 hr hd hat hlen hka hp =>
   obtain⟨rfl,ho'⟩:=ho
   subst hp
   exact dR (Tg hl hV ⟨by omega,by omega⟩ hS) ⟨rfl,ho'⟩ fun w' bf hS' hm ho=>⟨none,.s16 hS' ho he ⟨rfl,rfl,rfl⟩ (hk.step hm) hb1 (hr.step hm) hd hat hlen ⟨rfl,rfl⟩ rfl⟩
 | s16 hS ho he ha hk hb1 hr hd hat hlen hka hp =>
   rename_i aO kv kw pos ee aG bA bz bu aX aT aY aL aK aF aI aH aD aQ af ay aA aj at_ x0 x1 x2 at2 da dn dc len fo sz ix τ k b1
   obtain⟨rfl,ho'⟩:=ho
   obtain⟨aad,FL,rfl⟩:=hat
   subst hp
   by_cases e0:((dn:Nat):Int)=0
   ·have hb0:b1=[]:=List.eq_nil_of_length_eq_zero (by omega)
    subst hb0
    refine dR (Ta hl hV ⟨by omega,by omega⟩ ⟨hd.2,by omega⟩ ⟨by omega,by omega⟩ e0 hS) ⟨rfl,ho'⟩ fun w' bf hS' hm ho=>⟨none,.Gz hS' ho he ⟨rfl,rfl,rfl⟩ (hk.step hm) ?_⟩
    show inT _ _ 200 _ []=_
    rw[qY]
   ·refine dR (S9 hl hV ⟨by omega,by omega⟩ ⟨hd.2,by omega⟩ e0 hS) ⟨rfl,ho'⟩ fun w' bf hS' hm ho=>⟨_,.s20 hS' ho he ⟨rfl,rfl,rfl,rfl⟩ ⟨rfl,rfl,rfl⟩ (hk.step hm) (b1:=b1) (f:=200) ⟨hb1,by omega,by omega⟩ (hr.step hm) hd (by rw[←hd.1]) ⟨by omega,by omega,by omega,by omega⟩ hlen rfl⟩
 | s20 hS ho he ha hkb hk hb1 hr hd IC hat hlen hp =>
   rename_i aO kv kw pos ee aG bA bz bu aX aT aY aL aK aF aI aH aD aQ af ay aA aj at_ n8 da dn dc at2 len fo sz ix τ k b1 f
   obtain⟨rfl,ho'⟩:=ho
   obtain⟨f,rfl⟩:∃f',f=f'+1:=⟨f-1,by omega⟩
   have ht:wB (inT (aS ⟨af,ay,aA,aj⟩) (FS (aS ⟨af,ay,aA,aj⟩) at2 len k) (f+1) at_ b1) x=inT (aS ⟨af,ay,aA,aj⟩) (FS (aS ⟨af,ay,aA,aj⟩) at2 len k) f (at_+8) (b1.drop 8):=by
    rw[nK _ _ _ _ _ (fun h=>by rw[h]at hb1;simp at hb1)]
    rfl
   subst hp
   by_cases e0:((dn-n8.toNat:Nat):Int)=0
   ·have hd0:b1.drop 8=[]:=List.drop_eq_nil_of_le (by omega)
    rw[hd0,qY]at ht
    exact dR (SN hl hV ⟨by omega,by omega⟩ ⟨by omega,by omega,by omega⟩ ⟨hd.2,by omega⟩ ⟨by omega,by omega⟩ e0 hS) ⟨rfl,ho'⟩ fun w' bf hS' hm ho=>⟨none,.Gz hS' ho he ⟨rfl,rfl,rfl⟩ (hk.step hm) ht⟩
   ·have h8:n8.toNat=8:=by omega
    refine dR (SL hl hV ⟨by omega,by omega⟩ ⟨by omega,by omega,by omega⟩ ⟨hd.2,by omega⟩ e0 hS) ⟨rfl,ho'⟩ fun w' bf hS' hm ho=>⟨_,.s20 hS' ho he ⟨rfl,rfl,rfl,rfl⟩ ⟨rfl,rfl,rfl⟩ (hk.step hm) (b1:=b1.drop 8) (f:=f) ⟨by rw[List.length_drop];omega,by rw[List.length_drop];omega,by rw[List.length_drop];omega⟩ (by rw[h8];exact(hr.step hm).drop (by omega)) ⟨by rw[List.length_drop];omega,by omega⟩ (by rw[List.length_drop,hd.1,h8]) ⟨by omega,by rw[List.length_drop];omega,by omega,by omega⟩ hlen (ht.trans (by rw[show at_+8=at_+n8 by omega]))⟩
 | Gz hS ho he ha hk hp =>
   rename_i aO kv kw pos ee aG bA bz bu aX aT aY aL aK aF aI aH aD aQ af ay aA aj fo sz ix τ k
   obtain⟨rfl,ho'⟩:=ho
   subst hp
   have hcp:=rz l.aV 40 (B.length:Int)
   have hcl:=Aj l.aV 40 (B.length:Int)
   have hcn:=hk.cn
   have hi0:=hk.i0
   have ho0:=hk.o0
   have hsp:0≤af∧af≤2:=hk.sp
   have hso:0≤aA∧aA<4294967296:=hk.so
   have hss:0≤aj∧aj≤1000000:=hk.ss
   have hpb:=Db hl hsp
   rcases hk.nx with⟨h1,h2⟩|⟨F,b2,h1,h2,h3,h4,hr,h5,h6,h7⟩
   ·subst h2
    exact dR (SV hl hV ⟨by omega,by omega⟩ hso hss ⟨by omega,by omega⟩ ⟨by omega,by omega⟩ hi0 h1 hS) ⟨rfl,ho'⟩ fun w' bf hS' hm ho=>⟨none,.JE hS' ho rfl⟩
   ·subst h2
    obtain⟨i,hi⟩:=Int.eq_ofNat_of_zero_le hi0.1
    subst hi
    rw[show((i:Int)+1).toNat=i+1 by omega]at h3
    obtain⟨c,last,k',hci,hcb,hc1,hct,hi1,hlast,hfr,hnx⟩:=O3 hl ⟨af,ay,aA,aj⟩ (C:=dH l.aV 40 (B.length:Int)) (F:=F) (i:=i+1) false (fo+sz) (b:=b2) h3 h4 h7
    have hfs:=qo (n:=(c:Int)) (by omega) (by omega)
    have TY:aU (c:Int)≤1200:=by unfold aU;omega
    have mk:∀{w':World} {bf:Nat→Nat×Nat} (hm:bK je τ W mF bf w'),KQ l B w' mF bf (Grow O W w') ⟨af,ay,aA,aj⟩ k' (fo+sz) (aU (c:Int)) ((i:Int)+1) (sD aL aF ((c:Int)).toNat) (aK-((c:Int)).toNat) (aF-((c:Int)).toNat) aI aH aD:=fun hm =>
     ⟨hk.cu.step hm,hcn,⟨by omega,by omega⟩,hsp,hso,hss,⟨by omega,by omega,by omega,TY⟩,by
       rcases hnx with⟨g1,g2⟩|⟨F',g1,g2,g3,g4⟩
       ·exact .inl ⟨by omega,g2⟩
       ·refine .inr ⟨F',b2.drop c,by omega,g2,by rw[show((i:Int)+1+1).toNat=i+1+1 by omega];exact g3,g4,?_,by rw[List.length_drop,Int.toNat_natCast,h5],by rw[Int.toNat_natCast];omega,by rw[List.length_drop];omega⟩
        rw[Int.toNat_natCast]
        exact(hr.step hm).drop (by omega)⟩
    have hT:∀w',Kept (ownB je τ) W w'→w'.cell? ⟨aI,aH+((i:Int)+1:Int).toNat,none⟩=some (.int .i64 (c:Int)):=fun w' hkk=>by
     rw[show((i:Int)+1).toNat=i+1 by omega]
     exact hk.cu.kept hci hkk
    have e0:¬((i:Int)+1)=((aD:Nat):Int):=by omega
    by_cases e1:((i:Int)+1)=(((aD:Nat):Int)-1)
    ·have hl1:last=true:=hlast.2 (by omega)
     subst hl1
     refine dR (SS hl hV (cut:=(c:Int)) ⟨by omega,by omega⟩ ⟨h6,by omega⟩ ⟨by omega,by omega⟩ hsp ⟨by omega,by omega⟩ ⟨by omega,by omega⟩ hi0 e0 e1 hT hS) ⟨rfl,ho'⟩ fun w' bf hS' hm ho => ?_
     refine⟨none,.s5 hS' ho (k:=k') (b1:=b2.take c) he ⟨rfl,rfl,rfl⟩ (mk hm) (by rw[hct];omega) ((hr.step hm).take c) ⟨by rw[hct,Int.toNat_natCast],by rw[Int.toNat_natCast];omega⟩ ⟨by omega,by omega,rfl⟩ ⟨by omega,by omega⟩ (by omega) ?_⟩
     show framesT _ _ _ _ _ _=_
     rw[hfr]
     exact yQ hct rfl rfl
    ·have hl1:last=false:=by
      cases last with
      | false=>rfl
      | true=>exact absurd (hlast.1 rfl) (by omega)
     subst hl1
     refine dR (SQ hl hV (cut:=(c:Int)) ⟨by omega,by omega⟩ ⟨h6,by omega⟩ ⟨by omega,by omega⟩ hsp ⟨by omega,by omega⟩ ⟨by omega,by omega⟩ hi0 e0 e1 hT hS) ⟨rfl,ho'⟩ fun w' bf hS' hm ho => ?_
     refine⟨none,.s5 hS' ho (k:=k') (b1:=b2.take c) he ⟨rfl,rfl,rfl⟩ (mk hm) (by rw[hct];omega) ((hr.step hm).take c) ⟨by rw[hct,Int.toNat_natCast],by rw[Int.toNat_natCast];omega⟩ ⟨by omega,by omega,rfl⟩ ⟨by omega,by omega⟩ (by omega) ?_⟩
     show framesT _ _ _ _ _ _=_
     rw[hfr]
     exact yQ hct rfl rfl
 | JE hS ho hp =>
   obtain⟨rfl,ho'⟩:=ho
   subst hp
   exact dR (SH hl hV hS) ⟨rfl,ho'⟩ fun w' bf hS' hm ho=>⟨none,.JE hS' ho rfl⟩
 | s8 hS ho he ha hk hat hlen hka hp =>
   obtain⟨rfl,ho'⟩:=ho
   subst hp
   exact dR (Tn hl hV ⟨by omega,by omega⟩ hS) ⟨rfl,ho'⟩ fun w' bf hS' hm ho=>⟨none,.s11 hS' ho he ⟨rfl,rfl,rfl⟩ hk hat hlen ⟨rfl,rfl⟩ rfl⟩
 | s11 hS ho he ha hk hat hlen hka hp =>
   obtain⟨rfl,ho'⟩:=ho
   subst hp
   exact dR (Ti hl hV ⟨by omega,by omega⟩ hS) ⟨rfl,ho'⟩ fun w' bf hS' hm ho=>⟨none,.s15 hS' ho he ⟨rfl,rfl,rfl⟩ hk hat hlen ⟨rfl,rfl⟩ rfl⟩
 | s15 hS ho he ha hk hat hlen hka hp =>
   obtain⟨rfl,ho'⟩:=ho
   subst hp
   exact dR (Tc hl hV ⟨by omega,by omega⟩ hS) ⟨rfl,ho'⟩ fun w' bf hS' hm ho=>⟨none,.La hS' ho he ⟨rfl,rfl,rfl⟩ hk hat hlen ⟨rfl,rfl⟩ rfl⟩
 | La hS ho he ha hk hat hlen hka hp =>
   obtain⟨rfl,ho'⟩:=ho
   obtain⟨aad,FL,rfl⟩:=hat
   subst hp
   exact dR (SX hl hV ⟨by omega,by omega⟩ ⟨by omega,by omega⟩ hS) ⟨rfl,ho'⟩ fun w' bf hS' hm ho=>⟨none,.G7 hS' ho he ⟨rfl,rfl,rfl⟩ hk rfl⟩
 | G7 hS ho he ha hk hp =>
   rename_i aO kv kw pos ee aG bA bz bu aX aT aY aL aK aF aI aH aD aQ af ay aA aj τ k
   obtain⟨rfl,ho'⟩:=ho
   subst hp hk
   by_cases e0:u32 (ay-l.bG)≥2147483647
   ·exact dR (SK hl hV e0 hS) ⟨rfl,ho'⟩ fun w' bf hS' hm ho=>⟨none,.s6 hS' ho he.1 (uB _ _ e0)⟩
   ·exact dR (SI hl hV e0 hS) ⟨rfl,ho'⟩ fun w' bf hS' hm ho=>⟨none,.s7 hS' ho ⟨rfl,(bQ _).1,by omega⟩ rfl he ⟨rfl,rfl,rfl⟩ (qQ _ _ e0)⟩
 | s6 hS ho he hp =>
   obtain⟨rfl,ho'⟩:=ho
   subst hp
   exact dR (Tt hl hV hS) ⟨rfl,ho'⟩ fun w' bf hS' hm ho=>⟨none,.s6 hS' ho he rfl⟩
 | s7 hS ho hrc hrn he iP hp =>
   rename_i aO kv kw pos ee bq bP bM aN az bD aG bA bz bu aX aT aY aL aK aF aI aH aD aQ af ay aA aj τ
   obtain⟨rfl,ho'⟩:=ho
   subst hp
   have hc:=hrc.1
   by_cases e0:iK x.v<az-1
   ·exact dR (Tq hl hV hrc.2 e0 hS) ⟨rfl,ho'⟩ fun w' bf hS' hm ho=>⟨none,.s6 hS' ho he.1 (if_pos (by rw[hc]at e0;exact e0))⟩
   ·exact dR (Tp hl hV hrc.2 e0 hS) ⟨rfl,ho'⟩ fun w' bf hS' hm ho=>⟨none,.s10 hS' ho (f:=999) hrc hrn he (by omega) ⟨rfl,rfl,rfl,rfl⟩ (if_neg (by rw[hc]at e0;exact e0))⟩
 | s10 hS ho hrc hrn he hf iP hp =>
   rename_i aO kv kw pos ee bq bP bM aN az bD aG bA bz bu aX aT aY aL aK aF aI aH aD aQ af ay aA aj rat τ f
   obtain⟨rfl,ho'⟩:=ho
   obtain⟨f,rfl⟩:∃f',f=f'+1:=⟨f-1,by omega⟩
   have ht:=BK (aP l) ⟨af,ay,aA,aj⟩ (f+1)
   have hcmp:bF (aN-3)=bF (ay+1-3):=by rw[hrn];exact CW _
   obtain⟨h1,rfl,h2⟩:=iP
   subst hp
   by_cases e0:bF (x.v/4294967296)=bF (aN-3)
   ·refine dR (Tk hl hV e0 hS) ⟨rfl,ho'⟩ fun w' bf hS' hm ho=>⟨none,.s13 hS' ho (f:=f) hrc hrn he (by omega) ⟨h1,rfl⟩ ?_⟩
    exact(congrArg (fun p=>wB p x) ht).trans (if_neg (fun h=>h (e0.trans hcmp)))
   ·refine dR (Tj hl hV hrc.2 e0 hS) ⟨rfl,ho'⟩ fun w' bf hS' hm ho=>⟨none,.G9 hS' ho hrc hrn he ⟨rfl,rfl,rfl⟩ ?_⟩
    exact(congrArg (fun p=>wB p x) ht).trans (if_pos (fun h=>e0 (h.trans hcmp.symm)))
 | s13 hS ho hrc hrn he hf iP hp =>
   obtain⟨rfl,ho'⟩:=ho
   subst hp
   by_cases e0:x.dn=true
   ·exact dR (Tf hl hV hrc.2 e0 hS) ⟨rfl,ho'⟩ fun w' bf hS' hm ho=>⟨none,.G9 hS' ho hrc hrn he ⟨rfl,rfl,rfl⟩ (if_pos e0)⟩
   ·exact dR (Te hl hV hrc.2 e0 hS) ⟨rfl,ho'⟩ fun w' bf hS' hm ho=>⟨none,.s10 hS' ho hrc hrn he (by omega) ⟨rfl,rfl,rfl,rfl⟩ (if_neg e0)⟩
 | G9 hS ho hrc hrn he iP hp =>
   obtain⟨rfl,ho'⟩:=ho
   subst hp
   exact dR (Td hl hV hS) ⟨rfl,ho'⟩ fun w' bf hS' hm ho=>⟨none,.G8 hS' ho he.1 rfl⟩
 | Gy hS ho he hp =>
   obtain⟨rfl,ho'⟩:=ho
   subst hp
   exact dR (Wn hV hS) ⟨rfl,ho'⟩ fun w' bf hS' hm ho=>⟨none,.Gy hS' ho he rfl⟩
 | G8 hS ho he hp =>
   obtain⟨rfl,ho'⟩:=ho
   subst hp
   exact dR (SY hl hV hS) ⟨rfl,ho'⟩ fun w' bf hS' hm ho=>⟨none,.G8 hS' ho he rfl⟩
