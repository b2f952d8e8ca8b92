import Derived.Test.YtlaogoehmndcjaaGreatDoorZ18
import Derived.OwnWalk
import Derived.WalkKit
import Derived.Laws.AppendOwn
import Derived.WalkSmall
import Derived.Deep.MidRow
set_option maxRecDepth 1000000
set_option maxHeartbeats 1600000
set_option linter.unusedSectionVars false
set_option linter.unusedVariables false
set_option linter.unusedSimpArgs false
namespace Go.Proofs.YtlaogoehmndcjaaGreatDoor.Sy
open Go RowKit Lib Base Pr Ba
theorem lZ:(Tryz.prog.info? 3).map (fun i=>(i.zero,i.size,i.bytes))=some (some (.int .i64 0),1,8):=by kernel_rfl
def tZ (i r:Nat):List Value:=List.replicate i (.int .i64 8)++if r=0 then[]else[.int .i64 r]
theorem KI (n:Nat) (hn:n≤1000) (w:World):Calls Tryz.prog 164 #[.int .i64 n] w fun e w'=>∃v i r,e =.returned v∧n=8*i+r∧r≤8∧(r=0→i=0)∧w'.ownsRow w.heap.size 3 1 v (i+if r=0 then 0 else 1) (tZ i r)∧Below w.heap.size w w':=by
 obtain⟨i0,hi,hz0,hz1,hz2⟩:=info_parts lZ
 go_enter Tryz.func164,Tryz.ntmps164
 have h0:¬(n:Int)>131072:=by omega
 go_wp2
 go_loopw [0,3] (fun x v wr=>∃i r:Nat,x =.int .i64 (r:Int)∧r≤n∧Hid (n=8*i+r∧(r=0→i=0))∧wr.ownsRow w.heap.size 3 1 v i (List.replicate i (.int .i64 8))∧Below w.heap.size w wr) (fun x _ _=>(intOf x).toNat)
 case atStart=>exact⟨0,n,rfl,by omega,aC ⟨by omega,fun _=>rfl⟩,World.ownsRow_nil _ _ _ _,Below.refl _ _⟩
 case round =>
  obtain⟨i,r,rfl,hrn,HR,hown,hnx⟩:=hrel
  have hi1:i≤125:=by have:=HR.out.1;omega
  have hsz:=hnx.size
  by_cases hlt:r>8
  ·have hlt1:(r:Int)>8:=by omega
   have q1:IntKind.i64.wrap ((r:Int)-8)=((r-8:Nat):Int):=by rw[IntKind.wrap_i64];omega
   go_wp2_with (first
    | (at_builtin;refine wpList_append_own _ rfl _ _ 167 rfl w.heap.size 3 i0 _ 1 8 Tryz.underlying167 hi hz0 hz1 hz2 rfl (by decide) _ _ _ rfl (hown.alloc _) ⟨wr.heap.size,0,none⟩ 1 1 [.int .i64 8] rfl rfl ?k1 ?k2 ?k3 ?k4 ?k5 ?_))
   case k1 =>
    intro j u hj
    rcases j with _|j
    ·injection hj with hj;subst hj;rw[show(⟨wr.heap.size,0,none⟩:Addr).add 0=⟨wr.heap.size,0,none⟩from Addr.add_lit _ _ _,World.cell?_alloc_at _ _ _ _ rfl];rfl
    ·cases hj
   case k2=>first|rfl|(intro u hu;simp at hu;subst hu;rfl)
   case k3=>unfold maxLen;omega
   case k4=>omega
   case k5=>simp;omega
   intro v' w1 hown' hgrow _
   have R:=aC (show w1.ownsRow w.heap.size 3 1 v' (i+1) (List.replicate (i+1) (.int .i64 8))from by rw[List.replicate_succ'];exact hown')
   have B:=aC (show Below w.heap.size w w1 from(hnx.alloc (by omega) _).grown hgrow (by simp;omega) (fun j hj=>(hown.lt j hj).1))
   clear hown' hgrow hown hnx
   go_wp2
   go_roundw
   case rel=>first|exact⟨i+1,r-8,rfl,by omega,aC ⟨by have:=HR.out.1;omega,fun h=>by omega⟩,R.out,B.out⟩|exact⟨_,_,_,_,_,_,_,_,_,⟨i+1,r-8,rfl,by omega,aC ⟨by have:=HR.out.1;omega,fun h=>by omega⟩,R.out,B.out⟩,rfl⟩
   case measure=>simp[intOf];omega
  ·have hlt1:¬(r:Int)>8:=by omega
   by_cases h9:r=0
   ·subst h9
    go_wp2
    exact bodyPost_ret (v:=u3) (by simp[results,Tryz.results164,go_sem]) rfl ⟨_,rfl,i,0,HR.out.1,by omega,fun _=>HR.out.2 trivial,by simp[tZ];exact hown,hnx⟩
   ·have h10:(r:Int)>0:=by omega
    go_wp2_with (first
     | (at_builtin;refine wpList_append_own _ rfl _ _ 167 rfl w.heap.size 3 i0 _ 1 8 Tryz.underlying167 hi hz0 hz1 hz2 rfl (by decide) _ _ _ rfl (hown.alloc _) ⟨wr.heap.size,0,none⟩ 1 1 [.int .i64 r] rfl rfl ?m1 ?m2 ?m3 ?m4 ?m5 ?_))
    all_goals try (first|omega|(unfold maxLen;omega))
    try (case m2=>first|rfl|(intro u hu;simp at hu;subst hu;rfl))
    intro v' w1 hown' hgrow _
    have R:=aC (show w1.ownsRow w.heap.size 3 1 v' (i+if r=0 then 0 else 1) (tZ i r)from by unfold tZ;rw[if_neg h9,if_neg h9];exact hown')
    have B:=aC (show Below w.heap.size w w1 from(hnx.alloc (by omega) _).grown hgrow (by simp;omega) (fun j hj=>(hown.lt j hj).1))
    clear hown' hgrow hown hnx
    go_wp2
    exact bodyPost_ret (v:=v') (by simp[results,Tryz.results164,go_sem]) rfl ⟨_,i,r,rfl,HR.out.1,by omega,HR.out.2,R.out,B.out⟩
end Go.Proofs.YtlaogoehmndcjaaGreatDoor.Sy
namespace Go.Base
open Go Pr
def FS (o:Ot) (at_ len:Int) (k:Pr An Ot):Pr An Ot :=.ask o (store at_ 4 len) fun _=>k
def W3 (o:Ot) (at_:Int) (k:Pr An Ot):Pr An Ot :=.ask o (store (at_+24) 8 0) fun _=>k
def W2 (o:Ot) (at_ w2:Int) (k:Pr An Ot):Pr An Ot :=.ask o (store (at_+16) 8 w2) fun _=>W3 o at_ k
def W1 (o:Ot) (at_ w1 w2:Int) (k:Pr An Ot):Pr An Ot :=.ask o (store (at_+8) 8 w1) fun _=>W2 o at_ w2 k
def W0 (o:Ot) (at_ w0 w1 w2:Int) (k:Pr An Ot):Pr An Ot :=.ask o (store at_ 8 w0) fun _=>W1 o at_ w1 w2 k
theorem vE (l:cO) (o:Ot) (at_ len fl ty off term:Int) (k:Pr An Ot):nM l o at_ len fl ty off term k=W0 o at_ (qZ (-len) fl ty) (Ui l off) (Uh l term) k:=rfl
def Qn (l:cO) (need:Int) (fin:Int→Pr An Ot) (limit c raw:Int):Pr An Ot :=
 if u32 (bF (raw/4294967296)-l.bG)≠c then .done ⟨bW,false,0,6⟩
 else if c≥2147483648 then .done ⟨bW,false,0,7⟩
 else if c*l.term+min (raw%4294967296) l.term<iK limit then fin c
 else if c*l.term+min (raw%4294967296) l.term+need>l.term*2147483648 then .done ⟨bW,false,0,7⟩
 else .done ⟨bW,false,0,5⟩
def Gr (l:cO) (need:Int) (fin:Int→Pr An Ot) (limit c:Int):Pr An Ot :=.ask fF (load (l.fu (c%3)) 8) fun raw=>Qn l need fin limit c raw.v
def O4 (l:cO) (need:Int) (fin:Int→Pr An Ot) (limit:Int):Pr An Ot :=.ask fF (load (l.M+24) 4) fun c=>Gr l need fin limit (u32 c.v)
def xO (s:jU) (e:Int):Pr An Ot :=.done ⟨s,true,0,if e=0∨e=5 then 6 else e⟩
def Sn (l:cO) (s:jU):Pr An Ot :=.ask (aS s) (load (l.M+40) 8) fun x=>if iK x.v<u32 (s.term-l.bG)-1 then xO s 5 else uJ l (aS s) s.term (u32 (s.term-l.bG)) (xO s) 1000
theorem uB (l:cO) (s:jU) (h:u32 (s.term-l.bG)≥2147483647):dh l s =.done ⟨s,true,0,7⟩:=by
 unfold dh ER
 rw[if_pos (by omega)]
 rfl
theorem qQ (l:cO) (s:jU) (h:¬u32 (s.term-l.bG)≥2147483647):dh l s=Sn l s:=by
 unfold dh ER
 rw[if_neg (by omega)]
 rfl
def Sm (l:cO) (s:jU) (f:Nat) (raw:Int):Pr An Ot :=.ask (aS s) (Ed (l.fu ((u32 (s.term-l.bG)+1)%3)) 8 raw (pack (bF (s.term+1)) 0)) fun y=>if y.dn then xQ l (aS s) (u32 (s.term-l.bG)) (xO s)else uJ l (aS s) s.term (u32 (s.term-l.bG)) (xO s) f
theorem BK (l:cO) (s:jU) (f:Nat):uJ l (aS s) s.term (u32 (s.term-l.bG)) (xO s) (f+1) =.ask (aS s) (load (l.fu ((u32 (s.term-l.bG)+1)%3)) 8) fun x=>if bF (x.v/4294967296)≠bF (s.term+1-3)then xQ l (aS s) (u32 (s.term-l.bG)) (xO s)else Sm l s f x.v:=rfl
theorem CW (a:Int):bF (bF (a+1)-3)=bF (a+1-3):=by unfold bF;omega
def rM (l:cO) (b:List Nat) (need part raw:Int):Pr An Ot :=
 let s:=jC part need raw
 if s.off+s.size>l.term then eO l s (dh l s)else framesT l s 40 true s.off b
def kQ (l:cO) (b:List Nat) (c:Int):Pr An Ot :=.ask fF (rO (l.fu (c%3)) (bB l 40 b.length)) fun raw=>rM l b (bB l 40 b.length) (c%3) raw.v
theorem BP (l:cO) (b:List Nat) (h:l.ok) (hb:(b.length:Int)≤l.term/8):fZ l b=yA l (bB l 40 b.length) (kQ l b):=by
 unfold fZ
 rw[if_neg (by simpa using h),if_neg (by omega)]
 rfl
theorem Hr (l:cO) (s:jU) (k:Pr An Ot) (h:s.off<l.term):eO l s k=W0 (aS s) (l.partAt s.part+s.off) (qZ (-(l.term-s.off)) 0 0) (Ui l s.off) (Uh l s.term) (FS (aS s) (l.partAt s.part+s.off) (l.term-s.off) k):=by
 unfold eO frameT
 rw[if_pos h,vE]
 rfl
def flagsOf (first last:Bool):Int:=(if first then 128 else 0)+(if last then 64 else 0)
def Cg (l:cO) (s:jU) (off:Int) (first last:Bool) (b:List Nat) (k:Pr An Ot):Pr An Ot :=
 W0 (aS s) (l.partAt s.part+off) (qZ (-(32+(b.length:Int))) (flagsOf first last) 1) (Ui l off) (Uh l s.term) (inT (aS s) (FS (aS s) (l.partAt s.part+off) (32+(b.length:Int)) k) 200 (l.partAt s.part+off+32) b)
theorem DV (l:cO) (s:jU) (f:Nat) (first:Bool) (off:Int) (b:List Nat) (h:(b.length:Int)≤l.aV):framesT l s (f+1) first off b=Cg l s off first true b (.done ⟨s,true,fI l s,0⟩):=by
 unfold framesT
 rw[if_pos h]
 unfold frameT
 rw[vE]
 cases first<;>rfl
theorem DU (l:cO) (s:jU) (f:Nat) (first:Bool) (off:Int) (b:List Nat) (h:¬(b.length:Int)≤l.aV) (hm:0≤l.aV):framesT l s (f+1) first off b=Cg l s off first false (b.take l.aV.toNat) (framesT l s f false (off+aU l.aV) (b.drop l.aV.toNat)):=by
 rw[framesT,if_neg h]
 unfold frameT Cg
 rw[vE,show((b.take l.aV.toNat).length:Int)=l.aV by rw[List.length_take];omega]
 cases first<;>rfl
theorem qY (o:Ot) (k:Pr An Ot) (f:Nat) (at_:Int):inT o k f at_ []=k:=by
 cases f with
 | zero=>rfl
 | succ f=>rw[inT,if_pos rfl]
theorem nK (o:Ot) (k:Pr An Ot) (f:Nat) (at_:Int) (b:List Nat) (h:b≠[]):inT o k (f+1) at_ b =.ask o (yX at_ (b.take 8)) fun _=>inT o k f (at_+8) (b.drop 8):=by
 rw[inT,if_neg h]
def xW (aW:Bool) (o:Ot) (at_ len:Int) (k:Pr An Ot):Pr An Ot:=if aW then FS o at_ len k else .ask o (store (at_+4) 4 49152) fun _=>FS o at_ len k
def Ch (l:cO) (b:List Nat) (aW:Bool) (s:jU):Pr An Ot :=
 W0 (aS s) (l.partAt s.part+s.off) (qZ (-(32+(b.length:Int))) 192 1) (Ui l s.off) (Uh l s.term) (inT (aS s) (xW aW (aS s) (l.partAt s.part+s.off) (32+(b.length:Int)) (.done ⟨s,true,fI l s,0⟩)) 200 (l.partAt s.part+s.off+32) b)
def AU (l:cO) (b:List Nat) (aW:Bool) (part raw:Int):Pr An Ot :=
 let s:=jC part (aU b.length) raw
 if s.off+s.size>l.term then eO l s (dh l s)else Ch l b aW s
def BG (l:cO) (b:List Nat) (aW:Bool) (c:Int):Pr An Ot :=.ask fF (rO (l.fu (c%3)) (aU b.length)) fun raw=>AU l b aW (c%3) raw.v
theorem Cj (l:cO) (b:List Nat) (aW:Bool) (h:l.ok) (hb:(b.length:Int)≤l.aV):eD l b aW=yA l (aU b.length) (BG l b aW):=by
 unfold eD
 rw[if_neg (by simpa using h),if_neg (by omega)]
 cases aW<;>rfl
end Go.Base
namespace Go.Base
open Go RowKit
structure Ev (w W:World) (b:Nat) (L:List Value):Prop where
 at_:W.rangeAt b 0 L
 frozen:∀a,W.frozen? a=w.frozen? a
 size:W.heap.size=w.heap.size
 cell:∀a:Addr,a.block≠b→W.cell? a=w.cell? a
 block:∀k,k≠b→W.heap[k]? = w.heap[k]?
 below:∀s x,s≤b→Below s x w→Below s x W
theorem Ev.keep {w W:World} {b:Nat} {L:List Value} (h:Ev w W b L) {a:Addr} {v:Value} (ha:w.cell? a=some v) (hb:a.block≠b):W.cell? a=some v:=(h.cell a hb).trans ha
theorem Ev.there {w W:World} {b:Nat} {L:List Value} (h:Ev w W b L) {n:Nat} (hn:n=L.length) (ht:w.there b 0 n):W.there b 0 n:=fun j hj=>by
 refine⟨?_,(h.frozen _).trans (ht j hj).2⟩
 obtain⟨v,hv⟩:∃v,L[j]? = some v:=⟨L[j]'(by omega),List.getElem?_eq_getElem (by omega)⟩
 rw[h.at_ j v hv];rfl
section
variable {P:Program}
end
end Go.Base
namespace Go.Proofs.YtlaogoehmndcjaaGreatDoor.Sy
open Go RowKit Lib Base Pr Ba
variable [Zn]
section
variable {w:World} {tb:Nat} {ga ea:Option Addr} {cap en ec:Nat} {L l:List An} {a:Nat} {x:An} {b:List Nat}
theorem Gp (at_:Int) (h:iE w tb ga cap L a none) (hl:L.drop a=x::l):Calls Tryz.prog 66 #[.pointer (some ⟨tb,0,none⟩),.agg #[.int .i64 6,.int .i64 at_,.int .i64 en,.int .u64 0,.int .u64 0,.slice ea en ec]] w fun e w'=>(∃ba bn bc,e =.returned (.tuple #[.agg #[.int .u64 x.v,.bool x.dn,.slice ba bn bc],.bool true]))∧um w w' tb ga cap L (a+1) none:=by
 obtain⟨hx,hlt,-⟩:=gK hl
 obtain⟨hv,gb,go,ba,bn,bc,rfl,hne,h0,h1,h2⟩:=h.row a x hx
 refine(OH tb gb go L.length cap a 0 0 0 0 0 6 at_ en 0 0 x.v ea en ec x.dn ba bn bc ⟨by omega,by omega⟩ (by have:=h.len;omega) w h.bare hne (by simpa using h0) (by simpa using h1) (by simpa using h2)).mono ?_
 rintro e w' ⟨rfl,hb,ho⟩
 exact⟨⟨_,_,_,rfl⟩,h.told hb ho⟩
theorem Ji (at_:Int) (h:iE w tb ga cap L a none) (hl:L.drop a=[]) (hb:gu w tb ea en b):Calls Tryz.prog 66 #[.pointer (some ⟨tb,0,none⟩),.agg #[.int .i64 6,.int .i64 at_,.int .i64 en,.int .u64 0,.int .u64 0,.slice ea en ec]] w fun e w'=>e =.returned (.tuple #[.agg #[.int .u64 0,.bool false,.slice none 0 0],.bool false])∧um w w' tb ga cap L a (some (yX at_ b)):=by
 refine(OG tb L.length cap ga a 0 0 0 0 0 6 at_ en 0 0 ea en ec (by have:=jT hl;omega) w h.bare).mono ?_
 rintro e w' ⟨rfl,hk,ho⟩
 refine⟨rfl,⟨⟨ea,en,ec,?_,hb.only ho⟩,h.row.only ho,h.len⟩,ho⟩
 show w'.heap[tb]? = some (.cells (uC _ _ 6 at_ (b.length:Int) 0 0 _ true) 36)
 rw[←hb.1]
 exact hk
end
theorem iC {w:World} {base:Nat} {e:TypeId} {size:Nat} {v:Value} {n:Nat} {xs:List Value} (h:w.ownsRow base e size v n xs):∃ca cc,v =.slice ca n cc:=by
 rcases h.2 with⟨rfl,rfl⟩|⟨g,cap,cur,rfl,_⟩
 ·exact⟨_,_,rfl⟩
 ·exact⟨_,_,rfl⟩
theorem gu.sub {w:World} {tb eb eo:Nat} {en:Nat} {b:List Nat} (h:gu w tb (some ⟨eb,eo,none⟩) en b) (k m:Nat) (hk:k+m≤b.length):gu w tb (some ⟨eb,eo+k,none⟩) m ((b.drop k).take m):=by
 refine⟨by simp;omega,fun j x hj => ?_⟩
 have hjm:j<m:=by
  have:=(List.getElem?_eq_some_iff.1 hj).1
  simp at this;omega
 rw[List.getElem?_take,if_pos hjm,List.getElem?_drop]at hj
 obtain⟨eb',eo',e,hne,hc⟩:=h.2 (k+j) x hj
 injection e with e
 injection e with e1 e2
 subst e1 e2
 exact⟨_,_,rfl,hne,by rw[Nat.add_assoc];exact hc⟩
theorem Ga {i r n j Kn:Nat} (hn:n=8*i+r) (hr:r≤8) (hK:(i+if r=0 then 0 else 1)=Kn) (h0:r=0→i=0) (hj:j<Kn):(tZ i r)[j]? = some (.int .i64 ((min 8 (n-8*j):Nat):Int))∧1≤min 8 (n-8*j)∧8*j+min 8 (n-8*j)=min (8*(j+1)) n∧8*j<n:=by
 by_cases hr0:r=0
 ·have:=h0 hr0
  rw[if_pos hr0]at hK
  omega
 ·rw[if_neg hr0]at hK
  refine⟨?_,by omega,by omega,by omega⟩
  unfold tZ
  rw[if_neg hr0]
  rcases Nat.lt_or_ge j i with h1|h1
  ·rw[List.getElem?_append_left (by simpa using h1),List.getElem?_replicate,if_pos h1,show min 8 (n-8*j)=8 by omega];rfl
  ·obtain rfl:j=i:=by omega
   rw[List.getElem?_append_right (by simp),List.length_replicate,Nat.sub_self,show min 8 (n-8*j)=r by omega];rfl
theorem mq {w:World} {base:Nat} {e:TypeId} {v:Value} {n:Nat} {xs:List Value} (h:w.ownsRow base e 1 v n xs) {j:Nat} {u:Value} (hj:xs[j]? = some u):∃g cap,v =.slice (some ⟨g,0,none⟩) n cap∧base≤g∧g<w.heap.size∧n≤cap∧w.cell? ⟨g,0+j,none⟩=some u:=by
 rcases h with⟨hl,⟨rfl,rfl⟩|⟨g,cap,cur,rfl,hb,hg,hn,hm,hs,ht⟩⟩
 ·obtain rfl:xs=[]:=List.eq_nil_of_length_eq_zero (by simpa using hl)
  cases hj
 ·refine⟨g,cap,rfl,hb,(Array.getElem?_eq_some_iff.1 hg).1,hn,?_⟩
  have h1:cur.toList[j]? = some u:=by
   rw[←ht,List.getElem?_take]at hj
   split at hj
   ·exact hj
   ·cases hj
  rw[Array.getElem?_toList]at h1
  simp[World.cell?,hg,h1]
theorem FD {o:Ot} {k:Pr An Ot} {f:Nat} {at_:Int} {b:List Nat} (hb:b≠[]):inT o k (f+1) at_ b =.ask o (yX at_ (b.take 8)) fun _=>inT o k f (at_+8) (b.drop 8):=by
 rw[inT,if_neg hb]
theorem Kj {o:Ot} {k:Pr An Ot} (f:Nat) {at_:Int}:inT o k f at_ []=k:=by
 cases f with
 | zero=>rfl
 | succ f=>rw[inT,if_pos rfl]
theorem inR (o:Ot) (k:Pr An Ot) (b:List Nat) (hb:b.length≤400) (at_:Int) (hat:0≤at_∧at_≤1000000) (eb eo ec:Nat) (QE:b.length≤ec∧ec≤9223372036854775807) (w:World) (tb:Nat) (ga:Option Addr) (cap:Nat) (L:List An) (a:Nat) (ha:a≤L.length) (h:iE w tb ga cap L a none) (hB:gu w tb (some ⟨eb,eo,none⟩) b.length b) :
 Calls Tryz.prog 113 #[.pointer (some ⟨tb,0,none⟩),.int .i64 at_,.slice (some ⟨eb,eo,none⟩) b.length ec] w fun e w'=>(∃a',e =.returned (.bool true)∧a'≤L.length∧at2 (inT o k 200 at_ b) (L.drop a) k (L.drop a')∧um w w' tb ga cap L a' none)∨(∃c K,e =.returned (.bool false)∧(inT o k 200 at_ b).run (L.drop a) =.ask o c K∧(inT o k 200 at_ b).left (L.drop a)=[]∧um w w' tb ga cap L L.length (some c)):=by
 have c164:=KI b.length (by omega)
 obtain⟨T,hT⟩:∃T,inT o k 200 at_ b=T:=⟨_,rfl⟩
 obtain⟨l0,hl0⟩:∃l0,L.drop a=l0:=⟨_,rfl⟩
 have H0:=aC (aR h (aR hB (aR hT hl0)))
 rw[hT,hl0]
 clear h hB hT hl0
 go_enter Tryz.func113,Tryz.ntmps113
 go_wp2_with (first|(go_at_call 164;refine(c164 _).mono ?_;clear c164;rintro e v164 ⟨v,i,r,rfl,hn,Xd,hr0,hown,hB⟩;obtain⟨Kn,hKn⟩:∃Kn,(i+if r=0 then 0 else 1)=Kn:=⟨_,rfl⟩;rw[hKn]at hown;obtain⟨va,vc,rfl⟩:=iC hown;have HC:=aC (aR hn (aR Xd (aR hr0 (aR hKn (aR hown hB)))));clear hn Xd hr0 hKn hown hB))
 go_loopw [1,2,15] (fun x y z wr=>∃(j a':Nat) (l:List An),(j<Kn→x =.int .i64 (at_+8*(j:Int))∧y =.slice (some ⟨eb,eo+8*j,none⟩) (b.length-8*j) (ec-8*j))∧z =.int .i64 (j:Int)∧j≤Kn∧a'≤L.length∧Hid (um v164 wr tb ga cap L a' none∧L.drop a'=l∧at2 T l0 (inT o k (200-j) (at_+8*(j:Int)) (b.drop (8*j))) l)) (fun _ _ z _=>(1000-intOf z).toNat)
 case atStart =>
  obtain⟨h,hB,hT,hl0⟩:=H0.out
  exact⟨0,a,l0,fun _=>⟨by simp,by simp⟩,rfl,Nat.zero_le _,ha,aC ⟨(h.below HC.out.2.2.2.2.2 (Nat.le_refl _)).refl,hl0,by rw[←hT];simpa using AP (inT o k 200 at_ b) l0⟩⟩
 case round =>
  obtain⟨j,a',l,hxy,rfl,hjK,ha',H⟩:=hrel
  have acV:Kn≤60:=by have h1:=HC.out.1;have h2:=HC.out.2.2.2.1;split at h2<;>omega
  by_cases hlt:j<Kn
  ·obtain⟨h1,h2,h3,h4⟩:=Ga HC.out.1 HC.out.2.1 HC.out.2.2.2.1 HC.out.2.2.1 hlt
   obtain⟨g,gc,e,hg0,hg1,hgc,hcl⟩:=mq HC.out.2.2.2.2.1 h1
   injection e with e1 e2 e3
   subst e1
   obtain⟨rfl,rfl⟩:=hxy hlt
   have htb:=H0.out.1.lt
   have Oh:=H.out.1.2.cell (b:=g) (by omega) hcl
   rw[Nat.zero_add]at Oh
   obtain⟨cn,hcn⟩:∃cn,min 8 (b.length-8*j)=cn:=⟨_,rfl⟩
   rw[hcn]at h2 h3 Oh
   have acY:cn≤8∧cn≤b.length-8*j:=by omega
   have htk:(b.drop (8*j)).take 8=(b.drop (8*j)).take cn:=by
    rcases Nat.lt_or_ge (b.length-8*j) 8 with h5|h5
    ·rw[List.take_of_length_le (by simp;omega),List.take_of_length_le (by simp;omega)]
    ·rw[show cn=8 by omega]
   have hbs:=((H0.out.2.1.only (Only.of_below HC.out.2.2.2.2.2)).only H.out.1.2).sub (8*j) cn (by omega)
   have HN:=aC (show b.drop (8*j)≠[]from fun hh=>by have:=congrArg List.length hh;simp at this;omega)
   have q1:IntKind.i64.wrap (j:Int)=(j:Int):=by rw[IntKind.wrap_i64];omega
   have q2:(0:Int)≤(j:Int):=by omega
   have q3:(j:Int)<(Kn:Int):=by omega
   have q4:(0:Int)≤(cn:Int):=by omega
   have q5:(cn:Int)≤((ec-8*j:Nat):Int):=by omega
   have q6:(cn:Int)≤((b.length-8*j:Nat):Int):=by omega
   have q7:IntKind.i64.wrap ((j:Int)+1)=(j:Int)+1:=by rw[IntKind.wrap_i64];omega
   have HF:=aC (aR h1 (aR h2 (aR h3 (aR h4 (aR htk hbs)))))
   clear h1 htk hbs hcl hcn
   rcases l with _|⟨x,l⟩
   ·have YJ:=Ji (ec:=ec-8*j) (at_+8*(j:Int)) H.out.1.1 H.out.2.1 HF.out.2.2.2.2.2
    go_wp2_with (first|(go_at_call 66;refine YJ.mono ?_;clear YJ;rintro e v66 ⟨rfl,hK⟩;have HK:=aC hK;clear hK))
    obtain⟨f,hf⟩:∃f,200-j=f+1:=⟨199-j,by omega⟩
    have FL:=H.out.2.2
    rw[hf,FD HN.out]at FL
    have hd:=jT H.out.2.1
    obtain rfl:a'=L.length:=by omega
    refine bodyPost_ret (v :=.bool false) (by simp[results,Tryz.results113,go_sem]) rfl (.inr ⟨yX (at_+8*(j:Int)) ((b.drop (8*j)).take 8),_,rfl,FL.1,FL.2,?_⟩)
    have hk:=HK.out
    rw[←HF.out.2.2.2.2.1]at hk
    exact(((um.trans (w':=v164) ⟨H0.out.1.below HC.out.2.2.2.2.2 (Nat.le_refl _),Only.of_below HC.out.2.2.2.2.2⟩ H.out.1).trans hk).below ((Below.refl _ _).alloc (Nat.le_refl _) _) (Nat.le_refl _))
   ·have YJ:=Gp (ea:=some ⟨eb,eo+8*j,none⟩) (en:=cn) (ec:=ec-8*j) (at_+8*(j:Int)) H.out.1.1 H.out.2.1
    obtain⟨-,hlt2,hdr⟩:=gK H.out.2.1
    have HD:=aC hdr
    clear hdr
    have q8:IntKind.i64.wrap (at_+8*(j:Int)+(cn:Int))=at_+8*(j:Int)+(cn:Int):=by rw[IntKind.wrap_i64];omega
    go_wp2_with (first|(go_at_call 66;refine YJ.mono ?_;clear YJ;rintro e v66 ⟨⟨ba,bn,bc,rfl⟩,hK⟩;have HK:=aC hK;clear hK))
    all_goals (
     obtain⟨f,hf⟩:∃f,200-j=f+1:=⟨199-j,by omega⟩
     have FL:=H.out.2.2
     rw[hf,FD HN.out]at FL
     have XC:=Q8 FL
     rw[show f=200-(j+1) by omega,List.drop_drop,show 8*j+8=8*(j+1) by omega,show at_+8*(j:Int)+8=at_+8*((j+1:Nat):Int) by omega]at XC
     have HN2:=aC (aR ((H.out.1.trans HK.out).below ((Below.refl _ _).alloc (Nat.le_refl _) (.cells #[.int .u64 x.v,.bool x.dn,.slice ba bn bc] 51)) (Nat.le_refl _)) (aR HD.out XC))
     have h33:=HF.out.2.2.1
     have hlast:j+1<Kn→8*(j+1)<b.length:=fun hh=>(Ga HC.out.1 HC.out.2.1 HC.out.2.2.2.1 HC.out.2.2.1 hh).2.2.2
     refine⟨⟨.int .i64 (at_+8*(j:Int)+(cn:Int)),_,_,_,_,_,.int .i64 ((j:Int)+1),⟨j+1,fun hj => ?_,by simp,by omega,a'+1,by omega,l,HN2⟩,rfl,rfl,rfl,rfl,rfl,rfl,rfl⟩,by simp[intOf];omega⟩
     have h44:=hlast hj
     first
      | (exfalso;omega)
      | exact⟨by congr 1;omega,by rw[show eo+8*j+cn=eo+8*(j+1) by omega,show b.length-8*j-cn=b.length-8*(j+1) by omega,show ec-8*j-cn=ec-8*(j+1) by omega]⟩)
  ·obtain rfl:j=Kn:=by omega
   have hz:b.drop (8*j)=[]:=by
    apply List.drop_eq_nil_of_le
    have h1:=HC.out.1;have h2:=HC.out.2.2.2.1;have h3:=HC.out.2.1;have h4:=HC.out.2.2.1
    split at h2<;>omega
   have HA:=aC (show at2 T l0 k l by have:=H.out.2.2;rw[hz,Kj]at this;exact this)
   go_wp2
   refine bodyPost_ret (v :=.bool true) (by simp[results,Tryz.results113,go_sem]) rfl (.inl ⟨a',rfl,ha',by rw[H.out.2.1];exact HA.out,?_⟩)
   exact um.trans (w':=v164) ⟨H0.out.1.below HC.out.2.2.2.2.2 (Nat.le_refl _),Only.of_below HC.out.2.2.2.2.2⟩ H.out.1
structure On {O:Type} (w w':World) (tb:Nat) (ga:Option Addr) (cap:Nat) (L:List An) (a:Nat) (T K:Pr An O) (a':Nat):Prop where
 le:a'≤L.length
 go:at2 T (L.drop a) K (L.drop a')
 ta:um w w' tb ga cap L a' none
structure Off {O:Type} (w w':World) (tb:Nat) (ga:Option Addr) (cap:Nat) (L:List An) (a:Nat) (T:Pr An O) (o:O):Prop where
 ex:∃c K,T.run (L.drop a) =.ask o c K∧T.left (L.drop a)=[]∧um w w' tb ga cap L L.length (some c)
section
variable {O:Type} {w w1 w' w'':World} {tb s:Nat} {ga:Option Addr} {cap:Nat} {L:List An} {a a' a'':Nat} {T K K':Pr An O} {o:O}
theorem On.refl (h:iE w tb ga cap L a none) (ha:a≤L.length) (T:Pr An O):On w w tb ga cap L a T T a:=⟨ha,AP _ _,h.refl⟩
theorem On.mg (h:On w w' tb ga cap L a T K a'):iE w' tb ga cap L a' none:=h.ta.1
theorem On.trans (h:On w w' tb ga cap L a T K a') (k:On w' w'' tb ga cap L a' K K' a''):On w w'' tb ga cap L a T K' a'' :=
 ⟨k.le,⟨h.go.1.trans k.go.1,h.go.2.trans k.go.2⟩,h.ta.trans k.ta⟩
theorem On.off (h:On w w' tb ga cap L a T K a') (k:Off w' w'' tb ga cap L a' K o):Off w w'' tb ga cap L a T o:=by
 obtain⟨c,K',h1,h2,h3⟩:=k.ex
 exact⟨c,K',h.go.1.trans h1,h.go.2.trans h2,h.ta.trans h3⟩
theorem On.below (h:On w w' tb ga cap L a T K a') (hb:Below w'.heap.size w' w''):On w w'' tb ga cap L a T K a':=⟨h.le,h.go,h.ta.below hb (Nat.le_refl _)⟩
theorem Off.below (h:Off w w' tb ga cap L a T o) (hb:Below w'.heap.size w' w''):Off w w'' tb ga cap L a T o:=by
 obtain⟨c,K',h1,h2,h3⟩:=h.ex
 exact⟨c,K',h1,h2,h3.below hb (Nat.le_refl _)⟩
theorem On.as (h:On w w' tb ga cap L a T K a') (e:K=K'):On w w' tb ga cap L a T K' a':=e▸h
theorem On.ahead (h:On w1 w' tb ga cap L a T K a') (hs:iE w tb ga cap L a none) (hb:Below w.heap.size w w1):On w w' tb ga cap L a T K a':=⟨h.le,h.go,um.trans ⟨hs.below hb (Nat.le_refl _),Only.of_below hb⟩ h.ta⟩
theorem Off.ahead (h:Off w1 w' tb ga cap L a T o) (hs:iE w tb ga cap L a none) (hb:Below w.heap.size w w1):Off w w' tb ga cap L a T o:=by
 obtain⟨c,K',h1,h2,h3⟩:=h.ex
 exact⟨c,K',h1,h2,um.trans ⟨hs.below hb (Nat.le_refl _),Only.of_below hb⟩ h3⟩
theorem oP (L:List An) (a:Nat):L.drop a=[]∨∃x l,L.drop a=x::l:=by
 rcases L.drop a with _|⟨x,l⟩
 ·exact .inl rfl
 ·exact .inr ⟨x,l,rfl⟩
theorem On.one {c:Acc} {k:An→Pr An O} {x:An} {l:List An} (hl:L.drop a=x::l) (h:um w w' tb ga cap L (a+1) none):On w w' tb ga cap L a (.ask o c k) (k x) (a+1):=by
 obtain⟨-,hlt,hd⟩:=gK hl
 exact⟨hlt,by rw[hl,hd];exact⟨rfl,rfl⟩,h⟩
theorem Off.one {c:Acc} {k:An→Pr An O} (hl:L.drop a=[]) (ha:a≤L.length) (h:um w w' tb ga cap L a (some c)):Off w w' tb ga cap L a (.ask o c k) o:=by
 obtain rfl:a=L.length:=Nat.le_antisymm ha (jT hl)
 exact⟨c,k,by rw[hl];rfl,by rw[hl];rfl,h⟩
theorem Gs (at_ wd:Int) (h:iE w tb ga cap L a none) (ha:a≤L.length) (o:O) (k:An→Pr An O):Calls Tryz.prog 39 #[.pointer (some ⟨tb,0,none⟩),.int .i64 at_,.int .i64 wd] w fun e w'=>(∃x:An,(0≤x.v∧x.v<18446744073709551616)∧e =.returned (.tuple #[.int .u64 x.v,.bool true])∧On w w' tb ga cap L a (.ask o (Base.load at_ wd) k) (k x) (a+1))∨(e =.returned (.tuple #[.int .u64 0,.bool false])∧Off w w' tb ga cap L a (.ask o (Base.load at_ wd) k) o):=by
 rcases oP L a with hl|⟨x,l,hl⟩
 ·refine(Mc at_ wd h hl).mono ?_
  rintro e w' ⟨rfl,hk⟩
  exact .inr ⟨rfl,Off.one hl ha hk⟩
 ·refine(Jl at_ wd h hl).mono ?_
  rintro e w' ⟨rfl,hk⟩
  exact .inl ⟨x,(h.row a x (gK hl).1).1,rfl,On.one hl hk⟩
theorem qK (at_ wd val:Int) (h:iE w tb ga cap L a none) (ha:a≤L.length) (o:O) (K:Pr An O):Calls Tryz.prog 76 #[.pointer (some ⟨tb,0,none⟩),.int .i64 at_,.int .i64 wd,.int .u64 val] w fun e w'=>(e =.returned (.bool true)∧On w w' tb ga cap L a (.ask o (Base.store at_ wd val) fun _=>K) K (a+1))∨(e =.returned (.bool false)∧Off w w' tb ga cap L a (.ask o (Base.store at_ wd val) fun _=>K) o):=by
 rcases oP L a with hl|⟨x,l,hl⟩
 ·refine(Jj at_ wd val h hl).mono ?_
  rintro e w' ⟨rfl,hk⟩
  exact .inr ⟨rfl,Off.one hl ha hk⟩
 ·refine(Gq at_ wd val h hl).mono ?_
  rintro e w' ⟨rfl,hk⟩
  exact .inl ⟨rfl,On.one (x:=x) (k:=fun _=>K) hl hk⟩
theorem Vd (at_ val:Int) (h:iE w tb ga cap L a none) (ha:a≤L.length) (o:O) (k:An→Pr An O):Calls Tryz.prog 110 #[.pointer (some ⟨tb,0,none⟩),.int .i64 at_,.int .u64 val] w fun e w'=>(∃x:An,(0≤x.v∧x.v<18446744073709551616)∧e =.returned (.tuple #[.int .u64 x.v,.bool true])∧On w w' tb ga cap L a (.ask o (rO at_ val) k) (k x) (a+1))∨(e =.returned (.tuple #[.int .u64 0,.bool false])∧Off w w' tb ga cap L a (.ask o (rO at_ val) k) o):=by
 rcases oP L a with hl|⟨x,l,hl⟩
 ·refine(Pj at_ val h hl).mono ?_
  rintro e w' ⟨rfl,hk⟩
  exact .inr ⟨rfl,Off.one hl ha hk⟩
 ·refine(Mf at_ val h hl).mono ?_
  rintro e w' ⟨rfl,hk⟩
  exact .inl ⟨x,(h.row a x (gK hl).1).1,rfl,On.one hl hk⟩
theorem Vb (at_ wd old val:Int) (h:iE w tb ga cap L a none) (ha:a≤L.length) (o:O) (k:An→Pr An O):Calls Tryz.prog 202 #[.pointer (some ⟨tb,0,none⟩),.int .i64 at_,.int .i64 wd,.int .u64 old,.int .u64 val] w fun e w'=>(∃x:An,e =.returned (.tuple #[.bool x.dn,.bool true])∧On w w' tb ga cap L a (.ask o (Ed at_ wd old val) k) (k x) (a+1))∨(e =.returned (.tuple #[.bool false,.bool false])∧Off w w' tb ga cap L a (.ask o (Ed at_ wd old val) k) o):=by
 rcases oP L a with hl|⟨x,l,hl⟩
 ·refine(Ph at_ wd old val h hl).mono ?_
  rintro e w' ⟨rfl,hk⟩
  exact .inr ⟨rfl,Off.one hl ha hk⟩
 ·refine(Me at_ wd old val h hl).mono ?_
  rintro e w' ⟨rfl,hk⟩
  exact .inl ⟨x,rfl,On.one hl hk⟩
theorem NR (p:Value) (at_:Int) (ea:Option Addr) (ec:Nat) (w:World):Calls Tryz.prog 113 #[p,.int .i64 at_,.slice ea 0 ec] w fun e w'=>e =.returned (.bool true)∧Below w.heap.size w w':=by
 have c164:=fun W=>(KI 0 (by omega) W:Calls Tryz.prog 164 #[.int .i64 0] W _)
 go_enter Tryz.func113,Tryz.ntmps113
 go_wp2_with (first|(go_at_call 164;(refine(c164 _).mono ?_;clear c164;rintro e v164 ⟨v,i,r,rfl,hn,Xd,hr0,hown,hB⟩;have hr:r=0:=(by omega);have hi:i=0:=(by omega);subst hr hi;obtain⟨va,vc,rfl⟩:=iC (show v164.ownsRow w.heap.size 3 1 v 0 (tZ 0 0)from hown);have HC:=aC hB;clear hn Xd hr0 hown hB)))
 go_loopw [15] (fun z wr=>z =.int .i64 0∧Hid (Below w.heap.size w wr)) (fun _ _=>0)
 case atStart=>exact⟨rfl,aC HC.out⟩
 case round =>
  obtain⟨rfl,HB⟩:=hrel
  go_wp2
  exact bodyPost_ret (v :=.bool true) (by simp[results,Tryz.results113,go_sem]) rfl ⟨rfl,HB.out⟩
theorem ain (o:Ot) (k:Pr An Ot) (b:List Nat) (hb:b.length≤400) (at_:Int) (hat:0≤at_∧at_≤1000000) (ea:Option Addr) (ec:Nat) (QE:b.length≤ec∧ec≤9223372036854775807) (h:iE w tb ga cap L a none) (ha:a≤L.length) (hB:gu w tb ea b.length b):Calls Tryz.prog 113 #[.pointer (some ⟨tb,0,none⟩),.int .i64 at_,.slice ea b.length ec] w fun e w'=>(∃a',e =.returned (.bool true)∧On w w' tb ga cap L a (inT o k 200 at_ b) k a')∨(e =.returned (.bool false)∧Off w w' tb ga cap L a (inT o k 200 at_ b) o):=by
 by_cases hb0:b=[]
 ·subst hb0
  refine(NR _ at_ ea ec w).mono ?_
  rintro e w' ⟨rfl,hB'⟩
  exact .inl ⟨a,rfl,ha,by rw[Kj];exact AP _ _,h.refl.below hB' (Nat.le_refl _)⟩
 ·obtain⟨x,hx⟩:∃x,b[0]? = some x:=⟨b[0]'(by cases b with|nil=>exact absurd rfl hb0|cons _ _=>simp),List.getElem?_eq_getElem _⟩
  obtain⟨eb,eo,rfl,-,-⟩:=hB.2 0 x hx
  refine(inR o k b hb at_ hat eb eo ec QE w tb ga cap L a ha h hB).mono ?_
  rintro e w' (⟨a',rfl,h1,h2,h3⟩|⟨c,K,rfl,h1,h2,h3⟩)
  ·exact .inl ⟨a',rfl,h1,h2,h3⟩
  ·exact .inr ⟨rfl,c,K,h1,h2,h3⟩
end
