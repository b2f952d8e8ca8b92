import Derived.Test.YtlaogoehmndcjaaGreatDoorZ36
import Derived.Test.YtlaogoehmndcjaaGreatDoorZ38
import Derived.Test.YtlaogoehmndcjaaGreatDoorZ37
import Derived.Test.YtlaogoehmndcjaaGreatDoorZ33
set_option maxRecDepth 100000
set_option linter.unusedVariables false
set_option linter.unusedSimpArgs false
set_option maxHeartbeats 4000000
set_option linter.unusedSectionVars false
namespace Go.Proofs.YtlaogoehmndcjaaGreatDoor.Sy
open Go RowKit Lib AS Base Pr Ba
noncomputable section
def Jo (a:Acc) (ba:Option Addr) (bc:Nat):Value :=.agg #[.int .i64 a.k,.int .i64 a.at_,.int .i64 a.n,.int .u64 a.v,.int .u64 a.w,.slice ba a.b.length bc]
def NV {O:Type} (p:Pr An O) (ka:Option Addr) (v:Value):Prop:=match p with
 | .ask _ a _=>∃ba bc,v =.tuple #[Jo a ba bc,.bool true]∧(a.b=[]∨ba=ka)
 | .done _=>v =.tuple #[.agg #[.int .i64 0,.int .i64 0,.int .i64 0,.int .u64 0,.int .u64 0,.slice none 0 0],.bool false]
def iq (s:jU) (has:Bool):Value :=.tuple #[.agg #[.int .i64 s.part,.int .i32 s.term,.int .i64 s.off,.int .i64 s.size],.bool has]
abbrev qj (k a n v u:Int) (ba:Option Addr) (bn bc:Nat):Value :=.tuple #[.agg #[.int .i64 k,.int .i64 a,.int .i64 n,.int .u64 v,.int .u64 u,.slice ba bn bc],.bool true]
abbrev TB:Value :=.tuple #[.agg #[.int .i64 0,.int .i64 0,.int .i64 0,.int .u64 0,.int .u64 0,.slice none 0 0],.bool false]
abbrev nu (p t o s:Int) (h:Bool):Value :=.tuple #[.agg #[.int .i64 p,.int .i32 t,.int .i64 o,.int .i64 s],.bool h]
abbrev ny (p e:Int):Value :=.tuple #[.int .i64 p,.int .i64 e]
theorem NV.oJ {P:Type} {o:P} {kk:An→Pr An P} {ka:Option Addr} {k a n v u k' a' n' v' u':Int} {ba:Option Addr} {bn bc:Nat} (h:k=k'∧a=a'∧n=n'∧v=v'∧u=u'∧bn=0:=by refine⟨?_,?_,?_,?_,?_,?_⟩<;>first|rfl|omega|(simp only[cO.fu,cO.M,aP];omega)):NV (.ask o ⟨k',a',n',v',u',[]⟩ kk) ka (.tuple #[.agg #[.int .i64 k,.int .i64 a,.int .i64 n,.int .u64 v,.int .u64 u,.slice ba bn bc],.bool true]):=by
 obtain⟨rfl,rfl,rfl,rfl,rfl,rfl⟩:=h
 exact⟨ba,bc,rfl,.inl rfl⟩
theorem WG {o:Ot} {k:Pr An Ot} {f:Nat} {at_:Int} {b1:List Nat} {ka dm da:Option Addr} {bn bc:Nat} {n8 a n v u:Int} (hb:0<b1.length) (hn:n8=((min b1.length 8:Nat):Int)) (hbn:bn=n8.toNat) (h:a=at_∧n=n8∧v=0∧u=0) (h1:dm=da) (h2:da=ka):NV (inT o k (f+1) at_ b1) ka (.tuple #[.agg #[.int .i64 6,.int .i64 a,.int .i64 n,.int .u64 v,.int .u64 u,.slice dm bn bc],.bool true]):=by
 obtain⟨rfl,rfl,rfl,rfl⟩:=h
 rw[nK _ _ _ _ _ (fun h=>by rw[h]at hb;simp at hb)]
 refine⟨dm,bc,?_,.inr (h1.trans h2)⟩
 have e:(b1.take 8).length=min b1.length 8:=by rw[List.length_take];omega
 show _=Value.tuple #[.agg #[.int .i64 6,.int .i64 a,.int .i64 ((b1.take 8).length:Int),.int .u64 0,.int .u64 0,.slice dm (b1.take 8).length bc],.bool true]
 rw[e,hbn,hn]
 simp
theorem dB {o:Ot} {k:Pr An Ot} {f:Nat} {at_:Int} {b1:List Nat} (hb:0<b1.length):(inT o k (f+1) at_ b1).obs=o:=by
 rw[nK _ _ _ _ _ (fun h=>by rw[h]at hb;simp at hb)]
 rfl
theorem aM {A:dU} {D:Nat→Value} {τ:Nat→Nat×Nat} {rt:Nat×Nat} {O:Nat→Prop} {W:World} {R:World→(Nat→Prop)→Prop} (hS:ah W D A τ) (ho:Own A τ rt O) (sel:List Nat) {A0:dU} {f:FuncId} {v0 v:Value}
 (hc:∀cB,ah W (dl (pJ D A τ sel)) A0 cB→Calls Tryz.prog f #[.pointer (some ⟨(cB 0).1,(cB 0).2+0,none⟩)] W fun e w'=>e =.returned (im (dl (pJ D A τ sel)) bI v0)∧ah w' (dl (pJ D A τ sel)) A0 cB∧bK A0 cB W A0 cB w')
 (back:∀w',ah w' D A τ→bK A τ W A τ w'→Own A τ rt (Grow O W w')→R w' (Grow O W w'))
 (hv:im (dl (pJ D A τ sel)) bI v0=v:=by kernel_rfl)
 (hm:A0.map (fun p=>(p.1,p.2.map (im (dl (pJ D A τ sel)) fun k=>τ (sel.getD k 0))))=sel.map (fun i=>((A.getD i (0,[])).1,(A.getD i (0,[])).2.map (im D τ))):=by kernel_rfl)
 (hs:(sel.Nodup&&sel.all (fun i=>Nat.blt i A.length)&&sel.getD 0 0==0)=true:=by kernel_rfl) :
 Calls Tryz.prog f #[.pointer (some ⟨rt.1,rt.2+0,none⟩)] W fun e w'=>e =.returned v∧jB O W w'∧R w' (Grow O W w'):=by
 have hr:=ho.r
 subst hr
 refine(VU hS sel hc hm hs).mono ?_
 rintro e w' ⟨rfl,h1,h2⟩
 exact⟨by rw[hv],ho.jL h2,back w' h1 h2 (ho.step h2 rfl h1)⟩
theorem dP {l:Lg} {B:List Nat} {q:Nat} {p:Pr An Ot} {ka:Option Addr} {W:World} {rt:Nat×Nat} {O:Nat→Prop} {A:dU} {D:Nat→Value} {τ:Nat→Nat×Nat} (back:∀w',ah w' D A τ→bK A τ W A τ w'→Own A τ rt (Grow O W w')→OR l B q p ka w' rt (Grow O W w'))
 (v1:Value) (h1:NV p ka v1) (c1:(∀w',ah w' D A τ→bK A τ W A τ w'→Own A τ rt (Grow O W w')→OR l B q p ka w' rt (Grow O W w'))→Calls Tryz.prog 278 #[.pointer (some ⟨rt.1,rt.2+0,none⟩)] W fun e w'=>e =.returned v1∧jB O W w'∧OR l B q p ka w' rt (Grow O W w'))
 (v2:Value) (h2:v2=iq p.obs.s p.obs.has) (c2:(∀w',ah w' D A τ→bK A τ W A τ w'→Own A τ rt (Grow O W w')→OR l B q p ka w' rt (Grow O W w'))→Calls Tryz.prog 280 #[.pointer (some ⟨rt.1,rt.2+0,none⟩)] W fun e w'=>e =.returned v2∧jB O W w'∧OR l B q p ka w' rt (Grow O W w'))
 (v3:Value) (h3:v3 =.tuple #[.int .i64 p.obs.pos,.int .i64 p.obs.e]) (c3:(∀w',ah w' D A τ→bK A τ W A τ w'→Own A τ rt (Grow O W w')→OR l B q p ka w' rt (Grow O W w'))→Calls Tryz.prog 279 #[.pointer (some ⟨rt.1,rt.2+0,none⟩)] W fun e w'=>e =.returned v3∧jB O W w'∧OR l B q p ka w' rt (Grow O W w')) :
 (∃v,NV p ka v∧Calls Tryz.prog 278 #[.pointer (some ⟨rt.1,rt.2+0,none⟩)] W fun e w'=>e =.returned v∧jB O W w'∧OR l B q p ka w' rt (Grow O W w')) ∧
 (∃v,v=iq p.obs.s p.obs.has∧Calls Tryz.prog 280 #[.pointer (some ⟨rt.1,rt.2+0,none⟩)] W fun e w'=>e =.returned v∧jB O W w'∧OR l B q p ka w' rt (Grow O W w')) ∧
 (∃v,v =.tuple #[.int .i64 p.obs.pos,.int .i64 p.obs.e]∧Calls Tryz.prog 279 #[.pointer (some ⟨rt.1,rt.2+0,none⟩)] W fun e w'=>e =.returned v∧jB O W w'∧OR l B q p ka w' rt (Grow O W w')) :=
 ⟨⟨v1,h1,c1 back⟩,⟨v2,h2,c2 back⟩,⟨v3,h3,c3 back⟩⟩
theorem OR.tells {l:Lg} {B:List Nat} {q:Nat} {p:Pr An Ot} {ka:Option Addr} {W:World} {rt:Nat×Nat} {O:Nat→Prop} (h:OR l B q p ka W rt O) :
 (∃v,NV p ka v∧Calls Tryz.prog 278 #[.pointer (some ⟨rt.1,rt.2+0,none⟩)] W fun e w'=>e =.returned v∧jB O W w'∧OR l B q p ka w' rt (Grow O W w')) ∧
 (∃v,v=iq p.obs.s p.obs.has∧Calls Tryz.prog 280 #[.pointer (some ⟨rt.1,rt.2+0,none⟩)] W fun e w'=>e =.returned v∧jB O W w'∧OR l B q p ka w' rt (Grow O W w')) ∧
 (∃v,v =.tuple #[.int .i64 p.obs.pos,.int .i64 p.obs.e]∧Calls Tryz.prog 279 #[.pointer (some ⟨rt.1,rt.2+0,none⟩)] W fun e w'=>e =.returned v∧jB O W w'∧OR l B q p ka w' rt (Grow O W w')):=by
 cases h with
 | s0 hS ho hk he hn hr hb hp =>
   rename_i aO kv kw pos ee nd ba bn bc τ
   subst hp
   exact dP (fun w' hS' hm ho2 => .s0 hS' ho2 hk he hn (hr.step hm) hb rfl) (qj 1 aO 8 kv kw none 0 0) (NV.oJ) (aM hS ho [0] (fun cB h=>ZF (hS:=h))) (nu 0 0 0 0 false) rfl (aM hS ho [0] (fun cB h=>os1 (hS:=h))) (ny pos ee) (by rw[he.1,he.2];first|rfl|(rw[dB hb1.2.1];rfl)) (aM hS ho [0] (fun cB h=>yE (hS:=h)))
 | s1 hS ho hk he hn hr hb hp =>
   rename_i aO kv kw pos ee lim nd ba bn bc τ
   subst hp
   exact dP (fun w' hS' hm ho2 => .s1 hS' ho2 hk he hn (hr.step hm) hb rfl) (qj 1 aO 4 kv kw none 0 0) (NV.oJ) (aM hS ho [0] (fun cB h=>ZF (hS:=h))) (nu 0 0 0 0 false) rfl (aM hS ho [0] (fun cB h=>os1 (hS:=h))) (ny pos ee) (by rw[he.1,he.2];first|rfl|(rw[dB hb1.2.1];rfl)) (aM hS ho [0] (fun cB h=>yE (hS:=h)))
 | s2 hS ho hk he hc hn hr hb hp =>
   rename_i aO kv kw pos ee cn lim nd ba bn bc τ
   subst hp
   exact dP (fun w' hS' hm ho2 => .s2 hS' ho2 hk he hc hn (hr.step hm) hb rfl) (qj 1 aO 8 kv kw none 0 0) (NV.oJ) (aM hS ho [0] (fun cB h=>ZF (hS:=h))) (nu 0 0 0 0 false) rfl (aM hS ho [0] (fun cB h=>os1 (hS:=h))) (ny pos ee) (by rw[he.1,he.2];first|rfl|(rw[dB hb1.2.1];rfl)) (aM hS ho [0] (fun cB h=>yE (hS:=h)))
 | s3 hS ho he hp =>
   rename_i aO kv kw pos ee τ
   subst hp
   exact dP (fun w' hS' hm ho2 => .s3 hS' ho2 he rfl) (TB) rfl (aM hS ho [0] (fun cB h=>on2 (hS:=h))) (nu 0 0 0 0 false) rfl (aM hS ho [0] (fun cB h=>os1 (hS:=h))) (ny pos ee) (by first|rfl|(rw[he];rfl)) (aM hS ho [0] (fun cB h=>yE (hS:=h)))
 | s4 hS ho he ha hz hpt hn hr hb hc hcn hp =>
   rename_i aO kv kw pos ee aG bA bz bu aX aT aY aL aK aF aI aH aD aQ af ay aA aj pt nd τ
   subst hp
   exact dP (fun w' hS' hm ho2 => .s4 hS' ho2 he ha hz hpt hn (hr.step hm) hb (hc.step hm) hcn rfl) (qj 3 aG bA bz bu (aX) (aT) (aY)) (NV.oJ) (aM hS ho [0,1] (fun cB h=>Mr (hS:=h))) (nu af ay aA aj false) (by rw[hz.1,hz.2.1,hz.2.2.1,hz.2.2.2];rfl) (aM hS ho [0,1] (fun cB h=>os2 (hS:=h))) (ny pos ee) (by rw[he.1,he.2];first|rfl|(rw[dB hb1.2.1];rfl)) (aM hS ho [0] (fun cB h=>yE (hS:=h)))
 | s5 hS ho he ha hk hb1 hr hd hat hlen hka hp =>
   rename_i aO kv kw pos ee aG bA bz bu aX aT aY aL aK aF aI aH aD aQ af ay aA aj at_ x0 x1 x2 at2 da dn dc len fo sz ix τ k b1
   subst hp
   exact dP (fun w' hS' hm ho2 => .s5 hS' ho2 he ha (hk.step hm) hb1 (hr.step hm) hd hat hlen hka rfl) (qj 2 aG bA bz bu (aX) (aT) (aY)) (NV.oJ) (aM hS ho [0,1] (fun cB h=>Mr (hS:=h))) (nu af ay aA aj true) rfl (aM hS ho [0,1] (fun cB h=>os2 (hS:=h))) (ny pos ee) (by rw[he.1,he.2];first|rfl|(rw[dB hb1.2.1];rfl)) (aM hS ho [0] (fun cB h=>yE (hS:=h)))
 | s6 hS ho he hp =>
   rename_i aO kv kw pos ee bq bP bM aN az bD aG bA bz bu aX aT aY aL aK aF aI aH aD aQ af ay aA aj τ
   subst hp
   exact dP (fun w' hS' hm ho2 => .s6 hS' ho2 he rfl) (TB) rfl (aM hS ho [0,1] (fun cB h=>on6 (hS:=h))) (nu af ay aA aj true) rfl (aM hS ho [0,2] (fun cB h=>os2 (hS:=h))) (ny pos ee) (by first|rfl|(rw[he];rfl)) (aM hS ho [0] (fun cB h=>yE (hS:=h)))
 | s7 hS ho hrc hrn he iP hp =>
   rename_i aO kv kw pos ee bq bP bM aN az bD aG bA bz bu aX aT aY aL aK aF aI aH aD aQ af ay aA aj τ
   subst hp
   exact dP (fun w' hS' hm ho2 => .s7 hS' ho2 hrc hrn he iP rfl) (qj 1 bq 8 bP bM none 0 0) (NV.oJ (by refine⟨?_,?_,?_,?_,?_,?_⟩<;>first|rfl|omega|(simp only[cO.fu,cO.M,aP];omega)|(rw[hrn]at iP;exact iP.2))) (aM hS ho [0,1] (fun cB h=>Y0 (hS:=h))) (nu af ay aA aj true) rfl (aM hS ho [0,4] (fun cB h=>os2 (hS:=h))) (ny pos ee) (by rw[he.1,he.2];first|rfl|(rw[dB hb1.2.1];rfl)) (aM hS ho [0] (fun cB h=>yE (hS:=h)))
 | s8 hS ho he ha hk hat hlen hka hp =>
   rename_i aO kv kw pos ee aG bA bz bu aX aT aY aL aK aF aI aH aD aQ af ay aA aj at_ x0 x1 x2 at2 len τ k
   subst hp
   exact dP (fun w' hS' hm ho2 => .s8 hS' ho2 he ha hk hat hlen hka rfl) (qj 2 aG bA bz bu (aX) (aT) (aY)) (NV.oJ) (aM hS ho [0,1] (fun cB h=>Mr (hS:=h))) (nu af ay aA aj true) rfl (aM hS ho [0,1] (fun cB h=>os2 (hS:=h))) (ny pos ee) (by rw[he.1,he.2];first|rfl|(rw[dB hb1.2.1];rfl)) (aM hS ho [0] (fun cB h=>yE (hS:=h)))
 | s9 hS ho he ha hk hb1 hr hd hat hlen hka hp =>
   rename_i aO kv kw pos ee aG bA bz bu aX aT aY aL aK aF aI aH aD aQ af ay aA aj at_ x0 x1 x2 at2 da dn dc len fo sz ix τ k b1
   subst hp
   exact dP (fun w' hS' hm ho2 => .s9 hS' ho2 he ha (hk.step hm) hb1 (hr.step hm) hd hat hlen hka rfl) (qj 2 aG bA bz bu (aX) (aT) (aY)) (NV.oJ) (aM hS ho [0,1] (fun cB h=>Mr (hS:=h))) (nu af ay aA aj true) rfl (aM hS ho [0,1] (fun cB h=>os2 (hS:=h))) (ny pos ee) (by rw[he.1,he.2];first|rfl|(rw[dB hb1.2.1];rfl)) (aM hS ho [0] (fun cB h=>yE (hS:=h)))
 | s10 hS ho hrc hrn he hf iP hp =>
   rename_i aO kv kw pos ee bq bP bM aN az bD aG bA bz bu aX aT aY aL aK aF aI aH aD aQ af ay aA aj rat τ f
   subst hp
   exact dP (fun w' hS' hm ho2 => .s10 hS' ho2 hrc hrn he hf iP rfl) (qj 1 bq 8 bP bM none 0 0) (NV.oJ (by refine⟨?_,?_,?_,?_,?_,?_⟩<;>first|rfl|omega|(simp only[cO.fu,cO.M,aP];omega)|(rw[hrn]at iP;exact iP.2))) (aM hS ho [0,1] (fun cB h=>Y0 (hS:=h))) (nu af ay aA aj true) rfl (aM hS ho [0,4] (fun cB h=>os2 (hS:=h))) (ny pos ee) (by rw[he.1,he.2];first|rfl|(rw[dB hb1.2.1];rfl)) (aM hS ho [0] (fun cB h=>yE (hS:=h)))
 | s11 hS ho he ha hk hat hlen hka hp =>
   rename_i aO kv kw pos ee aG bA bz bu aX aT aY aL aK aF aI aH aD aQ af ay aA aj at_ x0 x1 x2 at2 len τ k
   subst hp
   exact dP (fun w' hS' hm ho2 => .s11 hS' ho2 he ha hk hat hlen hka rfl) (qj 2 aG bA bz bu (aX) (aT) (aY)) (NV.oJ) (aM hS ho [0,1] (fun cB h=>Mr (hS:=h))) (nu af ay aA aj true) rfl (aM hS ho [0,1] (fun cB h=>os2 (hS:=h))) (ny pos ee) (by rw[he.1,he.2];first|rfl|(rw[dB hb1.2.1];rfl)) (aM hS ho [0] (fun cB h=>yE (hS:=h)))
 | s12 hS ho he ha hk hb1 hr hd hat hlen hka hp =>
   rename_i aO kv kw pos ee aG bA bz bu aX aT aY aL aK aF aI aH aD aQ af ay aA aj at_ x0 x1 x2 at2 da dn dc len fo sz ix τ k b1
   subst hp
   exact dP (fun w' hS' hm ho2 => .s12 hS' ho2 he ha (hk.step hm) hb1 (hr.step hm) hd hat hlen hka rfl) (qj 2 aG bA bz bu (aX) (aT) (aY)) (NV.oJ) (aM hS ho [0,1] (fun cB h=>Mr (hS:=h))) (nu af ay aA aj true) rfl (aM hS ho [0,1] (fun cB h=>os2 (hS:=h))) (ny pos ee) (by rw[he.1,he.2];first|rfl|(rw[dB hb1.2.1];rfl)) (aM hS ho [0] (fun cB h=>yE (hS:=h)))
 | s13 hS ho hrc hrn he hf iP hp =>
   rename_i aO kv kw pos ee bq bP bM aN az bD aG bA bz bu aX aT aY aL aK aF aI aH aD aQ af ay aA aj τ f
   subst hp
   exact dP (fun w' hS' hm ho2 => .s13 hS' ho2 hrc hrn he hf iP rfl) (qj 4 bq 8 bP bM none 0 0) (NV.oJ (by refine⟨?_,?_,?_,?_,?_,?_⟩<;>first|rfl|omega|(simp only[cO.fu,cO.M,aP];omega)|(rw[hrn]at iP;exact iP.2))) (aM hS ho [0,1] (fun cB h=>Y0 (hS:=h))) (nu af ay aA aj true) rfl (aM hS ho [0,4] (fun cB h=>os2 (hS:=h))) (ny pos ee) (by rw[he.1,he.2];first|rfl|(rw[dB hb1.2.1];rfl)) (aM hS ho [0] (fun cB h=>yE (hS:=h)))
 | G9 hS ho hrc hrn he iP hp =>
   rename_i aO kv kw pos ee bq bP bM aN az bD aG bA bz bu aX aT aY aL aK aF aI aH aD aQ af ay aA aj τ
   subst hp
   exact dP (fun w' hS' hm ho2 => .G9 hS' ho2 hrc hrn he iP rfl) (qj 4 bq 4 bP bM none 0 0) (NV.oJ (by refine⟨?_,?_,?_,?_,?_,?_⟩<;>first|rfl|omega|(simp only[cO.fu,cO.M,aP];omega)|(rw[hrn]at iP;exact iP.2))) (aM hS ho [0,1] (fun cB h=>Y0 (hS:=h))) (nu af ay aA aj true) rfl (aM hS ho [0,4] (fun cB h=>os2 (hS:=h))) (ny pos ee) (by rw[he.1,he.2];first|rfl|(rw[dB hb1.2.1];rfl)) (aM hS ho [0] (fun cB h=>yE (hS:=h)))
 | s15 hS ho he ha hk hat hlen hka hp =>
   rename_i aO kv kw pos ee aG bA bz bu aX aT aY aL aK aF aI aH aD aQ af ay aA aj at_ x0 x1 x2 at2 len τ k
   subst hp
   exact dP (fun w' hS' hm ho2 => .s15 hS' ho2 he ha hk hat hlen hka rfl) (qj 2 aG bA bz bu (aX) (aT) (aY)) (NV.oJ) (aM hS ho [0,1] (fun cB h=>Mr (hS:=h))) (nu af ay aA aj true) rfl (aM hS ho [0,1] (fun cB h=>os2 (hS:=h))) (ny pos ee) (by rw[he.1,he.2];first|rfl|(rw[dB hb1.2.1];rfl)) (aM hS ho [0] (fun cB h=>yE (hS:=h)))
 | s16 hS ho he ha hk hb1 hr hd hat hlen hka hp =>
   rename_i aO kv kw pos ee aG bA bz bu aX aT aY aL aK aF aI aH aD aQ af ay aA aj at_ x0 x1 x2 at2 da dn dc len fo sz ix τ k b1
   subst hp
   exact dP (fun w' hS' hm ho2 => .s16 hS' ho2 he ha (hk.step hm) hb1 (hr.step hm) hd hat hlen hka rfl) (qj 2 aG bA bz bu (aX) (aT) (aY)) (NV.oJ) (aM hS ho [0,1] (fun cB h=>Mr (hS:=h))) (nu af ay aA aj true) rfl (aM hS ho [0,1] (fun cB h=>os2 (hS:=h))) (ny pos ee) (by rw[he.1,he.2];first|rfl|(rw[dB hb1.2.1];rfl)) (aM hS ho [0] (fun cB h=>yE (hS:=h)))
 | G8 hS ho he hp =>
   rename_i aO kv kw pos ee bq bP bM aN az rE bD aG bA bz bu aX aT aY aL aK aF aI aH aD aQ af ay aA aj τ
   subst hp
   exact dP (fun w' hS' hm ho2 => .G8 hS' ho2 he rfl) (TB) rfl (aM hS ho [0,1] (fun cB h=>on6 (hS:=h))) (nu af ay aA aj true) rfl (aM hS ho [0,2] (fun cB h=>os2 (hS:=h))) (ny pos ee) (by first|rfl|(rw[he];rfl)) (aM hS ho [0] (fun cB h=>yE (hS:=h)))
 | La hS ho he ha hk hat hlen hka hp =>
   rename_i aO kv kw pos ee aG bA bz bu aX aT aY aL aK aF aI aH aD aQ af ay aA aj at_ x0 x1 x2 at2 len τ k
   subst hp
   exact dP (fun w' hS' hm ho2 => .La hS' ho2 he ha hk hat hlen hka rfl) (qj 2 aG bA bz bu (aX) (aT) (aY)) (NV.oJ) (aM hS ho [0,1] (fun cB h=>Mr (hS:=h))) (nu af ay aA aj true) rfl (aM hS ho [0,1] (fun cB h=>os2 (hS:=h))) (ny pos ee) (by rw[he.1,he.2];first|rfl|(rw[dB hb1.2.1];rfl)) (aM hS ho [0] (fun cB h=>yE (hS:=h)))
 | Gz hS ho he ha hk hp =>
   rename_i aO kv kw pos ee aG bA bz bu aX aT aY aL aK aF aI aH aD aQ af ay aA aj fo sz ix τ k
   subst hp
   exact dP (fun w' hS' hm ho2 => .Gz hS' ho2 he ha (hk.step hm) rfl) (qj 2 aG bA bz bu (aX) (aT) (aY)) (NV.oJ) (aM hS ho [0,1] (fun cB h=>Mr (hS:=h))) (nu af ay aA aj true) rfl (aM hS ho [0,1] (fun cB h=>os2 (hS:=h))) (ny pos ee) (by rw[he.1,he.2];first|rfl|(rw[dB hb1.2.1];rfl)) (aM hS ho [0] (fun cB h=>yE (hS:=h)))
 | s20 hS ho he ha hkb hk hb1 hr hd IC hat hlen hp =>
   rename_i aO kv kw pos ee aG bA bz bu aX aT aY aL aK aF aI aH aD aQ af ay aA aj at_ n8 da dn dc at2 len fo sz ix τ k b1 f
   subst hp
   obtain⟨f,rfl⟩:∃f',f=f'+1:=⟨f-1,by omega⟩
   exact dP (fun w' hS' hm ho2 => .s20 hS' ho2 he ha hkb (hk.step hm) hb1 (hr.step hm) hd IC hat hlen rfl) (qj 6 aG bA bz bu (aX) (aT) (aY)) (WG hb1.2.1 IC hkb.2.1 (by omega) hkb.1 hkb.2.2) (aM hS ho [0,1] (fun cB h=>Mr (hS:=h))) (nu af ay aA aj true) (by rw[dB hb1.2.1];rfl) (aM hS ho [0,1] (fun cB h=>os2 (hS:=h))) (ny pos ee) (by rw[he.1,he.2];first|rfl|(rw[dB hb1.2.1];rfl)) (aM hS ho [0] (fun cB h=>yE (hS:=h)))
 | G7 hS ho he ha hk hp =>
   rename_i aO kv kw pos ee aG bA bz bu aX aT aY aL aK aF aI aH aD aQ af ay aA aj τ k
   subst hp
   exact dP (fun w' hS' hm ho2 => .G7 hS' ho2 he ha hk rfl) (qj 2 aG bA bz bu (aX) (aT) (aY)) (NV.oJ) (aM hS ho [0,1] (fun cB h=>Mr (hS:=h))) (nu af ay aA aj true) rfl (aM hS ho [0,1] (fun cB h=>os2 (hS:=h))) (ny pos ee) (by rw[he.1,he.2];first|rfl|(rw[dB hb1.2.1];rfl)) (aM hS ho [0] (fun cB h=>yE (hS:=h)))
 | JE hS ho hp =>
   rename_i aO kv kw pos ee aG bA bz bu aX aT aY aL aK aF aI aH aD aQ af ay aA aj τ
   subst hp
   exact dP (fun w' hS' hm ho2 => .JE hS' ho2 rfl) (TB) rfl (aM hS ho [0,1] (fun cB h=>on4 (hS:=h))) (nu af ay aA aj true) rfl (aM hS ho [0,1] (fun cB h=>os2 (hS:=h))) (ny pos ee) (by first|rfl|(rw[he];rfl)) (aM hS ho [0] (fun cB h=>yE (hS:=h)))
 | Gy hS ho he hp =>
   rename_i aO kv kw pos ee τ
   subst hp
   exact dP (fun w' hS' hm ho2 => .Gy hS' ho2 he rfl) (TB) rfl (aM hS ho [0] (fun cB h=>on7 (hS:=h))) (nu 0 0 0 0 false) rfl (aM hS ho [0] (fun cB h=>os1 (hS:=h))) (ny pos ee) (by first|rfl|(rw[he];rfl)) (aM hS ho [0] (fun cB h=>yE (hS:=h)))
end
end Go.Proofs.YtlaogoehmndcjaaGreatDoor.Sy
namespace Go.Proofs.YtlaogoehmndcjaaGreatDoor.Sy
open Go RowKit Lib AS Base Pr Ba
abbrev dS (rt:Nat×Nat):Value :=.pointer (some ⟨rt.1,rt.2+0,none⟩)
def Made (W w':World):Nat→Prop:=Grow (fun _=>False) W w'
theorem jV {A:dU} {τ:Nat→Nat×Nat} {W w':World} {D:Nat→Value} (hS:ah w' D A τ) (hm:bK [] bI W A τ w'):Own A τ (τ 0) (Made W w') :=
 ⟨rfl,fun i hi=>by
   rcases hm.new i hi with⟨j,hj,_⟩|h
   ·exact absurd hj (Nat.not_lt_zero _)
   ·exact .inr ⟨h,hS.lt hi⟩⟩
theorem gP {A:dU} {τ:Nat→Nat×Nat} {W w':World} (hm:bK [] bI W A τ w'):Below W.heap.size W w' :=
 ⟨hm.os,hm.tape,hm.output,hm.size,fun b hb=>hm.block b hb fun i hi=>absurd hi (Nat.not_lt_zero _)⟩
theorem C8 {W:World} {B:List Nat} (h:fK W none B):B=[]:=by
 cases B with
 | nil=>rfl
 | cons x B=>obtain⟨_,_,e,_⟩:=h 0 x rfl;cases e
theorem E8 {l:Lg} (hw:l.wf) {B:List Nat} (hB:∀x∈B,x<256) {ba:Option Addr} {bc:Nat} (hbn:B.length≤1000) {W:World} (h1:1≤W.heap.size) (hr:∀w',Below W.heap.size W w'→fK w' ba B) :
 Calls Tryz.prog 57 #[l.val,.slice ba B.length bc] W fun e w'=>∃rt,e =.returned (dS rt)∧Below W.heap.size W w'∧∀q,ORx l B q (fZ (aP l) B) w' rt (Made W w'):=by
 by_cases e0:l.ok
 ·by_cases e1:(B.length:Int)>l.term/8
  ·refine(WE (bc:=bc) (ba:=ba) hw hbn e0 e1 h1).mono ?_
   rintro e w' ⟨bf,VV,rfl,hS,hm⟩
   refine⟨bf 0,rfl,gP hm,fun q=>⟨none,.Gy hS (jV hS hm) rfl ?_⟩⟩
   unfold fZ
   exact(if_neg (show ¬ ¬(aP l).ok from fun h=>h e0)).trans (if_pos (show(B.length:Int)>(aP l).term/8 from e1))
  ·have ht:=BP (aP l) B e0 (show(B.length:Int)≤l.term/8 by omega)
   by_cases e2:ba=none
   ·subst e2
    obtain rfl:=C8 (hr W (Below.refl _ _))
    refine(WC (bc:=bc) hw hbn e0 e1 rfl h1).mono ?_
    rintro e w' ⟨bf,VV,rfl,hS,hm⟩
    exact⟨bf 0,rfl,gP hm,fun q=>⟨none,.s0 hS (jV hS hm) ⟨rfl,rfl,rfl⟩ ⟨rfl,rfl⟩ rfl RowK.nil rfl ht⟩⟩
   ·refine(WA (bc:=bc) hw hbn e0 e1 e2 h1 rfl hB hr).mono ?_
    rintro e w' ⟨bf,VV,rfl,hS,hm,hq⟩
    obtain⟨g,cap,hv,hc,hrow⟩:=hq.row (O:=fun _=>False)
    rw[hv]at hS
    exact⟨bf 0,rfl,gP hm,fun q=>⟨none,.s0 hS (jV hS hm) ⟨rfl,rfl,rfl⟩ ⟨rfl,rfl⟩ rfl hrow rfl ht⟩⟩
 ·refine(Wz (bc:=bc) (ba:=ba) hw hbn e0 h1).mono ?_
  rintro e w' ⟨bf,VV,rfl,hS,hm⟩
  refine⟨bf 0,rfl,gP hm,fun q=>⟨none,.Gy hS (jV hS hm) rfl ?_⟩⟩
  unfold fZ
  exact if_pos (show ¬(aP l).ok from e0)
end Go.Proofs.YtlaogoehmndcjaaGreatDoor.Sy
namespace Go.Proofs.YtlaogoehmndcjaaGreatDoor.Sy
open Go RowKit Lib AS Base Ba
noncomputable section
theorem MH (w:World):Calls Tryz.prog 198 #[.agg #[.int .i32 0,.int .u8 0,.int .u8 192,.int .u16 0,.int .i32 0,.int .i32 0,.int .i32 0,.int .i32 0,.int .u64 0]] w fun e w'=>e =.returned (.agg #[.int .u64 211106232532992,.int .u64 0,.int .u64 0,.int .u64 0])∧Below w.heap.size w w':=pW 0 0 0 0 0 192 0 (by omega) (by omega) w
abbrev nV:List Nat:=[36,48,78,79,80,83,101,102,103,116,126,130,138,139,140,141,142,144,149,150,154,155,156,157,158,159,166,182,183,184,189,190,192,193,194,195,196,197,198,199,200,201,222,223,224,225,226,227,239,240,285,287]
abbrev nU:List Nat:=[1,2,3,4,5,21,23,31,32,34,39,49,51,76,95,138,148,155,158,160,162,171,208,209,211,227,272,293]
abbrev LX:TypeId×List Value:=(171,[qP 0])
abbrev fC:TypeId×List Value:=(138,[qP 0])
abbrev Uw:TypeId×List Value:=(208,[qF 101 [qP 7,qP 8]])
abbrev Yo:TypeId×List Value:=(211,zA++[.nilFunc]++dM++[sym 12,sym 13,.pointer none,sym 14,sym 15,sym 16,sym 17,.bool false,sym 18,.int .i64 7])
abbrev aas:TypeId×List Value:=(211,[iZ,sym 7,sym 8,sym 9,sym 10,sym 11,.nilFunc]++dM++[sym 12,sym 13,.pointer none,sym 14,sym 15,sym 16,sym 17,.bool false,sym 18,sym 19])
abbrev Yn:TypeId×List Value:=(211,zA++[.nilFunc]++dM++[sym 12,sym 13,qP 60,sym 20,sym 25,sym 27,sym 21,.bool true,sym 18,sym 19])
abbrev Ym:TypeId×List Value:=(211,[.int .i64 2,sym 28,.int .i64 8,sym 22,uZ,sZ,qF 201 [qP 31]]++dM++[sym 12,sym 13,.pointer none,sym 14,sym 15,sym 16,sym 17,.bool true,sym 18,sym 19])
abbrev LW:TypeId×List Value:=(1,[qF 200 [qP 2,qP 18]])
abbrev vL:TypeId×List Value:=(148,[qF 199 [qP 4,qP 5,qP 6,qP 7,qP 2]])
abbrev I5:TypeId×List Value:=(148,[qF 193 [qP 8,qP 9]])
abbrev jI:TypeId×List Value:=(3,[sym 20])
abbrev mQ:TypeId×List Value:=(162,[sym 21,sym 22,sym 23,uZ])
abbrev jH:TypeId×List Value:=(21,[sym 24])
abbrev nS:TypeId×List Value:=(211,[iZ,sym 7,sym 8,sym 9,sym 10,sym 11,.nilFunc]++dM++[sym 12,sym 13,qP 1,sym 14,sym 15,sym 16,sym 17,.bool true,sym 18,sym 19])
abbrev Yr:TypeId×List Value:=(272,[iZ,sym 20,iZ,sym 21,sym 22,sZ,.nilFunc]++dM++[sym 23,sym 24,.bool false,sym 25])
abbrev vM:TypeId×List Value:=(209,[qP 1])
abbrev Ak:TypeId×List Value:=(148,[qF 158 [qP 8,qP 9]])
abbrev RQ:TypeId×List Value:=(211,[.int .i64 2,sym 28,.int .i64 8,sym 23,uZ,sZ,qF 201 [qP 31]]++dM++[sym 12,sym 13,.pointer none,sym 14,sym 15,sym 16,sym 17,.bool true,sym 18,sym 19])
abbrev RP:TypeId×List Value:=(211,[.int .i64 2,sym 28,.int .i64 8,uZ,uZ,sZ,qF 201 [qP 31]]++dM++[sym 12,sym 13,.pointer none,sym 14,sym 15,sym 16,sym 17,.bool true,sym 18,sym 19])
abbrev Yq:TypeId×List Value:=(272,[iZ,sym 20,iZ,sym 21,sym 22,sZ,.nilFunc]++dM++[sym 23,sym 24,sym 25,sym 26])
abbrev RO:TypeId×List Value:=(211,zA++[.nilFunc]++dM++[sym 12,sym 13,qP 33,sym 14,sym 15,sym 16,sym 17,.bool true,sym 18,sym 19])
abbrev Yp:TypeId×List Value:=(211,[iZ,sym 7,sym 8,sym 9,sym 10,sym 11,.nilFunc]++dM++[sym 12,sym 13,.pointer none,sym 14,sym 15,sym 16,sym 17,.bool true,sym 18,sym 19])
abbrev OU:TypeId×List Value:=(211,[.int .i64 1,sym 7,sym 8,sym 9,sym 10,sym 11,qF 166 [qP 1]]++dM++[sym 12,sym 13,.pointer none,sym 14,sym 15,sym 16,sym 17,.bool false,sym 18,sym 19])
abbrev qE:TypeId×List Value:=(211,[.int .i64 2,sym 7,sym 8,sym 9,sym 10,sym 11,qF 201 [qP 1]]++dM++[sym 12,sym 13,.pointer none,sym 14,sym 15,sym 16,sym 17,.bool true,sym 18,sym 19])
abbrev xG:TypeId×List Value:=(1,[qF 200 [qP 2,qP 3]])
abbrev RN:TypeId×List Value:=(272,[.int .i64 1,sym 20,.int .i64 8,sym 21,sym 22,sZ,qF 166 [qP 2]]++dM++[sym 23,sym 24,.bool false,sym 25])
def pO:dU:=[OU,(227,[qF 138 [qP 2,qP 3,qP 4,qP 5]]),LX,(23,dM),(208,[qF 101 [qP 6,qP 7]]),(2,[sym 20]),fC,(3,[sym 21])]
def Cn (l:Lg) (aO kn kv kw:Int) (kb:Value) (cb:Value) (aW:Bool) (part bg off size pos ee y1 y0:Int):List Value:=iN l++[iL aO,iL kn,iW kv,iW kw,kb,cb,.bool aW,iL part,iI bg,iL off,iL size,iL pos,iL ee,iL y1,iL y0]
def Cr:dU:=[OU,(227,[qF 139 [qP 2,qP 3,qP 4,qP 5,qP 6]]),LX,(23,dM),Uw,(31,[sym 20]),(2,[sym 21]),fC,(3,[sym 22])]
def OY (l:Lg) (aO kn kv kw:Int) (kb:Value) (cb:Value) (aW:Bool) (part bg off size pos ee y2 y3 y0:Int):List Value:=iN l++[iL aO,iL kn,iW kv,iW kw,kb,cb,.bool aW,iL part,iI bg,iL off,iL size,iL pos,iL ee,iW y2,iL y3,iL y0]
def mR:dU:=[OU,(227,[qF 140 [qP 2,qP 3,qP 4,qP 5,qP 6]]),Uw,(155,[sym 20]),(23,dM),(31,[sym 21]),(2,[sym 22]),fC,(3,[sym 23])]
def Ao (l:Lg) (aO kn kv kw:Int) (kb:Value) (cb:Value) (aW:Bool) (part bg off size pos ee y4 y5 y6 y0:Int):List Value:=iN l++[iL aO,iL kn,iW kv,iW kw,kb,cb,.bool aW,iL part,iI bg,iL off,iL size,iL pos,iL ee,iU y4,iW y5,iL y6,iL y0]
def gV:dU:=[aas]
def lU (l:Lg) (aO kn kv kw:Int) (kb:Value) (cb:Value) (aW:Bool) (part bg off size pos ee:Int):List Value:=iN l++[iL aO,iL kn,iW kv,iW kw,kb,cb,.bool aW,iL part,iI bg,iL off,iL size,iL pos,iL ee]
def pM:dU:=[(211,[.int .i64 3,sym 7,sym 8,sym 9,sym 10,sym 11,qF 184 [qP 1]]++dM++[sym 12,sym 13,.pointer none,sym 14,sym 15,sym 16,sym 17,.bool false,sym 18,sym 19]),(227,[qF 154 [qP 2,qP 3,qP 4]]),jI,(2,[sym 21]),fC]
def Cm (l:Lg) (aO kn kv kw:Int) (kb:Value) (cb:Value) (aW:Bool) (part bg off size pos ee y7 y8:Int):List Value:=iN l++[iL aO,iL kn,iW kv,iW kw,kb,cb,.bool aW,iL part,iI bg,iL off,iL size,iL pos,iL ee,iL y7,iL y8]
def Cq:dU:=[qE,xG,vL,(3,[iZ]),I5,jI,fC,mQ,fC,jH]
def OX (l:Lg) (aO kn kv kw:Int) (kb:Value) (cb:Value) (aW:Bool) (part bg off size pos ee yf yg yh yi ya:Int):List Value:=iN l++[iL aO,iL kn,iW kv,iW kw,kb,cb,.bool aW,iL part,iI bg,iL off,iL size,iL pos,iL ee,iL yf,iW yg,iW yh,iW yi,iI ya]
def nT:dU:=[nS,Yr]
def Am (l:Lg) (aO kn kv kw:Int) (kb:Value) (cb:Value) (aW:Bool) (part bg off size pos ee bq bP bM aN az bD:Int):List Value:=iN l++[iL aO,iL kn,iW kv,iW kw,kb,cb,.bool aW,iL part,iI bg,iL off,iL size,iL pos,iL ee,iL bq,iW bP,iW bM,iI aN,iU az,iL bD]
def pK:dU:=[nS,RN,(227,[qF 189 [qP 3]]),vM]
def Ck (l:Lg) (aO kn kv kw:Int) (kb:Value) (cb:Value) (aW:Bool) (part bg off size pos ee bq bP bM aN az bD:Int):List Value:=iN l++[iL aO,iL kn,iW kv,iW kw,kb,cb,.bool aW,iL part,iI bg,iL off,iL size,iL pos,iL ee,iL bq,iW bP,iW bM,iI aN,iU az,iL bD]
def F9:dU:=[qE,xG,vL,(3,[iZ]),Ak,jI,fC,mQ,fC,jH]
def OW (l:Lg) (aO kn kv kw:Int) (kb:Value) (cb:Value) (aW:Bool) (part bg off size pos ee yf yg yh yi y9:Int):List Value:=iN l++[iL aO,iL kn,iW kv,iW kw,kb,cb,.bool aW,iL part,iI bg,iL off,iL size,iL pos,iL ee,iL yf,iW yg,iW yh,iW yi,iI y9]
def Co:dU:=[qE,xG,vL,(3,[.int .i64 1]),I5,jI,fC,mQ,fC,jH]
def OV (l:Lg) (aO kn kv kw:Int) (kb:Value) (cb:Value) (aW:Bool) (part bg off size pos ee yf yg yh yi ya:Int):List Value:=iN l++[iL aO,iL kn,iW kv,iW kw,kb,cb,.bool aW,iL part,iI bg,iL off,iL size,iL pos,iL ee,iL yf,iW yg,iW yh,iW yi,iI ya]
def kP:dU:=[nS,RN,(227,[qF 222 [qP 3,qP 4]]),vM,(3,[sym 26])]
def wM (l:Lg) (aO kn kv kw:Int) (kb:Value) (cb:Value) (aW:Bool) (part bg off size pos ee bq bP bM aN az bD yj:Int):List Value:=iN l++[iL aO,iL kn,iW kv,iW kw,kb,cb,.bool aW,iL part,iI bg,iL off,iL size,iL pos,iL ee,iL bq,iW bP,iW bM,iI aN,iU az,iL bD,iL yj]
def Az:dU:=[qE,xG,vL,(3,[.int .i64 1]),Ak,jI,fC,mQ,fC,jH]
def Ja (l:Lg) (aO kn kv kw:Int) (kb:Value) (cb:Value) (aW:Bool) (part bg off size pos ee yf yg yh yi y9:Int):List Value:=iN l++[iL aO,iL kn,iW kv,iW kw,kb,cb,.bool aW,iL part,iI bg,iL off,iL size,iL pos,iL ee,iL yf,iW yg,iW yh,iW yi,iI y9]
def wO:dU:=[qE,xG,vL,(3,[.int .i64 2]),I5,jI,fC,mQ,fC,jH]
def I9 (l:Lg) (aO kn kv kw:Int) (kb:Value) (cb:Value) (aW:Bool) (part bg off size pos ee yf yg yh yi ya:Int):List Value:=iN l++[iL aO,iL kn,iW kv,iW kw,kb,cb,.bool aW,iL part,iI bg,iL off,iL size,iL pos,iL ee,iL yf,iW yg,iW yh,iW yi,iI ya]
def lY:dU:=[nS,(272,[.int .i64 4,sym 20,.int .i64 8,sym 21,sym 22,sZ,qF 240 [qP 2]]++dM++[sym 23,sym 24,.bool false,sym 25]),(293,[qF 225 [qP 3]]),vM]
def Av (l:Lg) (aO kn kv kw:Int) (kb:Value) (cb:Value) (aW:Bool) (part bg off size pos ee bq bP bM aN az bD:Int):List Value:=iN l++[iL aO,iL kn,iW kv,iW kw,kb,cb,.bool aW,iL part,iI bg,iL off,iL size,iL pos,iL ee,iL bq,iW bP,iW bM,iI aN,iU az,iL bD]
def mZ:dU:=[nS,(272,[.int .i64 4,sym 20,.int .i64 4,sym 21,sym 22,sZ,qF 240 [qP 2]]++dM++[sym 23,sym 24,.bool false,sym 25]),(293,[qF 239 [qP 3]]),vM]
def Au (l:Lg) (aO kn kv kw:Int) (kb:Value) (cb:Value) (aW:Bool) (part bg off size pos ee bq bP bM aN az bD:Int):List Value:=iN l++[iL aO,iL kn,iW kv,iW kw,kb,cb,.bool aW,iL part,iI bg,iL off,iL size,iL pos,iL ee,iL bq,iW bP,iW bM,iI aN,iU az,iL bD]
def Ay:dU:=[qE,xG,vL,(3,[.int .i64 2]),Ak,jI,fC,mQ,fC,jH]
def I8 (l:Lg) (aO kn kv kw:Int) (kb:Value) (cb:Value) (aW:Bool) (part bg off size pos ee yf yg yh yi y9:Int):List Value:=iN l++[iL aO,iL kn,iW kv,iW kw,kb,cb,.bool aW,iL part,iI bg,iL off,iL size,iL pos,iL ee,iL yf,iW yg,iW yh,iW yi,iI y9]
def lX:dU:=[qE,xG,vL,(3,[.int .i64 3]),I5,jI,fC,mQ,fC,jH]
def Ar (l:Lg) (aO kn kv kw:Int) (kb:Value) (cb:Value) (aW:Bool) (part bg off size pos ee yf yg yh yi ya:Int):List Value:=iN l++[iL aO,iL kn,iW kv,iW kw,kb,cb,.bool aW,iL part,iI bg,iL off,iL size,iL pos,iL ee,iL yf,iW yg,iW yh,iW yi,iI ya]
def lW:dU:=[nS,Yq]
def Aq (l:Lg) (aO kn kv kw:Int) (kb:Value) (cb:Value) (aW:Bool) (part bg off size pos ee bq bP bM aN az:Int) (rE:Bool) (bD:Int):List Value:=iN l++[iL aO,iL kn,iW kv,iW kw,kb,cb,.bool aW,iL part,iI bg,iL off,iL size,iL pos,iL ee,iL bq,iW bP,iW bM,iI aN,iU az,.bool rE,iL bD]
def Aw:dU:=[qE,xG,vL,(3,[.int .i64 3]),Ak,jI,fC,mQ,fC,jH]
def I7 (l:Lg) (aO kn kv kw:Int) (kb:Value) (cb:Value) (aW:Bool) (part bg off size pos ee yf yg yh yi y9:Int):List Value:=iN l++[iL aO,iL kn,iW kv,iW kw,kb,cb,.bool aW,iL part,iI bg,iL off,iL size,iL pos,iL ee,iL yf,iW yg,iW yh,iW yi,iI y9]
def tY:dU:=[qE,(1,[qF 197 [qP 2]]),fC]
def Ap (l:Lg) (aO kn kv kw:Int) (kb:Value) (cb:Value) (aW:Bool) (part bg off size pos ee:Int):List Value:=iN l++[iL aO,iL kn,iW kv,iW kw,kb,cb,.bool aW,iL part,iI bg,iL off,iL size,iL pos,iL ee]
def wN:dU:=[qE,(1,[qF 196 [qP 2,qP 3,qP 4]]),fC,jI,(21,[sym 21])]
def Ec (l:Lg) (aO kn kv kw:Int) (kb:Value) (cb:Value) (aW:Bool) (part bg off size pos ee yd ye:Int):List Value:=iN l++[iL aO,iL kn,iW kv,iW kw,kb,cb,.bool aW,iL part,iI bg,iL off,iL size,iL pos,iL ee,iL yd,iI ye]
def kN:dU:=[(211,[.int .i64 6,sym 7,sym 8,sym 9,sym 10,sym 11,qF 227 [qP 1,qP 2,qP 3,qP 4,qP 5]]++dM++[sym 12,sym 13,.pointer none,sym 14,sym 15,sym 16,sym 17,.bool true,sym 18,sym 19]),LX,jI,(3,[sym 21]),(32,[sym 22]),(1,[qF 195 [qP 6,qP 7,qP 8]]),fC,(3,[sym 23]),jH]
def wL (l:Lg) (aO kn kv kw:Int) (kb:Value) (cb:Value) (aW:Bool) (part bg off size pos ee yk yl:Int) (ym:Value) (yb yc:Int):List Value:=iN l++[iL aO,iL kn,iW kv,iW kw,kb,cb,.bool aW,iL part,iI bg,iL off,iL size,iL pos,iL ee,iL yk,iL yl,ym,iL yb,iI yc]
def tX:dU:=[qE,(1,[.func (.func 156) #[qP 0] #[]])]
def Eb (l:Lg) (aO kn kv kw:Int) (kb:Value) (cb:Value) (aW:Bool) (part bg off size pos ee:Int):List Value:=iN l++[iL aO,iL kn,iW kv,iW kw,kb,cb,.bool aW,iL part,iI bg,iL off,iL size,iL pos,iL ee]
def tV:dU:=[Yp]
def Ea (l:Lg) (aO kn kv kw:Int) (kb:Value) (cb:Value) (aW:Bool) (part bg off size pos ee:Int):List Value:=iN l++[iL aO,iL kn,iW kv,iW kw,kb,cb,.bool aW,iL part,iI bg,iL off,iL size,iL pos,iL ee]
