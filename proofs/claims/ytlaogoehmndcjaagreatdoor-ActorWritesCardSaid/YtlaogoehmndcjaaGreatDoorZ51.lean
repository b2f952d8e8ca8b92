import Derived.Test.YtlaogoehmndcjaaGreatDoorZ48
import Derived.Test.YtlaogoehmndcjaaGreatDoorZ49
import Derived.Test.YtlaogoehmndcjaaGreatDoorZ50
set_option linter.unusedVariables false
set_option linter.unusedSectionVars false
set_option linter.unusedSimpArgs false
namespace Go.Proofs.YtlaogoehmndcjaaGreatDoor.Sy
open Go RowKit Lib AS Base Pr Ba
noncomputable section
inductive Zp (ka:Option Addr) (l:Lg) (q:Nat) (p:Pr An Ot) (W:World) (rt:Nat×Nat) (O:Nat→Prop):Value→Prop
 | offer {B:List Nat} (hB:∀x∈B,x<256) (hl:B.length≤1000) (ha:lQ p→(B.length:Int)≤l.term/8) (h:OR l B q p ka W rt O):Zp ka l q p W rt O (.iface 136 (dS rt))
 | claim {B:List Nat} {aW:Bool} (hl:B.length≤1000) (ha:lQ p→(B.length:Int)≤l.aV) (h:CR l B aW q p ka W rt O):Zp ka l q p W rt O (.iface 138 (dS rt))
 | wrong {τ:Nat→Nat×Nat} (hS:ah W (dl []) kT τ) (ho:Own kT τ rt O) (hp:p =.done ⟨bW,false,0,1⟩):Zp ka l q p W rt O (.iface 140 (dS rt))
structure AY (ka:Option Addr) (l:Lg) (q:Nat) (p:Pr An Ot) (v:Value) (W:World) (O:Nat→Prop):Prop where
 lt:∀b,O b→b<W.heap.size
 ok:lQ p→l.ok
 ex:∃rt,Zp ka l q p W rt O v
section
variable {ka:Option Addr} {l:Lg} {q:Nat} {p:Pr An Ot} {v:Value} {W W':World} {O O':Nat→Prop} {rt:Nat×Nat}
theorem AX.y (h:AX l q p v W O):∃ka,AY ka l q p v W O:=by
 obtain⟨lt,ok,rt,hk⟩:=h
 cases hk with
 | offer hB hl ha h=>obtain⟨ka,h⟩:=h;exact⟨ka,lt,ok,rt,.offer hB hl ha h⟩
 | @claim B aW hl ha h=>obtain⟨ka,h⟩:=h;exact⟨ka,lt,ok,rt,.claim (B:=B) (aW:=aW) hl ha h⟩
 | wrong hS ho hp=>exact⟨none,lt,ok,rt,.wrong hS ho hp⟩
theorem AY.x (h:AY ka l q p v W O):AX l q p v W O:=by
 obtain⟨lt,ok,rt,hk⟩:=h
 cases hk with
 | offer hB hl ha h=>exact⟨lt,ok,rt,.offer hB hl ha ⟨ka,h⟩⟩
 | @claim B aW hl ha h=>exact⟨lt,ok,rt,.claim (B:=B) (aW:=aW) hl ha ⟨ka,h⟩⟩
 | wrong hS ho hp=>exact⟨lt,ok,rt,.wrong hS ho hp⟩
theorem AY.bytes (h:AY ka l q p v W O):Gu p≠[]→RowK W [] bI O ka (Gu p):=by
 obtain⟨lt,ok,rt,hk⟩:=h
 cases hk with
 | offer hB hl ha h=>exact h.bytes
 | claim hl ha h=>exact h.bytes
 | wrong hS ho hp=>subst hp;exact fun h=>absurd rfl h
theorem AY.move (h:AY ka l q p v W O) (hs:W.heap.size≤W'.heap.size) (hkk:∀b,O b→W'.heap[b]? = W.heap[b]?):AY ka l q p v W' O:=by
 obtain⟨lt,ok,rt,hk⟩:=h
 refine⟨fun b hb=>Nat.lt_of_lt_of_le (lt b hb) hs,ok,rt,?_⟩
 cases hk with
 | offer hB hl ha h=>exact .offer hB hl ha (h.move hkk fun _ h=>h)
 | @claim B aW hl ha h=>exact .claim (B:=B) (aW:=aW) hl ha (h.move hkk fun _ h=>h)
 | wrong hS ho hp=>exact .wrong (hS.keep fun i hi=>hkk _ (ho.o i hi)) (ho.wide fun _ h=>h) hp
structure Pw (ka:Option Addr) (l:Lg) (q:Nat) (p:Pr An Ot) (v:Value) (W:World) (O:Nat→Prop) (rt:Nat×Nat) (fN fS:Nat):Prop where
 next:Calls Tryz.prog fN #[dS rt] W fun e w'=>∃nv,e =.returned nv∧NV p ka nv∧jB O W w'∧AY ka l q p v w' (Grow O W w')
 slot:Calls Tryz.prog fS #[dS rt] W fun e w'=>e =.returned (iq p.obs.s p.obs.has)∧jB O W w'∧AY ka l q p v w' (Grow O W w')
theorem AY.acts (h:AY ka l q p v W O):∃rt,(v =.iface 136 (dS rt)∧Pw ka l q p v W O rt 278 280)∨(v =.iface 138 (dS rt)∧Pw ka l q p v W O rt 282 284)∨(v =.iface 140 (dS rt)∧Pw ka l q p v W O rt 43 289):=by
 obtain⟨lt,ok,rt,hk⟩:=h
 cases hk with
 | offer hB hl ha h =>
   have hk:∀w',jB O W w'→OR l _ q p ka w' rt (Grow O W w')→AY ka l q p (.iface 136 (dS rt)) w' (Grow O W w'):=fun w' hf ho=>⟨mM lt hf.size,ok,rt,.offer hB hl ha ho⟩
   obtain⟨⟨v1,n1,c1⟩,⟨v2,n2,c2⟩,-⟩:=h.tells
   subst n2
   refine⟨rt,.inl ⟨rfl,⟨c1.mono ?_,c2.mono ?_⟩⟩⟩
   ·rintro e w' ⟨rfl,hf,ho⟩;exact⟨v1,rfl,n1,hf,hk w' hf ho⟩
   ·rintro e w' ⟨rfl,hf,ho⟩;exact⟨rfl,hf,hk w' hf ho⟩
 | @claim B aW hl ha h =>
   have hk:∀w',jB O W w'→CR l B aW q p ka w' rt (Grow O W w')→AY ka l q p (.iface 138 (dS rt)) w' (Grow O W w'):=fun w' hf ho=>⟨mM lt hf.size,ok,rt,.claim (B:=B) (aW:=aW) hl ha ho⟩
   obtain⟨⟨v1,n1,c1⟩,⟨v2,n2,c2⟩,-⟩:=h.tells
   subst n2
   refine⟨rt,.inr (.inl ⟨rfl,⟨c1.mono ?_,c2.mono ?_⟩⟩)⟩
   ·rintro e w' ⟨rfl,hf,ho⟩;exact⟨v1,rfl,n1,hf,hk w' hf ho⟩
   ·rintro e w' ⟨rfl,hf,ho⟩;exact⟨rfl,hf,hk w' hf ho⟩
 | wrong hS ho hp =>
   subst hp
   have hr:=ho.r
   subst hr
   have hk:∀w',ah w' (dl []) kT _→bK kT _ W kT _ w'→jB O W w'∧AY ka l q (.done ⟨bW,false,0,1⟩) _ w' (Grow O W w'):=fun w' h1 h2=>⟨ho.jL h2,mM lt (ho.jL h2).size,ok,_,.wrong h1 (ho.step h2 rfl h1) rfl⟩
   refine⟨_,.inr (.inr ⟨rfl,⟨(wn1 hS).mono ?_,(ws1 hS).mono ?_⟩⟩)⟩
   ·rintro e w' ⟨rfl,h1,h2⟩;exact⟨_,rfl,rfl,hk w' h1 h2⟩
   ·rintro e w' ⟨rfl,h1,h2⟩;exact⟨rfl,hk w' h1 h2⟩
end
theorem NV.form {R:Type} {p:Pr An R} {ka:Option Addr} {nv:Value} (h:NV p ka nv):∃(k a n v u:Int) (ba:Option Addr) (bn bc:Nat) (t:Bool),nv =.tuple #[.agg #[.int .i64 k,.int .i64 a,.int .i64 n,.int .u64 v,.int .u64 u,.slice ba bn bc],.bool t]:=by
 cases p with
 | done o=>exact⟨_,_,_,_,_,_,_,_,_,h⟩
 | ask o a k=>obtain⟨ba,bc,e,_⟩:=h;exact⟨_,_,_,_,_,_,_,_,_,e⟩
section
variable {ka:Option Addr} {l:Lg} {q:Nat} {p:Pr An Ot} {now:Value} {O:Nat→Prop}
theorem uj {w W1 w1 W2:World} {X:Nat} {nv:Value} (hX:w.heap.size=X) (b1:Below X w W1) (s1:W1.heap.size=X+1) (hlt:∀k,O k→k<X) (hwv:NV p ka nv) (hf:jB O W1 w1) (hax:AY ka l q p now w1 (Grow O W1 w1)) (ho:Only X w1 W2) :
 ∃nv' O',Ending.returned nv =.returned nv'∧(∀k,O' k→O k∨w.heap.size≤k)∧NV p ka nv'∧jB O w W2∧AY ka l q p now W2 O':=by
 have hne:∀k,Grow O W1 w1 k→W2.heap[k]? = w1.heap[k]? := fun k hk=>ho.block k (hax.lt k hk) (by rcases hk with hk|hk;have:=hlt k hk;omega;omega)
 refine⟨nv,Grow O W1 w1,rfl,fun k hk => ?_,hwv,⟨?_,?_,?_,?_,fun k hk hn => ?_⟩,hax.move ho.size hne⟩
 ·rcases hk with hk|hk
  ·exact .inl hk
  ·exact .inr (by omega)
 ·exact ho.os.trans (hf.os.trans b1.os)
 ·exact ho.tape.trans (hf.tape.trans b1.tape)
 ·exact ho.output.trans (hf.output.trans b1.output)
 ·have:=hf.size;have:=ho.size;omega
 ·exact(ho.block k (by have:=hf.size;omega) (by omega)).trans ((hf.block k (by omega) hn).trans (b1.block k (by omega)))
theorem Gf {w:World} {b:Nat} {left dn:Value} {tries n:Int} (hT:w.heap[b]? = some (.cells (ji b now true l left tries n dn) 89)) (hA:AY ka l q p now w O) (hb:¬O b) :
 Calls Tryz.prog 33 #[.pointer (some ⟨b,0,none⟩)] w fun e w'=>∃nv O',e =.returned nv∧(∀k,O' k→O k∨w.heap.size≤k)∧NV p ka nv∧jB O w w'∧AY ka l q p now w' O':=by
 unfold ji at hT
 have htl:=(Array.getElem?_eq_some_iff.1 hT).1
 obtain⟨X,hX⟩:∃X,w.heap.size=X:=⟨_,rfl⟩
 obtain⟨W1,hW1⟩:∃W1,w.alloc (.cells #[.int .i64 0,.int .i64 0,.int .i64 0,.int .u64 0,.int .u64 0,.slice none 0 0] 34)=W1:=⟨_,rfl⟩
 have s1:W1.heap.size=X+1:=by rw[←hW1,←hX];simp
 have b1:Below X w W1:=by rw[←hW1,←hX];exact(Below.refl _ _).alloc (Nat.le_refl _) _
 have r1:W1.heap[X]? = some (.cells #[.int .i64 0,.int .i64 0,.int .i64 0,.int .u64 0,.int .u64 0,.slice none 0 0] 34):=by rw[←hW1,←hX];exact aZ _ _
 have hA1:AY ka l q p now W1 O:=hA.move (by omega) fun k hk=>b1.block k (by rw[←hX];exact hA.lt k hk)
 have hlt:∀k,O k→k<X:=fun k hk=>by have:=hA.lt k hk;omega
 obtain⟨rt,hc⟩:=hA1.acts
 obtain⟨c0,c1,c2,c3,-⟩:=eH ((b1.block b (by omega)).trans hT)
 rcases hc with⟨rfl,hc⟩|⟨rfl,hc⟩|⟨rfl,hc⟩
 ·have c:=hc.next
  have HT:=aC (aR hlt (aR b1 (aR r1 htl)))
  clear hA1 b1 hT htl hc hA r1 hlt
  go_enter Tryz.func33,Tryz.ntmps33
  go_wp2_with (fail)
  refine c.mono ?_
  clear c
  rintro e w1 ⟨nv,rfl,hwv,hf,hax⟩
  obtain⟨ak,aa,an,av,au,wV,vU,abc,at_,rfl⟩:=hwv.form
  have hx:=(hf.block X (by omega) (fun h=>by have:=HT.out.1 X h;omega)).trans HT.out.2.2.1
  obtain⟨d0,d1,d2,d3,d4,d5,e0,e1,e2,e3,e4,e5⟩:=yz hx
  have H1:=aC (aR hwv (aR hf hax))
  have h2:=K5 hx (.int .i64 ak) (.int .i64 aa) (.int .i64 an) (.int .u64 av) (.int .u64 au) (.slice wV vU abc)
  have ho:=BM (X:=X) w1 (.int .i64 ak) (.int .i64 aa) (.int .i64 an) (.int .u64 av) (.int .u64 au) (.slice wV vU abc)
  obtain⟨W2,hW2⟩:∃W2,((((((w1.setCell ⟨X,0,none⟩ (.int .i64 ak)).setCell ⟨X,1,none⟩ (.int .i64 aa)).setCell ⟨X,2,none⟩ (.int .i64 an)).setCell ⟨X,3,none⟩ (.int .u64 av)).setCell ⟨X,4,none⟩ (.int .u64 au)).setCell ⟨X,5,none⟩ (.slice wV vU abc))=W2:=⟨_,rfl⟩
  rw[hW2]at h2 ho
  have H2:=aC (aR h2 ho)
  clear hwv hf hax hx h2 ho
  go_wp2
  obtain⟨k0,k1,k2,k3,k4,k5,-⟩:=yz H2.out.1
  refine bodyPost_ret (v :=.tuple #[.agg #[.int .i64 ak,.int .i64 aa,.int .i64 an,.int .u64 av,.int .u64 au,.slice wV vU abc],.bool at_]) (by simp[results,Tryz.results33,go_sem,k0,k1,k2,k3,k4,k5]) rfl ?_
  exact uj hX HT.out.2.1 s1 HT.out.1 H1.out.1 H1.out.2.1 H1.out.2.2 H2.out.2
 ·have c:=hc.next
  have HT:=aC (aR hlt (aR b1 (aR r1 htl)))
  clear hA1 b1 hT htl hc hA r1 hlt
  go_enter Tryz.func33,Tryz.ntmps33
  go_wp2_with (fail)
  refine c.mono ?_
  clear c
  rintro e w1 ⟨nv,rfl,hwv,hf,hax⟩
  obtain⟨ak,aa,an,av,au,wV,vU,abc,at_,rfl⟩:=hwv.form
  have hx:=(hf.block X (by omega) (fun h=>by have:=HT.out.1 X h;omega)).trans HT.out.2.2.1
  obtain⟨d0,d1,d2,d3,d4,d5,e0,e1,e2,e3,e4,e5⟩:=yz hx
  have H1:=aC (aR hwv (aR hf hax))
  have h2:=K5 hx (.int .i64 ak) (.int .i64 aa) (.int .i64 an) (.int .u64 av) (.int .u64 au) (.slice wV vU abc)
  have ho:=BM (X:=X) w1 (.int .i64 ak) (.int .i64 aa) (.int .i64 an) (.int .u64 av) (.int .u64 au) (.slice wV vU abc)
  obtain⟨W2,hW2⟩:∃W2,((((((w1.setCell ⟨X,0,none⟩ (.int .i64 ak)).setCell ⟨X,1,none⟩ (.int .i64 aa)).setCell ⟨X,2,none⟩ (.int .i64 an)).setCell ⟨X,3,none⟩ (.int .u64 av)).setCell ⟨X,4,none⟩ (.int .u64 au)).setCell ⟨X,5,none⟩ (.slice wV vU abc))=W2:=⟨_,rfl⟩
  rw[hW2]at h2 ho
  have H2:=aC (aR h2 ho)
  clear hwv hf hax hx h2 ho
  go_wp2
  obtain⟨k0,k1,k2,k3,k4,k5,-⟩:=yz H2.out.1
  refine bodyPost_ret (v :=.tuple #[.agg #[.int .i64 ak,.int .i64 aa,.int .i64 an,.int .u64 av,.int .u64 au,.slice wV vU abc],.bool at_]) (by simp[results,Tryz.results33,go_sem,k0,k1,k2,k3,k4,k5]) rfl ?_
  exact uj hX HT.out.2.1 s1 HT.out.1 H1.out.1 H1.out.2.1 H1.out.2.2 H2.out.2
 ·have c:=hc.next
  have HT:=aC (aR hlt (aR b1 (aR r1 htl)))
  clear hA1 b1 hT htl hc hA r1 hlt
  go_enter Tryz.func33,Tryz.ntmps33
  go_wp2_with (fail)
  refine c.mono ?_
  clear c
  rintro e w1 ⟨nv,rfl,hwv,hf,hax⟩
  obtain⟨ak,aa,an,av,au,wV,vU,abc,at_,rfl⟩:=hwv.form
  have hx:=(hf.block X (by omega) (fun h=>by have:=HT.out.1 X h;omega)).trans HT.out.2.2.1
  obtain⟨d0,d1,d2,d3,d4,d5,e0,e1,e2,e3,e4,e5⟩:=yz hx
  have H1:=aC (aR hwv (aR hf hax))
  have h2:=K5 hx (.int .i64 ak) (.int .i64 aa) (.int .i64 an) (.int .u64 av) (.int .u64 au) (.slice wV vU abc)
  have ho:=BM (X:=X) w1 (.int .i64 ak) (.int .i64 aa) (.int .i64 an) (.int .u64 av) (.int .u64 au) (.slice wV vU abc)
  obtain⟨W2,hW2⟩:∃W2,((((((w1.setCell ⟨X,0,none⟩ (.int .i64 ak)).setCell ⟨X,1,none⟩ (.int .i64 aa)).setCell ⟨X,2,none⟩ (.int .i64 an)).setCell ⟨X,3,none⟩ (.int .u64 av)).setCell ⟨X,4,none⟩ (.int .u64 au)).setCell ⟨X,5,none⟩ (.slice wV vU abc))=W2:=⟨_,rfl⟩
  rw[hW2]at h2 ho
  have H2:=aC (aR h2 ho)
  clear hwv hf hax hx h2 ho
  go_wp2
  obtain⟨k0,k1,k2,k3,k4,k5,-⟩:=yz H2.out.1
  refine bodyPost_ret (v :=.tuple #[.agg #[.int .i64 ak,.int .i64 aa,.int .i64 an,.int .u64 av,.int .u64 au,.slice wV vU abc],.bool at_]) (by simp[results,Tryz.results33,go_sem,k0,k1,k2,k3,k4,k5]) rfl ?_
  exact uj hX HT.out.2.1 s1 HT.out.1 H1.out.1 H1.out.2.1 H1.out.2.2 H2.out.2
end
structure Eu (ka:Option Addr) (l:Lg) (q:Nat) (W:World) (b:Nat) (K:Nat→Prop) (p:Pr An Ot) (ops:List gz) (tries n:Int) (out:List ng):Prop where
 lt:∀k,K k→k<W.heap.size
 kb:K b
 ex:∃now left dn OA,W.heap[b]? = some (.cells (ji b now true l left tries n dn) 89)∧AY ka l q p now W OA∧(∀k,OA k→K k∧k≠b)∧RX W b K OA left dn ops out
section
variable {ka:Option Addr} {l:Lg} {q q':Nat} {W W':World} {b:Nat} {K:Nat→Prop} {p p':Pr An Ot} {ops:List gz} {tries n:Int} {out:List ng} {now left dn:Value} {OA O':Nat→Prop}
theorem WX.y (h:WX l q W b K true p ops tries n out):∃ka,Eu ka l q W b K p ops tries n out:=by
 obtain⟨lt,kb,now,left,dn,OA,hT,hA,hO,hr⟩:=h
 obtain⟨ka,hA⟩:=(hA rfl).y
 exact⟨ka,lt,kb,now,left,dn,OA,hT,hA,hO,hr⟩
theorem Eu.x (h:Eu ka l q W b K p ops tries n out):WX l q W b K true p ops tries n out:=by
 obtain⟨lt,kb,now,left,dn,OA,hT,hA,hO,hr⟩:=h
 exact⟨lt,kb,now,left,dn,OA,hT,fun _=>hA.x,hO,hr⟩
theorem Eu.wv (h:Eu ka l q W b K p ops tries n out) {nv:Value} (hn:NV p ka nv):WV p W K nv:=by
 obtain⟨lt,kb,now,left,dn,OA,hT,hA,hO,hr⟩:=h
 exact hn.wv fun hne=>(hA.bytes hne).move (fun _ _=>rfl) fun k hk=>(hO k hk).1
theorem Es (hlt:∀k,K k→k<W.heap.size) (kb:K b) (hT:W.heap[b]? = some (.cells (ji b now true l left tries n dn) 89)) (ho:∀k,OA k→K k∧k≠b) (hr:RX W b K OA left dn ops out) (hf:jB OA W W') (hO:∀k,O' k→OA k∨W.heap.size≤k) (ha:AY ka l q' p' now W' O') :
 Eu ka l q' W' b (fun k=>K k∨O' k) p' ops tries n out∧WK K W W' (fun k=>K k∨O' k):=by
 refine⟨⟨fun k hk => ?_,.inl kb,now,left,dn,O',(hf.block b (hlt b kb) fun h=>(ho b h).2 rfl).trans hT,ha,fun k hk=>⟨.inr hk,fun e => ?_⟩,hr.jN hlt hf hO⟩,⟨hf.wide fun k hk=>(ho k hk).1,fun k hk => ?_⟩⟩
 ·rcases hk with hk|hk
  ·exact Nat.lt_of_lt_of_le (hlt k hk) hf.size
  ·exact ha.lt k hk
 ·subst e
  rcases hO k hk with h1|h1
  ·exact(ho k h1).2 rfl
  ·have:=hlt k kb;omega
 ·rcases hk with hk|hk
  ·exact .inl hk
  ·exact(hO k hk).imp (fun h=>(ho k h).1) id
theorem Eu.move (h:Eu ka l q W b K p ops tries n out) (hs:W.heap.size≤W'.heap.size) (hkk:∀k,K k→W'.heap[k]? = W.heap[k]?):Eu ka l q W' b K p ops tries n out:=by
 obtain⟨lt,kb,now,left,dn,OA,hT,hA,hO,hr⟩:=h
 refine⟨fun k hk=>Nat.lt_of_lt_of_le (lt k hk) hs,kb,now,left,dn,OA,(hkk b kb).trans hT,hA.move hs fun k hk=>hkk k (hO k hk).1,hO,⟨hr.left.move (fun k hk _=>hkk k hk.1) fun k hk _=>hk,qa hr.row fun g hg=>hkk g (hr.own g hg).1,hr.own⟩⟩
theorem KS (h:Eu ka l q W b K p ops tries n out) :
 Calls Tryz.prog 33 #[.pointer (some ⟨b,0,none⟩)] W fun e w'=>∃nv K',e =.returned nv∧NV p ka nv∧WK K W w' K'∧Eu ka l q w' b K' p ops tries n out:=by
 obtain⟨lt,kb,now,left,dn,OA,hT,hA,hO,hr⟩:=h
 refine(Gf hT hA (fun hb=>(hO b hb).2 rfl)).mono ?_
 rintro e w' ⟨nv,O',rfl,hn,hv,hf,ha⟩
 obtain⟨h1,h2⟩:=Es lt kb hT hO hr hf hn ha
 exact⟨nv,_,rfl,hv,h2,h1⟩
theorem mU {w W1 w1 W2:World} {X:Nat} {K1:Nat→Prop} (hX:w.heap.size=X) (b1:Below X w W1) (s1:W1.heap.size=X+1) (hlt:∀k,K k→k<X) (hwk:WK K W1 w1 K1) (hwx:Eu ka l q w1 b K1 p ops tries n out) (ho:Only X w1 W2) :
 WK K w W2 K1∧Eu ka l q W2 b K1 p ops tries n out∧∀k,K1 k→W2.heap[k]? = w1.heap[k]? := by
 have hne:∀k,K1 k→W2.heap[k]? = w1.heap[k]? := fun k hk=>ho.block k (hwx.lt k hk) (by rcases hwk.new k hk with h|h;have:=hlt k h;omega;omega)
 refine⟨⟨⟨?_,?_,?_,?_,fun k hk hn => ?_⟩,fun k hk => ?_⟩,hwx.move ho.size hne,hne⟩
 ·exact ho.os.trans (hwk.jL.os.trans b1.os)
 ·exact ho.tape.trans (hwk.jL.tape.trans b1.tape)
 ·exact ho.output.trans (hwk.jL.output.trans b1.output)
 ·have:=hwk.jL.size;have:=ho.size;omega
 ·exact(ho.block k (by have:=hwk.jL.size;omega) (by omega)).trans ((hwk.jL.block k (by omega) hn).trans (b1.block k (by omega)))
 ·exact(hwk.new k hk).imp id fun h=>by omega
theorem MG (h:Eu ka l q W b K p ops tries n out) :
 Calls Tryz.prog 9 #[.pointer (some ⟨b,0,none⟩)] W fun e w'=>∃nv K',e =.returned nv∧NV p ka nv∧WK K W w' K'∧Eu ka l q w' b K' p ops tries n out:=by
 obtain⟨X,hX⟩:∃X,W.heap.size=X:=⟨_,rfl⟩
 obtain⟨W1,hW1⟩:∃W1,W.alloc (.cells #[.int .i64 0,.int .i64 0,.int .i64 0,.int .u64 0,.int .u64 0,.slice none 0 0] 34)=W1:=⟨_,rfl⟩
 have s1:W1.heap.size=X+1:=by rw[←hW1,←hX];simp
 have b1:Below X W W1:=by rw[←hW1,←hX];exact(Below.refl _ _).alloc (Nat.le_refl _) _
 have r1:W1.heap[X]? = some (.cells #[.int .i64 0,.int .i64 0,.int .i64 0,.int .u64 0,.int .u64 0,.slice none 0 0] 34):=by rw[←hW1,←hX];exact aZ _ _
 have hlt:∀k,K k→k<X:=fun k hk=>by have:=h.lt k hk;omega
 have c:=KS (h.move (W':=W1) (by omega) fun k hk=>b1.block k (hlt k hk))
 have HT:=aC (aR hlt (aR b1 r1))
 clear b1 r1 hlt h
 go_enter Tryz.func9,Tryz.ntmps9
 go_wp2_with (fail)
 refine c.mono ?_
 clear c
 rintro e w1 ⟨nv,K1,rfl,hwv,hwk,hwx⟩
 obtain⟨ak,aa,an,av,au,wV,vU,abc,at_,rfl⟩:=hwv.form
 have hx:=(hwk.jL.block X (by omega) (fun h=>by have:=HT.out.1 X h;omega)).trans HT.out.2.2
 obtain⟨d0,d1,d2,d3,d4,d5,e0,e1,e2,e3,e4,e5⟩:=yz hx
 have h2:=K5 hx (.int .i64 ak) (.int .i64 aa) (.int .i64 an) (.int .u64 av) (.int .u64 au) (.slice wV vU abc)
 have ho:=BM (X:=X) w1 (.int .i64 ak) (.int .i64 aa) (.int .i64 an) (.int .u64 av) (.int .u64 au) (.slice wV vU abc)
 obtain⟨W2,hW2⟩:∃W2,((((((w1.setCell ⟨X,0,none⟩ (.int .i64 ak)).setCell ⟨X,1,none⟩ (.int .i64 aa)).setCell ⟨X,2,none⟩ (.int .i64 an)).setCell ⟨X,3,none⟩ (.int .u64 av)).setCell ⟨X,4,none⟩ (.int .u64 au)).setCell ⟨X,5,none⟩ (.slice wV vU abc))=W2:=⟨_,rfl⟩
 rw[hW2]at h2 ho
 have H2:=aC (aR h2 (aR ho (aR hwv (aR hwk hwx))))
 clear hwv hwk hwx hx h2 ho
 go_wp2
 obtain⟨k0,k1,k2,k3,k4,k5,-⟩:=yz H2.out.1
 refine bodyPost_ret (v :=.tuple #[.agg #[.int .i64 ak,.int .i64 aa,.int .i64 an,.int .u64 av,.int .u64 au,.slice wV vU abc],.bool at_]) (by simp[results,Tryz.results9,go_sem,k0,k1,k2,k3,k4,k5]) rfl ?_
 obtain⟨-,ho,hwv,hwk,hwx⟩:=H2.out
 obtain⟨h1,h2,h3⟩:=mU hX HT.out.2.1 s1 HT.out.1 hwk hwx ho
 exact⟨_,K1,rfl,hwv,h1,h2⟩
theorem MF (h:Eu ka l q W b K p ops tries n out) :
 Calls Tryz.prog 10 #[.pointer (some ⟨b,0,none⟩)] W fun e w'=>∃K',e =.returned (iq p.obs.s p.obs.has)∧WK K W w' K'∧Eu ka l q w' b K' p ops tries n out:=by
 obtain⟨X,hX⟩:∃X,W.heap.size=X:=⟨_,rfl⟩
 obtain⟨W1,hW1⟩:∃W1,W.alloc (.cells #[.int .i64 0,.int .i32 0,.int .i64 0,.int .i64 0] 39)=W1:=⟨_,rfl⟩
 have s1:W1.heap.size=X+1:=by rw[←hW1,←hX];simp
 have b1:Below X W W1:=by rw[←hW1,←hX];exact(Below.refl _ _).alloc (Nat.le_refl _) _
 have r1:W1.heap[X]? = some (.cells #[.int .i64 0,.int .i32 0,.int .i64 0,.int .i64 0] 39):=by rw[←hW1,←hX];exact aZ _ _
 have hlt:∀k,K k→k<X:=fun k hk=>by have:=h.lt k hk;omega
 have hw1:=h.move (W':=W1) (by omega) fun k hk=>b1.block k (hlt k hk)
 obtain⟨lt,kb,now,left,dn,OA,hT,hA,hO,hr⟩:=hw1
 have hT0:=hT
 unfold ji at hT
 obtain⟨c0,c1,c2,c3,-⟩:=eH hT
 obtain⟨rt,hc⟩:=hA.acts
 obtain⟨⟨sp,st,so,sz⟩,hs⟩:∃s,p.obs.s=s:=⟨_,rfl⟩
 obtain⟨sh,hh⟩:∃h,p.obs.has=h:=⟨_,rfl⟩
 rw[hs,hh]
 rcases hc with⟨rfl,hc⟩|⟨rfl,hc⟩|⟨rfl,hc⟩
 ·have c:=hc.slot
  rw[hs,hh]at c
  unfold iq at c
  have HT:=aC (aR hlt (aR b1 (aR r1 (aR lt (aR kb (aR hT0 (aR hO hr)))))))
  clear hc hA hT hT0 r1 b1 hlt lt kb hO hr h hs hh
  go_enter Tryz.func10,Tryz.ntmps10
  go_wp2_with (fail)
  refine c.mono ?_
  clear c
  rintro e w1 ⟨rfl,hf,ha⟩
  obtain⟨hlt,b1,r1,lt,kb,hT0,hO,hr⟩:=HT.out
  obtain⟨h1,h2⟩:=Es lt kb hT0 hO hr hf (fun k hk=>hk.imp id fun h=>h.1) ha
  have hx:=(hf.block X (by omega) (fun h=>by have:=hlt X (hO X h).1;omega)).trans r1
  obtain⟨d0,d1,d2,d3,e0,e1,e2,e3⟩:=Gm hx
  have h3:=PZ hx (.int .i64 sp) (.int .i32 st) (.int .i64 so) (.int .i64 sz)
  have h4:=JO (X:=X) w1 (.int .i64 sp) (.int .i32 st) (.int .i64 so) (.int .i64 sz)
  obtain⟨W2,hW2⟩:∃W2,((((w1.setCell ⟨X,0,none⟩ (.int .i64 sp)).setCell ⟨X,1,none⟩ (.int .i32 st)).setCell ⟨X,2,none⟩ (.int .i64 so)).setCell ⟨X,3,none⟩ (.int .i64 sz))=W2:=⟨_,rfl⟩
  rw[hW2]at h3 h4
  have H2:=aC (aR h3 (aR h4 (aR h1 h2)))
  clear hlt b1 r1 lt kb hT0 hO hr h1 h2 h3 h4 hx hf ha
  go_wp2
  obtain⟨h3,h4,h1,h2⟩:=H2.out
  obtain⟨k0,k1,k2,k3,-⟩:=Gm h3
  refine bodyPost_ret (v:=iq ⟨sp,st,so,sz⟩ sh) (by simp[iq,results,Tryz.results10,go_sem,k0,k1,k2,k3]) rfl ?_
  obtain⟨g1,g2,g3⟩:=mU hX HT.out.2.1 s1 HT.out.1 h2 h1 h4
  exact⟨_,rfl,g1,g2⟩
 ·have c:=hc.slot
  rw[hs,hh]at c
  unfold iq at c
  have HT:=aC (aR hlt (aR b1 (aR r1 (aR lt (aR kb (aR hT0 (aR hO hr)))))))
  clear hc hA hT hT0 r1 b1 hlt lt kb hO hr h hs hh
  go_enter Tryz.func10,Tryz.ntmps10
  go_wp2_with (fail)
  refine c.mono ?_
  clear c
  rintro e w1 ⟨rfl,hf,ha⟩
  obtain⟨hlt,b1,r1,lt,kb,hT0,hO,hr⟩:=HT.out
  obtain⟨h1,h2⟩:=Es lt kb hT0 hO hr hf (fun k hk=>hk.imp id fun h=>h.1) ha
  have hx:=(hf.block X (by omega) (fun h=>by have:=hlt X (hO X h).1;omega)).trans r1
  obtain⟨d0,d1,d2,d3,e0,e1,e2,e3⟩:=Gm hx
  have h3:=PZ hx (.int .i64 sp) (.int .i32 st) (.int .i64 so) (.int .i64 sz)
  have h4:=JO (X:=X) w1 (.int .i64 sp) (.int .i32 st) (.int .i64 so) (.int .i64 sz)
  obtain⟨W2,hW2⟩:∃W2,((((w1.setCell ⟨X,0,none⟩ (.int .i64 sp)).setCell ⟨X,1,none⟩ (.int .i32 st)).setCell ⟨X,2,none⟩ (.int .i64 so)).setCell ⟨X,3,none⟩ (.int .i64 sz))=W2:=⟨_,rfl⟩
  rw[hW2]at h3 h4
  have H2:=aC (aR h3 (aR h4 (aR h1 h2)))
  clear hlt b1 r1 lt kb hT0 hO hr h1 h2 h3 h4 hx hf ha
  go_wp2
  obtain⟨h3,h4,h1,h2⟩:=H2.out
  obtain⟨k0,k1,k2,k3,-⟩:=Gm h3
  refine bodyPost_ret (v:=iq ⟨sp,st,so,sz⟩ sh) (by simp[iq,results,Tryz.results10,go_sem,k0,k1,k2,k3]) rfl ?_
  obtain⟨g1,g2,g3⟩:=mU hX HT.out.2.1 s1 HT.out.1 h2 h1 h4
  exact⟨_,rfl,g1,g2⟩
 ·have c:=hc.slot
  rw[hs,hh]at c
  unfold iq at c
  have HT:=aC (aR hlt (aR b1 (aR r1 (aR lt (aR kb (aR hT0 (aR hO hr)))))))
  clear hc hA hT hT0 r1 b1 hlt lt kb hO hr h hs hh
  go_enter Tryz.func10,Tryz.ntmps10
  go_wp2_with (fail)
  refine c.mono ?_
  clear c
  rintro e w1 ⟨rfl,hf,ha⟩
  obtain⟨hlt,b1,r1,lt,kb,hT0,hO,hr⟩:=HT.out
  obtain⟨h1,h2⟩:=Es lt kb hT0 hO hr hf (fun k hk=>hk.imp id fun h=>h.1) ha
  have hx:=(hf.block X (by omega) (fun h=>by have:=hlt X (hO X h).1;omega)).trans r1
  obtain⟨d0,d1,d2,d3,e0,e1,e2,e3⟩:=Gm hx
  have h3:=PZ hx (.int .i64 sp) (.int .i32 st) (.int .i64 so) (.int .i64 sz)
  have h4:=JO (X:=X) w1 (.int .i64 sp) (.int .i32 st) (.int .i64 so) (.int .i64 sz)
  obtain⟨W2,hW2⟩:∃W2,((((w1.setCell ⟨X,0,none⟩ (.int .i64 sp)).setCell ⟨X,1,none⟩ (.int .i32 st)).setCell ⟨X,2,none⟩ (.int .i64 so)).setCell ⟨X,3,none⟩ (.int .i64 sz))=W2:=⟨_,rfl⟩
  rw[hW2]at h3 h4
  have H2:=aC (aR h3 (aR h4 (aR h1 h2)))
  clear hlt b1 r1 lt kb hT0 hO hr h1 h2 h3 h4 hx hf ha
  go_wp2
  obtain⟨h3,h4,h1,h2⟩:=H2.out
  obtain⟨k0,k1,k2,k3,-⟩:=Gm h3
  refine bodyPost_ret (v:=iq ⟨sp,st,so,sz⟩ sh) (by simp[iq,results,Tryz.results10,go_sem,k0,k1,k2,k3]) rfl ?_
  obtain⟨g1,g2,g3⟩:=mU hX HT.out.2.1 s1 HT.out.1 h2 h1 h4
  exact⟨_,rfl,g1,g2⟩
end
end
end Go.Proofs.YtlaogoehmndcjaaGreatDoor.Sy
namespace Go.Proofs.YtlaogoehmndcjaaGreatDoor.Sy
open Go RowKit Lib AS Base Pr Ba
section
variable {ka:Option Addr} {l:Lg} {q:Nat} {W W':World} {b:Nat} {K:Nat→Prop} {T:Pr An rD} {p:Pr An Ot} {ops:List gz} {tries n:Int} {out:List ng} {nv:Value}
inductive WN (l:Lg) (T:Pr An rD) (q:Nat) (W:World) (b:Nat) (K:Nat→Prop) (nv:Value):Prop
 | off {p:Pr An Ot} {ops:List gz} {tries n:Int} {out:List ng} {f:Nat} (hx:WX l q W b K false p ops tries n out) (hn:nv=Ff) (hB:WB f q false p ops tries n out) (hT:T=rQ (aP l) f false p ops tries n out):WN l T q W b K nv
 | on {ka:Option Addr} {p:Pr An Ot} {ops:List gz} {tries n:Int} {out:List ng} {f:Nat} (hx:Eu ka l q W b K p ops tries n out) (hn:NV p ka nv) (hB:WB f q true p ops tries n out) (hT:T=rQ (aP l) f true p ops tries n out) (ha:lQ p):WN l T q W b K nv
theorem WN.move (h:WN l T q W b K nv) (hs:W.heap.size≤W'.heap.size) (hkk:∀k,K k→W'.heap[k]? = W.heap[k]?):WN l T q W' b K nv:=by
 cases h with
 | off hx hn hB hT=>exact .off (hx.move hs hkk) hn hB hT
 | on hx hn hB hT ha=>exact .on (Eu.move hx hs hkk) hn hB hT ha
theorem WN.lt (h:WN l T q W b K nv):∀k,K k→k<W.heap.size:=by
 cases h with
 | off hx hn hB hT=>exact hx.lt
 | on hx hn hB hT ha=>exact hx.lt
theorem WN.wr (h:WN l T q W b K nv):WR l T q W b K:=by
 cases h with
 | off hx hn hB hT=>exact⟨false,_,_,_,_,_,_,hx,hB,hT,fun h=>by cases h⟩
 | on hx hn hB hT ha=>exact⟨true,_,_,_,_,_,_,hx.x,hB,hT,fun _=>ha⟩
theorem WN.wv (h:WN l T q W b K nv):WV T W K nv:=by
 cases h with
 | off hx hn hB hT=>rw[hT,vX];exact hn
 | on hx hn hB hT ha =>
   have h2:=hx.wv hn
   obtain⟨po,pa,pk,_,rfl,e⟩:=qR (l:=l) hB ha
   rw[hT,e]
   exact h2
theorem PN (h:WR l T q W b K) :
 Calls Tryz.prog 9 #[.pointer (some ⟨b,0,none⟩)] W fun e w'=>∃nv K',e =.returned nv∧WK K W w' K'∧WN l T q w' b K' nv:=by
 obtain⟨g,p,ops,tries,n,out,f,hwx,hB,hTr,hg⟩:=h
 cases g with
 | false =>
   refine(PE hwx).mono ?_
   rintro e w' ⟨rfl,h1,h2⟩
   exact⟨_,K,rfl,h1,.off h2 rfl hB hTr⟩
 | true =>
   obtain⟨ka,hwx⟩:=hwx.y
   refine(MG hwx).mono ?_
   rintro e w' ⟨nv,K',rfl,hv,h1,h2⟩
   exact⟨nv,K',rfl,h1,.on h2 hv hB hTr (hg rfl)⟩
theorem PL (h:WN l T q W b K nv) :
 Calls Tryz.prog 10 #[.pointer (some ⟨b,0,none⟩)] W fun e w'=>∃K',e =.returned (iq T.obs.s T.obs.has)∧WK K W w' K'∧WN l T q w' b K' nv:=by
 cases h with
 | off hx hn hB hT =>
   refine(KR hx).mono ?_
   rintro e w' ⟨rfl,h1,h2⟩
   refine⟨K,?_,h1,.off h2 hn hB hT⟩
   rw[hT,vX]
   rfl
 | on hx hn hB hT ha =>
   refine(MF hx).mono ?_
   rintro e w' ⟨K',rfl,h1,h2⟩
   refine⟨K',?_,h1,.on h2 hn hB hT ha⟩
   obtain⟨po,pa,pk,_,rfl,e⟩:=qR (l:=l) hB ha
   rw[hT,e]
   rfl
end
abbrev XS (l:Lg) (T:Pr An rD) (q n0 b:Nat) (W2 wr:World):Prop:=∃K,WR l T q wr b K∧(∀k,K k→n0≤k)∧Below n0 W2 wr∧n0≤wr.heap.size
structure Fz (n0 Y:Nat) (w w':World):Prop where
 os:w'.os=w.os
 tape:w'.tape=w.tape
 output:w'.output=w.output
 size:w.heap.size≤w'.heap.size
 block:∀k,k<w.heap.size→¬(n0≤k∧k<Y)→w'.heap[k]? = w.heap[k]?
section
variable {n0 Y:Nat} {w w1 w2:World} {K K':Nat→Prop}
theorem Fz.below (h:Fz n0 Y w w1) (hb:Below w1.heap.size w1 w2):Fz n0 Y w w2 :=
 ⟨hb.os.trans h.os,hb.tape.trans h.tape,hb.output.trans h.output,Nat.le_trans h.size hb.size,fun k h1 h2=>(hb.block k (Nat.lt_of_lt_of_le h1 h.size)).trans (h.block k h1 h2)⟩
theorem Fz.refl:Fz n0 Y w w:=⟨rfl,rfl,rfl,Nat.le_refl _,fun _ _ _=>rfl⟩
theorem Fz.wk (h:Fz n0 Y w w1) (hk:WK K w1 w2 K') (hK:∀k,K k→(n0≤k∧k<Y)∨w.heap.size≤k):Fz n0 Y w w2∧∀k,K' k→(n0≤k∧k<Y)∨w.heap.size≤k:=by
 refine⟨⟨hk.jL.os.trans h.os,hk.jL.tape.trans h.tape,hk.jL.output.trans h.output,Nat.le_trans h.size hk.jL.size,fun k h1 h2=>(hk.jL.block k (Nat.lt_of_lt_of_le h1 h.size) fun hh => ?_).trans (h.block k h1 h2)⟩,fun k hk' => ?_⟩
 ·rcases hK k hh with h3|h3
  ·exact h2 h3
  ·omega
 ·rcases hk.new k hk' with h3|h3
  ·exact hK k h3
  ·exact .inr (Nat.le_trans h.size h3)
end
