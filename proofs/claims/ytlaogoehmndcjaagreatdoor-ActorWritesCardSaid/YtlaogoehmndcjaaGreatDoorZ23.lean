import Derived.Test.YtlaogoehmndcjaaGreatDoorZ22
set_option linter.unusedSectionVars false
set_option maxRecDepth 1000000
set_option linter.unusedVariables false
set_option linter.unusedSimpArgs false
namespace Go.Proofs.YtlaogoehmndcjaaGreatDoor.Sy
open Go RowKit Lib Base Pr Ba
variable [Zn]
structure BN {O:Type} (w wr:World) (B:List (Nat×Obj)) (tb:Nat) (ga:Option Addr) (cap:Nat) (L:List An) (a:Nat) (T K:Pr An O) (a':Nat):Prop where
 box:∀p∈B,wr.heap[p.1]? = some p.2
 far:∀p∈B,w.heap.size≤p.1
 vT:iE w tb ga cap L a none
 on:On w wr tb ga cap L a T K a'
section
variable {O:Type} {w wr wr':World} {B B':List (Nat×Obj)} {tb:Nat} {ga:Option Addr} {cap:Nat} {L:List An} {a a' a'':Nat} {T K K':Pr An O} {o:O} {ob oH:Obj}
theorem BN.fresh (h:iE w tb ga cap L a none) (ha:a≤L.length) (T:Pr An O):BN w w [] tb ga cap L a T T a :=
 ⟨fun p hp=>(by cases hp),fun p hp=>(by cases hp),h,On.refl h ha T⟩
theorem BN.mg (h:BN w wr B tb ga cap L a T K a'):iE wr tb ga cap L a' none:=h.on.ta.1
theorem BN.sz (h:BN w wr B tb ga cap L a T K a'):w.heap.size≤wr.heap.size:=h.on.ta.2.size
theorem BN.below (h:BN w wr B tb ga cap L a T K a') (hb:Below wr.heap.size wr wr'):BN w wr' B tb ga cap L a T K a' :=
 ⟨fun p hp=>(hb.block _ (Array.getElem?_eq_some_iff.1 (h.box p hp)).1).trans (h.box p hp),h.far,h.vT,h.on.below hb⟩
theorem BN.step (h:BN w wr B tb ga cap L a T K a') (k:On wr wr' tb ga cap L a' K K' a''):BN w wr' B tb ga cap L a T K' a'' :=
 ⟨fun p hp=>(k.ta.2.block _ (Array.getElem?_eq_some_iff.1 (h.box p hp)).1 (by have:=h.vT.lt;have:=h.far p hp;omega)).trans (h.box p hp),h.far,h.vT,h.on.trans k⟩
theorem BN.off (h:BN w wr B tb ga cap L a T K a') (k:Off wr wr' tb ga cap L a' K o):Off w wr' tb ga cap L a T o:=h.on.off k
theorem BN.jg (h:BN w wr B tb ga cap L a T K a') (k:Off wr wr' tb ga cap L a' K o):∀p∈B,wr'.heap[p.1]? = some p.2:=by
 intro p hp
 obtain⟨c,K',h1,h2,h3⟩:=k.ex
 exact(h3.2.block _ (Array.getElem?_eq_some_iff.1 (h.box p hp)).1 (by have:=h.vT.lt;have:=h.far p hp;omega)).trans (h.box p hp)
theorem BN.as (h:BN w wr B tb ga cap L a T K a') (e:K=K'):BN w wr B tb ga cap L a T K' a':=e▸h
theorem BN.drew (h:BN w wr B tb ga cap L a T K a') (n:Nat):BN w (wr.drewN n) B tb ga cap L a T K a':=h.below (below_drewN n (Below.refl _ wr))
theorem BN.new (h:BN w wr B tb ga cap L a T K a') {s:Nat} (hs:wr.heap.size=s) (ob:Obj):BN w (wr.alloc ob) ((s,ob)::B) tb ga cap L a T K a':=by
 have hb:Below wr.heap.size wr (wr.alloc ob):=(Below.refl _ _).alloc (Nat.le_refl _) _
 refine⟨fun p hp => ?_,fun p hp => ?_,h.vT,h.on.below hb⟩
 ·rcases List.mem_cons.1 hp with rfl|hp
  ·exact hs▸aZ _ _
  ·exact(h.below hb).box p hp
 ·rcases List.mem_cons.1 hp with rfl|hp
  ·exact hs▸h.sz
  ·exact h.far p hp
theorem BN.only (h:BN w wr B tb ga cap L a T K a') {k:Nat} (ho:Only k wr wr') (hk:w.heap.size≤k):On w wr' tb ga cap L a T K a':=by
 have h2:=h.on.ta.2
 have hbig:Only tb w wr':=⟨ho.os.trans h2.os,ho.tape.trans h2.tape,ho.output.trans h2.output,Nat.le_trans h2.size ho.size,fun b hb hne=>(ho.block b (Nat.lt_of_lt_of_le hb h2.size) (by omega)).trans (h2.block b hb hne)⟩
 have hlt:=h.vT.lt
 refine⟨h.on.le,h.on.go,⟨?_,h.vT.row.only hbig,h.vT.len⟩,hbig⟩
 have hk2:=h.on.ta.1.bare
 exact⟨none,0,0,(ho.block tb (Array.getElem?_eq_some_iff.1 hk2).1 (by omega)).trans hk2,trivial⟩
theorem BN.put {k:Nat} (h:BN w wr ((k,ob)::B) tb ga cap L a T K a') (ho:Only k wr wr') (hn:wr'.heap[k]? = some oH) (hB:∀p∈B,p.1≠k):BN w wr' ((k,oH)::B) tb ga cap L a T K a':=by
 have hk:=h.far _ (List.mem_cons_self ..)
 refine⟨fun p hp => ?_,fun p hp => ?_,h.vT,h.only ho hk⟩
 ·rcases List.mem_cons.1 hp with rfl|hp
  ·exact hn
  ·have h1:=h.box p (List.mem_cons_of_mem _ hp)
   exact(ho.block _ (Array.getElem?_eq_some_iff.1 h1).1 (hB p hp)).trans h1
 ·rcases List.mem_cons.1 hp with rfl|hp
  ·exact hk
  ·exact h.far p (List.mem_cons_of_mem _ hp)
theorem BN.b0 {k:Nat} (h:BN w wr ((k,ob)::B) tb ga cap L a T K a'):wr.heap[k]? = some ob:=h.box (k,ob) (List.mem_cons_self ..)
theorem BN.tail {p:Nat×Obj} (h:BN w wr (p::B) tb ga cap L a T K a'):BN w wr B tb ga cap L a T K a':=⟨fun q hq=>h.box q (List.mem_cons_of_mem _ hq),fun q hq=>h.far q (List.mem_cons_of_mem _ hq),h.vT,h.on⟩
theorem BN.swap {p q:Nat×Obj} (h:BN w wr (p::q::B) tb ga cap L a T K a'):BN w wr (q::p::B) tb ga cap L a T K a' :=
 ⟨fun r hr=>h.box r (by rcases List.mem_cons.1 hr with rfl|hr;exact List.mem_cons_of_mem _ (List.mem_cons_self ..);rcases List.mem_cons.1 hr with rfl|hr;exact List.mem_cons_self ..;exact List.mem_cons_of_mem _ (List.mem_cons_of_mem _ hr)),fun r hr=>h.far r (by rcases List.mem_cons.1 hr with rfl|hr;exact List.mem_cons_of_mem _ (List.mem_cons_self ..);rcases List.mem_cons.1 hr with rfl|hr;exact List.mem_cons_self ..;exact List.mem_cons_of_mem _ (List.mem_cons_of_mem _ hr)),h.vT,h.on⟩
end
section
variable {O:Type} {w wr wr':World} {tb:Nat} {ga:Option Addr} {cap:Nat} {L:List An} {a:Nat} {T:Pr An O} {o:O}
theorem Rl {k:Nat} {t:TypeId} {x0 x1 x2 x3:Int} {j:Nat} {v:Value} (h:wr.heap[k]? = some (.cells #[.int .i64 x0,.int .i32 x1,.int .i64 x2,.int .i64 x3] t (0,0))) (hc:wr.cell? ⟨k,j,none⟩=some v):(∀x,v ≠ .int .u8 x)∧∀x,v ≠ .int .u64 x:=by
 simp only[World.cell?,h]at hc
 rcases j with _|_|_|_|j
 ·cases hc;exact⟨fun x=>by simp,fun x=>by simp⟩
 ·cases hc;exact⟨fun x=>by simp,fun x=>by simp⟩
 ·cases hc;exact⟨fun x=>by simp,fun x=>by simp⟩
 ·cases hc;exact⟨fun x=>by simp,fun x=>by simp⟩
 ·cases hc
theorem dF {V:World} {k:Nat} {t:TypeId} {v0 v1 v2 v3:Value} (h:V.heap[k]? = some (.cells #[v0,v1,v2,v3] t (0,0))) (u0 u1 u2 u3:Value):((((V.setCell ⟨k,0,none⟩ u0).setCell ⟨k,1,none⟩ u1).setCell ⟨k,2,none⟩ u2).setCell ⟨k,3,none⟩ u3).heap[k]? = some (.cells #[u0,u1,u2,u3] t (0,0))∧Only k V ((((V.setCell ⟨k,0,none⟩ u0).setCell ⟨k,1,none⟩ u1).setCell ⟨k,2,none⟩ u2).setCell ⟨k,3,none⟩ u3) :=
 ⟨iw (iw (iw (iw h 0 u0) 1 u1) 2 u2) 3 u3,(((Only.set _ _ _).trans (Only.set _ _ _)).trans (Only.set _ _ _)).trans (Only.set _ _ _)⟩
theorem Off.put (h:Off w wr tb ga cap L a T o) {k:Nat} {t:TypeId} {x0 x1 x2 x3:Int} (hk:wr.heap[k]? = some (.cells #[.int .i64 x0,.int .i32 x1,.int .i64 x2,.int .i64 x3] t (0,0))) (ho:Only k wr wr') (hx:tb≠k) (hw:w.heap.size≤k):Off w wr' tb ga cap L a T o:=by
 obtain⟨c,K,h1,h2,⟨⟨ea,en,ec,hb,hwb⟩,hr,hl⟩,h4⟩:=h.ex
 have hbig:Only tb w wr':=⟨ho.os.trans h4.os,ho.tape.trans h4.tape,ho.output.trans h4.output,Nat.le_trans h4.size ho.size,fun b hb hne=>(ho.block b (Nat.lt_of_lt_of_le hb h4.size) (by omega)).trans (h4.block b hb hne)⟩
 have hcell:∀{b j:Nat} {v:Value},b≠k→wr.cell? ⟨b,j,none⟩=some v→wr'.cell? ⟨b,j,none⟩=some v:=fun{b j v} hne hc=>BA (ho.block b (World.block_lt_of_cell? wr _ hc) hne) hc
 refine⟨c,K,h1,h2,⟨⟨ea,en,ec,(ho.block tb (Array.getElem?_eq_some_iff.1 hb).1 hx).trans hb,?_⟩,?_,hl⟩,hbig⟩
 ·obtain⟨e1,e2⟩:=hwb
  refine⟨e1,fun j x hj => ?_⟩
  obtain⟨eb,eo,e3,hne,hc⟩:=e2 j x hj
  exact⟨eb,eo,e3,hne,hcell (fun e=>by subst e;exact(Rl hk hc).1 _ rfl) hc⟩
 ·intro j x hj
  obtain⟨hv,gb,go,ba,bn,bc,e3,hne,q0,q1,q2⟩:=hr j x hj
  have Z9:gb≠k:=fun e=>by subst e;exact(Rl hk q0).2 _ rfl
  exact⟨hv,gb,go,ba,bn,bc,e3,hne,hcell Z9 q0,hcell Z9 q1,hcell Z9 q2⟩
end
def R3 {O:Type} (w w':World) (tb:Nat) (ga:Option Addr) (cap:Nat) (L:List An) (a:Nat) (T K:Pr An O) (o:O) (b:Bool):Prop :=
 (b=true∧∃a',On w w' tb ga cap L a T K a')∨(b=false∧Off w w' tb ga cap L a T o)
theorem BN.vN {O:Type} {w wr wr':World} {B:List (Nat×Obj)} {tb:Nat} {ga:Option Addr} {cap:Nat} {L:List An} {a a':Nat} {T K K':Pr An O} {o:O} {bb:Bool} (h:BN w wr B tb ga cap L a T K a') (k:R3 wr wr' tb ga cap L a' K K' o bb):∀p∈B,wr'.heap[p.1]? = some p.2:=by
 rcases k with⟨-,a2,k⟩|⟨-,k⟩
 ·exact(h.step k).box
 ·exact h.jg k
def fT (l:cO) (s:jU) (b:List Nat) (mN j i:Nat):Pr An Ot:=if i≤j then framesT l s (40-i) (decide (i=0)) (s.off+(i:Int)*aU l.aV) (b.drop (mN*i))else .done ⟨s,true,fI l s,0⟩
theorem Ow (l:cO) (s:jU) (b:List Nat) (mN j:Nat):fT l s b mN j 0=framesT l s 40 true s.off b:=by
 unfold fT
 rw[if_pos (Nat.zero_le _)]
 simp
theorem Ox (l:cO) (s:jU) (b:List Nat) (mN j:Nat):fT l s b mN j (j+1) =.done ⟨s,true,fI l s,0⟩:=by
 unfold fT
 rw[if_neg (by omega)]
theorem QS (l:cO) (s:jU) (b:List Nat) (mN j r:Nat) (hm:(mN:Int)=l.aV) (hl:b.length=mN*j+r) (hr:r≤mN) (hj:j≤32) :
 fT l s b mN j j=frameT l (aS s) (l.partAt s.part+(s.off+(j:Int)*aU l.aV)) (32+(r:Int)) ((if j=0 then 128 else 0)+64) 1 (s.off+(j:Int)*aU l.aV) s.term ((b.drop (mN*j)).take r) (fT l s b mN j (j+1)):=by
 have hlen:(b.drop (mN*j)).length=r:=by simp;omega
 rw[Ox]
 unfold fT
 rw[if_pos (Nat.le_refl _),show 40-j=(39-j)+1 by omega,framesT,if_pos (by rw[hlen];omega),List.take_of_length_le (by omega),hlen]
 by_cases h0:j=0<;>simp[h0]
theorem QO (l:cO) (s:jU) (b:List Nat) (mN j r i:Nat) (hm:(mN:Int)=l.aV) (hl:b.length=mN*j+r) (hr:0<r) (hj:j≤32) (hi:i<j) :
 fT l s b mN j i=frameT l (aS s) (l.partAt s.part+(s.off+(i:Int)*aU l.aV)) (32+l.aV) (if i=0 then 128 else 0) 1 (s.off+(i:Int)*aU l.aV) s.term ((b.drop (mN*i)).take mN) (fT l s b mN j (i+1)):=by
 have hm2:mN*i+mN≤mN*j:=by
  have h1:mN*(i+1)≤mN*j:=Nat.mul_le_mul (Nat.le_refl _) hi
  rwa [Nat.mul_add,Nat.mul_one]at h1
 have hlen:¬((b.drop (mN*i)).length:Int)≤l.aV:=by rw[←hm];simp;omega
 unfold fT
 rw[if_pos (show i≤j by omega),if_pos (show i+1≤j by omega),show 40-i=(39-i)+1 by omega,framesT,if_neg hlen,List.drop_drop,←hm,Int.toNat_natCast,show mN*(i+1)=mN*i+mN by rw[Nat.mul_add,Nat.mul_one],show 40-(i+1)=39-i by omega,show decide (i+1=0)=false by simp,show((i+1:Nat):Int)*aU (mN:Int)=(i:Int)*aU (mN:Int)+aU (mN:Int) by rw[show((i+1:Nat):Int)=(i:Int)+1 by omega,Int.add_mul,Int.one_mul],show s.off+((i:Int)*aU (mN:Int)+aU (mN:Int))=s.off+(i:Int)*aU (mN:Int)+aU (mN:Int) by omega]
 by_cases h0:i=0
 ·subst h0;simp
 ·simp[h0]
def kS (w:World) (tb:Nat) (ea:Option Addr) (ec:Nat) (b:List Nat):Prop:=gu w tb ea b.length b∧((∃eb eo,ea=some ⟨eb,eo,none⟩∧b.length≤ec∧ec≤9223372036854775807)∨(b=[]∧ec=0))
theorem kS.only {w w':World} {tb:Nat} {ea:Option Addr} {ec:Nat} {b:List Nat} (h:kS w tb ea ec b) (ho:Only tb w w'):kS w' tb ea ec b:=⟨h.1.only ho,h.2⟩
def Mq (o:Ot):Value :=.tuple #[.agg #[.int .i64 o.s.part,.int .i32 o.s.term,.int .i64 o.s.off,.int .i64 o.s.size],.bool o.has,.int .i64 o.pos,.int .i64 o.e]
def GG (w w':World) (tb:Nat) (ga:Option Addr) (cap:Nat) (L:List An) (a:Nat) (T:Pr An Ot) (o:Ot):Prop :=
 (o.e≠10∧∃a',On w w' tb ga cap L a T (.done o) a')∨(o.e=10∧Off w w' tb ga cap L a T o)
theorem Ra (l:cO) (s:jU) (b:List Nat) {mN j rN i nN:Nat} {pt oi F:Int} (hm:(mN:Int)=l.aV) (hl:b.length=mN*j+rN) (hr:rN≤mN) (hp:j≠0→0<rN) (hj:j≤32) (hn:(i<j∧nN=mN)∨(i=j∧nN=rN)) (hpt:l.partAt s.part=pt) (hF:aU l.aV=F) (ho:s.off+(i:Int)*F=oi) :
 fT l s b mN j i=frameT l (aS s) (pt+oi) (32+(nN:Int)) ((if i=0 then 128 else 0)+(if i=j then 64 else 0)) 1 oi s.term ((b.drop (mN*i)).take nN) (fT l s b mN j (i+1)):=by
 subst hpt hF ho
 rcases hn with⟨h,rfl⟩|⟨rfl,rfl⟩
 ·rw[QO l s b nN j rN i hm hl (hp (by omega)) hj h,hm,if_neg (show ¬i=j by omega),Int.add_zero]
 ·rw[QS l s b mN i nN hm hl hr hj,if_pos (show i=i from rfl)]
theorem Rb {of F G oi sz:Int} {i j nN mN rN:Nat} {aV:Int} (hm:(mN:Int)=aV) (hF:aU aV=F) (hG:aU (rN:Int)=G) (hs:aU (nN:Int)=sz) (hn:(i<j∧nN=mN)∨(i=j∧nN=rN)) (ho:of+(i:Int)*F=oi):oi+sz=of+((min (i+1) j:Nat):Int)*F+if i+1≤j then 0 else G:=by
 rcases hn with⟨h,rfl⟩|⟨rfl,rfl⟩
 ·rw[show min (i+1) j=i+1 by omega,if_pos (show i+1≤j by omega),←hs,hm,hF,←ho,show((i+1:Nat):Int)=(i:Int)+1 by omega,Int.add_mul];omega
 ·rw[show min (i+1) i=i by omega,if_neg (show ¬i+1≤i by omega),←hs,hG,ho]
theorem U9 {of F G tm oi:Int} {i j:Nat} (hF:32≤F∧F≤1056) (hG:32≤G∧G≤1056) (hi:i≤j) (ho:0≤of) (hn:of+((j:Int)*F+G)≤tm) (he:of+(i:Int)*F=oi) (ht:tm≤8192):0≤oi∧oi≤8192:=by
 have h1:(i:Int)*F≤(j:Int)*F:=Int.mul_le_mul_of_nonneg_right (by omega) (by omega)
 have h2:0≤(i:Int)*F:=Int.mul_nonneg (by omega) (by omega)
 omega
theorem Em {x n b ec:Nat} (h:x+n<b) (hb:b≤ec):¬ec-x=n:=by omega
theorem Va {n mN rN i j nN:Nat} (hl:n=mN*j+rN) (hn:(i<j∧nN=mN)∨(i=j∧nN=rN)) (hr:rN≤mN):mN*i+nN≤n∧nN≤n∧(i<j→mN*i+nN=mN*(i+1))∧(i<j→0<rN→mN*i+nN<n):=by
 rcases hn with⟨h,rfl⟩|⟨rfl,rfl⟩
 ·have h1:nN*(i+1)≤nN*j:=Nat.mul_le_mul (Nat.le_refl _) h
  rw[Nat.mul_add,Nat.mul_one]at h1
  exact⟨by omega,by omega,fun _=>by rw[Nat.mul_add,Nat.mul_one],fun _ _=>by omega⟩
 ·exact⟨by omega,by omega,fun h=>absurd h (by omega),fun h=>absurd h (by omega)⟩
theorem OI (l:Lg) (hw:l.wf) (hn:¬l.ok) (n:Nat) (w:World):Calls Tryz.prog 160 #[l.val,.int .i64 n] w fun e w'=>e =.returned (.tuple #[.slice none 0 0,.int .i64 1])∧Below w.heap.size w w':=by
 have pV:=fun W=>jc l hw W
 rw[decide_eq_false hn]at pV
 obtain⟨X,hX⟩:∃X,w.heap.size=X:=⟨_,rfl⟩
 obtain⟨W1,hW1⟩:∃W1,w.alloc (.cells (gm l) 23)=W1:=⟨_,rfl⟩
 have b1:Below X w W1:=by rw[←hW1,←hX];exact(Below.refl _ _).alloc (Nat.le_refl _) _
 have r1:W1.heap[X]? = some (.cells (gm l) 23):=by rw[←hW1,←hX];exact aZ _ _
 have s1:W1.heap.size=X+1:=by rw[←hW1,←hX];simp
 obtain⟨m0,m1,m2,m3,m4,m5,m6⟩:=iT r1
 have HQ:=aC b1
 unfold Lg.val at pV ⊢
 clear hn r1 b1 hw
 go_enter Tryz.func160,Tryz.ntmps160
 go_wp2_with (go_at_call 38;refine(pV _).mono ?_;clear pV;rintro e V ⟨rfl,hB⟩;have H1:=aC hB;clear hB)
 refine bodyPost_ret (v :=.tuple #[.slice none 0 0,.int .i64 1]) (by simp[results,Tryz.results160,go_sem]) rfl ⟨rfl,?_⟩
 exact hX▸HQ.out.trans (H1.out.mono (by omega))
theorem IY (l:Lg) (hl:l.ok) (n:Nat) (hn:(n:Int)>l.term/8) (hn2:n≤1000000) (w:World):Calls Tryz.prog 160 #[l.val,.int .i64 n] w fun e w'=>e =.returned (.tuple #[.slice none 0 0,.int .i64 4])∧Below w.heap.size w w':=by
 have hb:=mY hl
 have pV:=fun W=>jc l hl.wf W
 rw[decide_eq_true hl]at pV
 obtain⟨q,hq⟩:∃q,l.term/8=q:=⟨_,rfl⟩
 rw[hq]at hn
 have hq1:l.term.tdiv 8=q:=by rw[Int.tdiv_eq_ediv_of_nonneg (by omega),hq]
 have hq2:IntKind.i64.wrap q=q:=by rw[IntKind.wrap_i64];omega
 have hq4:¬(n:Int)<0:=by omega
 obtain⟨X,hX⟩:∃X,w.heap.size=X:=⟨_,rfl⟩
 obtain⟨W1,hW1⟩:∃W1,w.alloc (.cells (gm l) 23)=W1:=⟨_,rfl⟩
 have b1:Below X w W1:=by rw[←hW1,←hX];exact(Below.refl _ _).alloc (Nat.le_refl _) _
 have r1:W1.heap[X]? = some (.cells (gm l) 23):=by rw[←hW1,←hX];exact aZ _ _
 have s1:W1.heap.size=X+1:=by rw[←hW1,←hX];simp
 obtain⟨m0,m1,m2,m3,m4,m5,m6⟩:=iT r1
 have HQ:=aC (aR b1 r1)
 unfold Lg.val at pV ⊢
 clear r1 b1 hq hl
 go_enter Tryz.func160,Tryz.ntmps160
 go_wp2_with (go_at_call 38;refine(pV _).mono ?_;clear pV;rintro e V ⟨rfl,hB⟩;have H1:=aC hB;have k:=hB.block X (by omega);clear hB;have r1:=k.trans HQ.out.2;clear k m0 m1 m2 m3 m4 m5 m6;obtain⟨m0,m1,m2,m3,m4,m5,m6⟩:=iT r1;clear r1)
 refine bodyPost_ret (v :=.tuple #[.slice none 0 0,.int .i64 4]) (by simp[results,Tryz.results160,go_sem]) rfl ⟨rfl,?_⟩
 exact hX▸HQ.out.1.trans (H1.out.mono (by omega))
theorem BX (l:Lg) (n:Nat) (ev:Int) (c160:∀w,Calls Tryz.prog 160 #[l.val,.int .i64 n] w fun e w'=>e =.returned (.tuple #[.slice none 0 0,.int .i64 ev])∧Below w.heap.size w w') (w:World):Calls Tryz.prog 104 #[l.val,.int .i64 n] w fun e w'=>e =.returned (.tuple #[.int .i64 0,.int .i64 ev])∧Below w.heap.size w w':=by
 obtain⟨X,hX⟩:∃X,w.heap.size=X:=⟨_,rfl⟩
 obtain⟨W1,hW1⟩:∃W1,w.alloc (.cells (gm l) 23)=W1:=⟨_,rfl⟩
 have s1:W1.heap.size=X+1:=by rw[←hW1,←hX];simp
 have b1:Below X w W1:=by rw[←hW1,←hX];exact(Below.refl _ _).alloc (Nat.le_refl _) _
 have r1:W1.heap[X]? = some (.cells (gm l) 23):=by rw[←hW1,←hX];exact aZ _ _
 obtain⟨m0,m1,m2,m3,m4,m5,m6⟩:=iT r1
 have HQ:=aC b1
 unfold Lg.val at c160 ⊢
 clear r1 b1
 go_enter Tryz.func104,Tryz.ntmps104
 go_wp2_with (go_at_call 160;refine(c160 _).mono ?_;clear c160;rintro e V ⟨rfl,hB⟩;have HC:=aC hB;clear hB)
 go_loopw [8,21] (fun x y wr=>x =.int .i64 0∧y =.int .i64 0∧wr=V) (fun _ _ _=>0)
 case atStart=>exact⟨rfl,rfl,rfl⟩
 case round =>
  obtain⟨rfl,rfl,rfl⟩:=hrel
  go_wp2
  refine bodyPost_ret (v :=.tuple #[.int .i64 0,.int .i64 ev]) (by simp[results,Tryz.results104,go_sem]) rfl ⟨rfl,?_⟩
  exact hX▸HQ.out.trans (HC.out.mono (by omega))
