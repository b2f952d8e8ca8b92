import Derived.Test.YtlaogoehmndcjaaGreatDoorZ14
import Derived.Test.YtlaogoehmndcjaaGreatDoorProg
import Derived.WalkKit
import Derived.WalkSpells
import Derived.Lib.Hide
import Derived.Deep.RegionWith
import Derived.WalkSmall
import Derived.Deep.QuietTactic
import Derived.BigQuiet
import Derived.Test.YtlaogoehmndcjaaGreatDoorZ13
import Derived.Laws.DeepBits32
import Derived.BigRegion
import Derived.Shelf.Spec.TrailingZeros
set_option maxRecDepth 1000000
set_option maxHeartbeats 6400000
set_option linter.unusedVariables false
set_option linter.unusedSectionVars false
set_option linter.unusedSimpArgs false
namespace Go.Proofs.YtlaogoehmndcjaaGreatDoor.Ba
open Go RowKit Lib Base
structure Lg where
 base:Int
 term:Int
 aV:Int
 subs:Int
 bG:Int
 dQ:Int
 str:Int
def Lg.val (l:Lg):Value :=.agg #[.int .i64 l.base,.int .i64 l.term,.int .i64 l.aV,.int .i64 l.subs,.int .i32 l.bG,.int .i32 l.dQ,.int .i32 l.str]
def Lg.ok (l:Lg):Prop:=Cx l.base l.term l.aV l.subs
instance (l:Lg):Decidable l.ok:=by unfold Lg.ok;infer_instance
theorem wrap_small (n:Int) (h0 : -9223372036854775808≤n) (h1:n≤9223372036854775807):IntKind.i64.wrap n=n:=by
 rw[IntKind.wrap_i64];omega
theorem Rc (x y:Nat) (hx:x<9223372036854775808) (hy:y<9223372036854775808):bits .and .i64 (x:Int) (y:Int)=((x &&& y:Nat):Int):=by
 show IntKind.i64.wrap ((BitVec.ofInt 64 (x:Int) &&& BitVec.ofInt 64 (y:Int)).toNat:Int)=_
 rw[BitVec.toNat_and,ofInt_u64 x (by omega),ofInt_u64 y (by omega)]
 have:x &&& y≤x:=Nat.and_le_left
 exact wrap_small _ (by omega) (by omega)
def xA (n:Int):Bool:=decide (0<n)&&Nat.beq (n.toNat &&& (n.toNat-1)) 0
theorem Fy (n:Int) (h1:n≤9223372036854775807) (w:World):Calls Tryz.prog 114 #[.int .i64 n] w fun e w'=>e =.returned (.bool (xA n))∧w'=w:=by
 by_cases h0:n>0
 ·obtain⟨x,rfl⟩:∃x:Nat,n=x:=⟨n.toNat,by omega⟩
  have key:bits .and .i64 (x:Int) ((x:Int)-1)=((x &&& (x-1):Nat):Int):=by
   rw[show((x:Int)-1)=((x-1:Nat):Int) by omega];exact Rc x (x-1) (by omega) (by omega)
  obtain⟨y,hy⟩:∃y,x &&& (x-1)=y:=⟨_,rfl⟩
  have hp:xA (x:Int)=Nat.beq y 0:=by
   unfold xA
   rw[decide_eq_true h0,Bool.true_and,Int.toNat_natCast,hy]
  rw[hy]at key
  rw[hp]
  have hw:IntKind.i64.wrap ((x:Int)-1)=(x:Int)-1:=wrap_small _ (by omega) (by omega)
  cases hb:Nat.beq y 0 with
  | true =>
    have:y=0:=by rw[Nat.beq_eq]at hb;exact hb
    subst this
    go_enter Tryz.func114,Tryz.ntmps114
    go_wp2
    go_ret
    exact⟨by first|rfl|(simp;done)|(simp;omega),rfl⟩
  | false =>
    have hy0:((y:Int)==0)=false:=by
     have:y≠0:=fun h=>by subst h;simp at hb
     simp;omega
    go_enter Tryz.func114,Tryz.ntmps114
    go_wp2
    go_ret
    exact⟨by first|rfl|(simp;done)|(simp;omega),rfl⟩
 ·have hp:xA n=false:=by unfold xA;rw[decide_eq_false h0,Bool.false_and]
  rw[hp]
  go_enter Tryz.func114,Tryz.ntmps114
  go_wp2
  go_ret
  exact⟨by first|rfl|(simp;done)|(simp;omega),rfl⟩
theorem zO (n:Int):fJ n↔xA n=true∧256≤n∧n≤8192:=by
 constructor
 ·intro h
  rcases h with rfl|rfl|rfl|rfl|rfl|rfl<;>exact⟨by decide,by omega,by omega⟩
 ·rintro⟨h1,h2,h3⟩
  obtain⟨x,rfl⟩:∃x:Nat,n=x:=⟨n.toNat,by omega⟩
  refine(Lf x (by omega) (by omega)).1 ?_
  unfold xA at h1
  rw[decide_eq_true (by omega),Bool.true_and,Int.toNat_natCast,Nat.beq_eq]at h1
  exact h1
theorem zP (n:Int) (h1:n≤9223372036854775807) (w:World):Calls Tryz.prog 62 #[.int .i64 n] w fun e w'=>e =.returned (.bool (decide (fJ n)))∧w'=w:=by
 have c:=fun W=>Fy n h1 W
 have hiff:=zO n
 cases hb:xA n with
 | false =>
   rw[hb]at c
   have hd:decide (fJ n)=false:=decide_eq_false (fun h=>by have:=(hiff.1 h).1;rw[hb]at this;cases this)
   rw[hd]
   clear hiff hb hd
   go_enter Tryz.func62,Tryz.ntmps62
   go_wp2_with (go_at_call 114;refine(c _).mono ?_;clear c;rintro e w1 ⟨rfl,rfl⟩)
   go_ret
   exact⟨by first|rfl|(simp;done)|(simp;omega),rfl⟩
 | true =>
   rw[hb]at c
   by_cases h2:n≥256
   ·by_cases h3:n≤8192
    ·have hd:decide (fJ n)=true:=decide_eq_true (hiff.2 ⟨hb,by omega,h3⟩)
     rw[hd]
     clear hiff hb hd
     go_enter Tryz.func62,Tryz.ntmps62
     go_wp2_with (go_at_call 114;refine(c _).mono ?_;clear c;rintro e w1 ⟨rfl,rfl⟩)
     go_ret
     exact⟨by first|rfl|(simp;done)|(simp;omega),rfl⟩
    ·have hd:decide (fJ n)=false:=decide_eq_false (fun h=>h3 (hiff.1 h).2.2)
     rw[hd]
     clear hiff hb hd
     go_enter Tryz.func62,Tryz.ntmps62
     go_wp2_with (go_at_call 114;refine(c _).mono ?_;clear c;rintro e w1 ⟨rfl,rfl⟩)
     go_ret
     exact⟨by first|rfl|(simp;done)|(simp;omega),rfl⟩
   ·have hd:decide (fJ n)=false:=decide_eq_false (fun h=>h2 (hiff.1 h).2.1)
    rw[hd]
    clear hiff hb hd
    go_enter Tryz.func62,Tryz.ntmps62
    go_wp2_with (go_at_call 114;refine(c _).mono ?_;clear c;rintro e w1 ⟨rfl,rfl⟩)
    go_ret
    exact⟨by first|rfl|(simp;done)|(simp;omega),rfl⟩
structure Lg.wf (l:Lg):Prop where
 b0 : -9223372036854775808≤l.base
 b1:l.base≤9223372036854775807
 t0 : -9223372036854775808≤l.term
 t1:l.term≤9223372036854775807
 m0 : -9223372036854775808≤l.aV
 m1:l.aV≤9223372036854775807
 s0 : -9223372036854775808≤l.subs
 s1:l.subs≤9223372036854775807
theorem MS (l:Lg) (h0:0≤l.term) (h1:l.term≤100000) (w:World):Calls Tryz.prog 63 #[l.val] w fun e w'=>e =.returned (.int .i64 (3*l.term+128))∧Below w.heap.size w w':=by
 obtain⟨base,term,aV,subs,bG,dQ,str⟩:=l
 unfold Lg.val
 dsimp only at h0 h1 ⊢
 have k1:IntKind.i64.wrap (3*term)=3*term:=wrap_small _ (by omega) (by omega)
 have k2:IntKind.i64.wrap (3*term+128)=3*term+128:=wrap_small _ (by omega) (by omega)
 go_enter Tryz.func63,Tryz.ntmps63
 go_wp2
 go_ret
 exact⟨by first|rfl|simp,(Below.refl _ _).alloc (Nat.le_refl _) _⟩
theorem aZ (w:World) (o:Obj):(w.alloc o).heap[w.heap.size]? = some o:=by
 show(w.heap.push _)[w.heap.size]? = _
 rw[Array.getElem?_push_size]
theorem qJ {w:World} {b:Nat} {t:TypeId} {v0 v1 v2 v3 v4 v5 v6:Value} (h:w.heap[b]? = some (.cells #[v0,v1,v2,v3,v4,v5,v6] t (0,0))):w.cell? ⟨b,0,none⟩=some v0∧w.cell? ⟨b,1,none⟩=some v1∧w.cell? ⟨b,2,none⟩=some v2∧w.cell? ⟨b,3,none⟩=some v3∧w.cell? ⟨b,4,none⟩=some v4∧w.cell? ⟨b,5,none⟩=some v5∧w.cell? ⟨b,6,none⟩=some v6:=by
 refine⟨?_,?_,?_,?_,?_,?_,?_⟩<;>simp[World.cell?,h]
def qC (b:Bool):Int:=if b then 0 else 1
theorem Cs (l:Lg) (hw:l.wf) (w:World):Calls Tryz.prog 36 #[l.val] w fun e w'=>e =.returned (.int .i64 (qC (decide l.ok)))∧Below w.heap.size w w':=by
 have c1:=fun W=>zP l.term hw.t1 W
 have hok:l.ok↔Cx l.base l.term l.aV l.subs:=Iff.rfl
 by_cases ht:fJ l.term
 ·have hb:256≤l.term∧l.term≤8192:=by rcases ht with h|h|h|h|h|h<;>omega
  have c2:=fun W=>MS l (by omega) (by omega) W
  rw[decide_eq_true ht]at c1
  obtain⟨r,hr⟩:∃r,decide l.ok=r:=⟨_,rfl⟩
  have hrr:r=true↔(32≤l.aV∧l.aV≤l.term/8∧l.aV%32=0∧1≤l.subs∧l.subs≤8∧0≤l.base∧l.base%8=0∧l.base≤131072-3*l.term-128):=by
   rw[←hr,decide_eq_true_iff,hok]
   exact⟨fun h=>h.2,fun h=>⟨ht,h⟩⟩
  rw[hr]
  clear hr hok ht
  obtain⟨base,term,aV,subs,bG,dQ,str⟩:=l
  unfold Lg.val at c2 ⊢
  obtain⟨b0,b1,t0,t1,m0,m1,s0,s1⟩:=hw
  dsimp only at *
  have q1:term.tdiv 8=term/8:=Int.tdiv_eq_ediv_of_nonneg (by omega)
  obtain⟨q,hq⟩:∃q,term/8=q:=⟨_,rfl⟩
  rw[hq]at q1 hrr
  have HR:=aC hrr
  clear hrr
  go_enter Tryz.func36,Tryz.ntmps36
  by_cases h1:aV<32
  ·have hf:r=false:=by cases r;rfl;have:=(HR.out.1 rfl).1;omega
   subst hf
   go_wp2_with (go_at_call 62;refine(c1 _).mono ?_;clear c1;rintro e w1 ⟨rfl,rfl⟩)
   go_ret
   exact⟨by first|rfl|simp[qC],(Below.refl _ _).alloc (Nat.le_refl _) _⟩
  by_cases h2:aV>q
  ·have hf:r=false:=by cases r;rfl;have:=(HR.out.1 rfl).2.1;omega
   subst hf
   go_wp2_with (go_at_call 62;refine(c1 _).mono ?_;clear c1;rintro e w1 ⟨rfl,rfl⟩)
   go_ret
   exact⟨by first|rfl|simp[qC],(Below.refl _ _).alloc (Nat.le_refl _) _⟩
  have q2:aV.tmod 32=aV%32:=Int.tmod_eq_emod_of_nonneg (by omega)
  obtain⟨rm,hrm⟩:∃rm,aV%32=rm:=⟨_,rfl⟩
  rw[hrm]at q2
  by_cases h3:rm=0
  ·subst h3
   by_cases h4:subs<1
   ·have hf:r=false:=by cases r;rfl;have:=(HR.out.1 rfl).2.2.2.1;omega
    subst hf
    go_wp2_with (go_at_call 62;refine(c1 _).mono ?_;clear c1;rintro e w1 ⟨rfl,rfl⟩)
    go_ret
    exact⟨by first|rfl|simp[qC],(Below.refl _ _).alloc (Nat.le_refl _) _⟩
   by_cases h5:subs>8
   ·have hf:r=false:=by cases r;rfl;have:=(HR.out.1 rfl).2.2.2.2.1;omega
    subst hf
    go_wp2_with (go_at_call 62;refine(c1 _).mono ?_;clear c1;rintro e w1 ⟨rfl,rfl⟩)
    go_ret
    exact⟨by first|rfl|simp[qC],(Below.refl _ _).alloc (Nat.le_refl _) _⟩
   obtain⟨W1,hW1⟩:∃W1,w.alloc (.cells #[.int .i64 base,.int .i64 term,.int .i64 aV,.int .i64 subs,.int .i32 bG,.int .i32 dQ,.int .i32 str] 23)=W1:=⟨_,rfl⟩
   obtain⟨A,hA⟩:∃A,w.heap.size=A:=⟨_,rfl⟩
   have u0:W1.heap[A]? = some (.cells #[.int .i64 base,.int .i64 term,.int .i64 aV,.int .i64 subs,.int .i32 bG,.int .i32 dQ,.int .i32 str] 23 (0,0)):=by rw[←hW1,←hA];exact aZ _ _
   have u1:Below A w W1:=by rw[←hW1,←hA];exact(Below.refl _ _).alloc (Nat.le_refl _) _
   have u2:W1.heap.size=A+1:=by rw[←hW1];simp[hA]
   have HU:=aC (aR u0 (aR u1 u2))
   obtain⟨m0,m1,m2,m3,m4,m5,m6⟩:=qJ u0
   clear u0 u1 u2
   have d1:decide (aV<32)=false:=decide_eq_false h1
   have d2:decide (aV>q)=false:=decide_eq_false h2
   have d3:decide (subs<1)=false:=decide_eq_false h4
   have d4:decide (subs>8)=false:=decide_eq_false h5
   clear h1 h2 h4 h5
   have k3:IntKind.i64.wrap (131072-(3*term+128))=131072-(3*term+128):=wrap_small _ (by omega) (by omega)
   by_cases h6:base<0
   ·have d5:decide (base<0)=true:=decide_eq_true h6
    have hf:r=false:=by cases r;rfl;have:=(HR.out.1 rfl).2.2.2.2.2.1;omega
    subst hf
    go_wp2_with (go_at_call 62;refine(c1 _).mono ?_;clear c1;rintro e w1 ⟨rfl,rfl⟩)
    go_region
    all_goals go_wp2
    all_goals go_ret
    all_goals refine⟨by first|rfl|simp[qC],?_⟩
    all_goals (try rw[hA])
    all_goals first|exact HU.out.2.1.drew|exact below_drewN HU.out.2.1 _
   have d5:decide (base<0)=false:=decide_eq_false h6
   have r2:base.tmod 8=base%8:=Int.tmod_eq_emod_of_nonneg (by omega)
   obtain⟨rb,hrb⟩:∃rb,base%8=rb:=⟨_,rfl⟩
   rw[hrb]at r2
   have hb0:0≤base:=by omega
   clear h6
   by_cases h7:rb=0
   ·subst h7
    by_cases h8:base>131072-(3*term+128)
    ·have hf:r=false:=by cases r;rfl;have:=(HR.out.1 rfl).2.2.2.2.2.2.2;omega
     have d8:decide (base>131072-(3*term+128))=true:=decide_eq_true h8
     subst hf
     go_wp2_with (go_at_call 62;refine(c1 _).mono ?_;clear c1;rintro e w1 ⟨rfl,rfl⟩)
     go_region_with
     (go_at_call 63
      refine(c2 _).mono ?_
      clear c2
      rintro e w2 ⟨rfl,hB1⟩
      have v0:=(hB1.block A (by have:=HU.out.2.2;simp;omega)).trans HU.out.1
      obtain⟨n0,n1,n2,n3,n4,n5,n6⟩:=qJ v0
      have HV:=aC (HU.out.2.1.drew.trans (hB1.mono (by have:=HU.out.2.2;simp;omega)))
      clear hB1 v0)
     all_goals go_wp2
     all_goals go_ret
     all_goals refine⟨by first|rfl|simp[qC],?_⟩
     all_goals (try rw[hA])
     all_goals exact HV.out
    ·have hf:r=true:=HR.out.2 ⟨by have:=d1;simp at this;omega,by have:=d2;simp at this;omega,hrm,by have:=d3;simp at this;omega,by have:=d4;simp at this;omega,hb0,hrb,by omega⟩
     have d8:decide (base>131072-(3*term+128))=false:=decide_eq_false h8
     subst hf
     go_wp2_with (go_at_call 62;refine(c1 _).mono ?_;clear c1;rintro e w1 ⟨rfl,rfl⟩)
     go_region_with
     (go_at_call 63
      refine(c2 _).mono ?_
      clear c2
      rintro e w2 ⟨rfl,hB1⟩
      have v0:=(hB1.block A (by have:=HU.out.2.2;simp;omega)).trans HU.out.1
      obtain⟨n0,n1,n2,n3,n4,n5,n6⟩:=qJ v0
      have HV:=aC (HU.out.2.1.drew.trans (hB1.mono (by have:=HU.out.2.2;simp;omega)))
      clear hB1 v0)
     all_goals go_wp2
     all_goals go_ret
     all_goals refine⟨by first|rfl|simp[qC],?_⟩
     all_goals (try rw[hA])
     all_goals exact HV.out
   ·have hf:r=false:=by cases r;rfl;have:=(HR.out.1 rfl).2.2.2.2.2.2.1;omega
    have d7:(rb != 0)=true:=by simpa using h7
    subst hf
    go_wp2_with (go_at_call 62;refine(c1 _).mono ?_;clear c1;rintro e w1 ⟨rfl,rfl⟩)
    go_region
    all_goals go_wp2
    all_goals go_ret
    all_goals refine⟨by first|rfl|simp[qC],?_⟩
    all_goals (try rw[hA])
    all_goals first|exact HU.out.2.1.drew|exact below_drewN HU.out.2.1 _
  ·have hf:r=false:=by cases r;rfl;have:=(HR.out.1 rfl).2.2.1;omega
   have h3b:(rm != 0)=true:=by simpa using h3
   subst hf
   go_wp2_with (go_at_call 62;refine(c1 _).mono ?_;clear c1;rintro e w1 ⟨rfl,rfl⟩)
   go_ret
   exact⟨by first|rfl|simp[qC],(Below.refl _ _).alloc (Nat.le_refl _) _⟩
 ·rw[decide_eq_false ht]at c1
  have hr:decide l.ok=false:=decide_eq_false (fun h=>ht h.1)
  rw[hr]
  clear hr hok ht
  obtain⟨base,term,aV,subs,bG,dQ,str⟩:=l
  unfold Lg.val
  dsimp only at *
  go_enter Tryz.func36,Tryz.ntmps36
  go_wp2_with (go_at_call 62;refine(c1 _).mono ?_;clear c1;rintro e w1 ⟨rfl,rfl⟩)
  go_ret
  exact⟨by first|rfl|simp[qC],(Below.refl _ _).alloc (Nat.le_refl _) _⟩
theorem Lg.ok.bounds {l:Lg} (h:l.ok):0≤l.base∧l.base≤131072∧256≤l.term∧l.term≤8192∧1≤l.subs∧l.subs≤8:=by
 obtain⟨ht,_,_,_,h1,h2,h3,_,h5⟩:=h
 rcases ht with h|h|h|h|h|h<;>(refine⟨h3,by omega,by omega,by omega,h1,h2⟩)
theorem Lg.ok.wf {l:Lg} (h:l.ok):l.wf:=by
 have hm:l.aV≤l.term/8:=h.2.2.1
 have hm0:32≤l.aV:=h.2.1
 obtain⟨h1,h2,h3,h4,h5,h6⟩:=h.bounds
 exact⟨by omega,by omega,by omega,by omega,by omega,by omega,by omega,by omega⟩
theorem eT (l:Lg) (h:l.ok) (w:World):Calls Tryz.prog 36 #[l.val] w fun e w'=>e =.returned (.int .i64 0)∧Below w.heap.size w w':=by
 have:=Cs l h.wf w
 rw[decide_eq_true h]at this
 exact this
theorem mI (l:Lg) (h:l.ok) (w:World):Calls Tryz.prog 124 #[l.val] w fun e w'=>e =.returned (.int .i64 (l.base+3*l.term))∧Below w.heap.size w w':=by
 obtain⟨h1,h2,h3,h4,h5,h6⟩:=h.bounds
 clear h
 obtain⟨base,term,aV,subs,bG,dQ,str⟩:=l
 unfold Lg.val
 dsimp only at *
 have k1:IntKind.i64.wrap (3*term)=3*term:=wrap_small _ (by omega) (by omega)
 have k2:IntKind.i64.wrap (base+3*term)=base+3*term:=wrap_small _ (by omega) (by omega)
 go_enter Tryz.func124,Tryz.ntmps124
 go_wp2
 go_ret
 exact⟨by first|rfl|simp,(Below.refl _ _).alloc (Nat.le_refl _) _⟩
theorem JP (l:Lg) (h:l.ok) (fr i many wide:Int) (h0:0≤i) (h1:i<many) (hm:many≤100) (hf0:0≤fr) (hf1:fr≤1000000) (hw0:0≤wide) (hw1:wide≤100000) (w:World) :
 Calls Tryz.prog 123 #[l.val,.int .i64 fr,.int .i64 i,.int .i64 many,.int .i64 wide] w fun e w'=>e =.returned (.int .i64 (fr+i*wide))∧Below w.heap.size w w':=by
 have c:=fun W=>eT l h W
 have hiw:0≤i*wide:=Int.mul_nonneg h0 hw0
 have acT:i*wide≤100*100000:=Int.mul_le_mul (by omega) hw1 hw0 (by omega)
 have k1:IntKind.i64.wrap (i*wide)=i*wide:=wrap_small _ (by omega) (by omega)
 have k2:IntKind.i64.wrap (fr+i*wide)=fr+i*wide:=wrap_small _ (by omega) (by omega)
 have g1:¬i<0:=by omega
 have g2:¬i≥many:=by omega
 obtain⟨p,hp⟩:∃p,i*wide=p:=⟨_,rfl⟩
 rw[hp]at k1 k2 ⊢
 clear h
 obtain⟨base,term,aV,subs,bG,dQ,str⟩:=l
 unfold Lg.val at c ⊢
 dsimp only at c ⊢
 have HS:=aC (show Below w.heap.size w (w.alloc (.cells #[.int .i64 base,.int .i64 term,.int .i64 aV,.int .i64 subs,.int .i32 bG,.int .i32 dQ,.int .i32 str] 23))∧(w.alloc (.cells #[.int .i64 base,.int .i64 term,.int .i64 aV,.int .i64 subs,.int .i32 bG,.int .i32 dQ,.int .i32 str] 23)).heap.size=w.heap.size+1 from⟨(Below.refl _ _).alloc (Nat.le_refl _) _,by simp⟩)
 go_enter Tryz.func123,Tryz.ntmps123
 go_wp2_with (go_at_call 36;refine(c _).mono ?_;clear c;rintro e w1 ⟨rfl,hB⟩;have HB:=aC hB;clear hB)
 go_ret
 exact⟨by first|rfl|simp,HS.out.1.trans (HB.out.mono (by have:=HS.out.2;omega))⟩
theorem gD (l:Lg) (h:l.ok) (p:Int) (h0:0≤p) (h1:p<3) (w:World) :
 Calls Tryz.prog 78 #[l.val,.int .i64 p] w fun e w'=>e =.returned (.int .i64 (l.base+3*l.term+p*8))∧Below w.heap.size w w':=by
 have hb:=h.bounds
 have c1:=fun W=>mI l h W
 have c2:=fun W=>JP l h (l.base+3*l.term) p 3 8 h0 h1 (by omega) (by omega) (by omega) (by omega) (by omega) W
 clear h
 obtain⟨base,term,aV,subs,bG,dQ,str⟩:=l
 unfold Lg.val at c1 c2 ⊢
 dsimp only at c1 c2 hb ⊢
 obtain⟨m,hm⟩:∃m,base+3*term=m:=⟨_,rfl⟩
 rw[hm]at c1 c2 ⊢
 obtain⟨W1,hW1⟩:∃W1,w.alloc (.cells #[.int .i64 base,.int .i64 term,.int .i64 aV,.int .i64 subs,.int .i32 bG,.int .i32 dQ,.int .i32 str] 23)=W1:=⟨_,rfl⟩
 obtain⟨A,hA⟩:∃A,w.heap.size=A:=⟨_,rfl⟩
 have u0:W1.heap[A]? = some (.cells #[.int .i64 base,.int .i64 term,.int .i64 aV,.int .i64 subs,.int .i32 bG,.int .i32 dQ,.int .i32 str] 23 (0,0)):=by rw[←hW1,←hA];exact aZ _ _
 have u1:Below A w W1:=by rw[←hW1,←hA];exact(Below.refl _ _).alloc (Nat.le_refl _) _
 have u2:W1.heap.size=A+1:=by rw[←hW1];simp[hA]
 have HU:=aC (aR u0 (aR u1 u2))
 obtain⟨m0,m1,m2,m3,m4,m5,m6⟩:=qJ u0
 clear u0 u1 u2
 go_enter Tryz.func78,Tryz.ntmps78
 go_wp2_with fail
 go_region_with
 (first
   | (go_at_call 124
      refine(c1 _).mono ?_
      clear c1
      rintro e w2 ⟨rfl,hB1⟩
      have v0:=(hB1.block A (by have:=HU.out.2.2;simp;omega)).trans HU.out.1
      obtain⟨n0,n1,n2,n3,n4,n5,n6⟩:=qJ v0
      have HV:=aC (aR (HU.out.2.1.drew.trans (hB1.mono (by have:=HU.out.2.2;simp;omega))) (show A+1≤w2.heap.size from Nat.le_trans (Nat.le_of_eq HU.out.2.2.symm) hB1.size))
      clear hB1 v0)
   | (go_at_call 123
      refine(c2 _).mono ?_
      clear c2
      rintro e w3 ⟨rfl,hB2⟩
      have HQ:=aC (HV.out.1.trans (hB2.mono (by have:=HV.out.2;first|omega|(simp;omega))))
      clear hB2))
 all_goals go_wp2
 all_goals go_ret
 all_goals refine⟨by first|rfl|simp,?_⟩
 all_goals (try rw[hA])
 all_goals exact HQ.out
end Go.Proofs.YtlaogoehmndcjaaGreatDoor.Ba
namespace Go.Pr
structure Acc where
 k:Int
 at_:Int
 n:Int
 v:Int
 w:Int
 b:List Nat
inductive Pr (A O:Type) where
 | done (o:O)
 | ask (o:O) (a:Acc) (k:A→Pr A O)
variable {A O O':Type}
namespace Pr
def obs:Pr A O→O
 | .done o=>o
 | .ask o _ _=>o
def want:Pr A O→Option Acc
 | .done _=>none
 | .ask _ a _=>some a
def run:Pr A O→List A→Pr A O
 | p,[]=>p
 | .done o,_::_ => .done o
 | .ask _ _ k,x::l=>(k x).run l
def left:Pr A O→List A→List A
 | .done _,l=>l
 | .ask _ _ _,[]=>[]
 | .ask _ _ k,x::l=>(k x).left l
theorem CX (p:Pr A O):p.run []=p:=by cases p<;>rfl
theorem gL (o:O):∀l:List A,(Pr.done o).run l =.done o
 | []=>rfl
 | _::_=>rfl
theorem zh:∀(p:Pr A O) (l m:List A),p.run (l++m)=(p.run l).run m
 | p,[],m=>by rw[List.nil_append,CX]
 | .done o,x::l,m=>by rw[gL,gL,gL]
 | .ask _ _ k,x::l,m=>by
   show(k x).run (l++m)=((k x).run l).run m
   exact zh (k x) l m
def bind (p:Pr A O) (f:O→O') (g:O→Pr A O'):Pr A O' :=
 match p with
 | .done o=>g o
 | .ask o a k => .ask (f o) a (fun x=>(k x).bind f g)
theorem Ka:∀(l:List A) (p:Pr A O),(p.left l).length≤l.length
 | [],.done _=>Nat.le_refl _
 | [],.ask .. => Nat.le_refl _
 | _::_,.done _=>Nat.le_refl _
 | x::l,.ask _ _ k=>by
   have:=Ka l (k x)
   show((k x).left l).length≤_
   simp;omega
end Pr
end Go.Pr
namespace Go.Base
open Go Pr
structure cO where
 base:Int
 term:Int
 aV:Int
 subs:Int
 bG:Int
 dQ:Int
 str:Int
def cO.ok (l:cO):Prop:=Cx l.base l.term l.aV l.subs
instance (l:cO):Decidable l.ok:=by unfold cO.ok;infer_instance
def bF (n:Int):Int:=(n+2147483648)%4294967296-2147483648
def iK (n:Int):Int:=(n+9223372036854775808)%18446744073709551616-9223372036854775808
def u32 (n:Int):Int:=n%4294967296
def load (at_ n:Int):Acc:=⟨1,at_,n,0,0,[]⟩
def store (at_ n v:Int):Acc:=⟨2,at_,n,v,0,[]⟩
structure Mh where
 v:Int
 now:Int
def cO.M (l:cO):Int:=l.base+3*l.term
def cO.partAt (l:cO) (p:Int):Int:=l.base+l.term*p
def cO.fu (l:cO) (p:Int):Int:=l.M+8*p
structure US where
 l:cO
 part:Int
 off:Int
 fin:Int
 to:Int
 bg:Int
def US.word (u:US) (n:Int):Nat→Int
 | 0=>u32 n
 | 1=>u32 u.off+4294967296*u32 u.l.dQ
 | 2=>u32 u.l.str+4294967296*u32 u.bg
 | _=>0
structure WS where
 sum:Int
 last:Int
 since:Int
 aaZ:Bool
end Go.Base
namespace Go.Proofs.YtlaogoehmndcjaaGreatDoor.Ba
open Go RowKit Lib Base
theorem Sl (n:Int):bF n=wrap32 n:=by unfold bF wrap32;omega
theorem GV (v:Int) (h0:0≤v) (h1:v<18446744073709551616) (w:World):Calls Tryz.prog 144 #[.int .u64 v] w fun e w'=>e =.returned (.tuple #[.int .i32 (bF (v/4294967296)),.int .u32 (v%4294967296)])∧w'=w:=by
 go_enter Tryz.func144,Tryz.ntmps144
 go_wp2
 go_ret2
 refine⟨?_,rfl⟩
 simp only[Sl]
 rfl
theorem LU (t i:Int) (w:World):Calls Tryz.prog 182 #[.int .i32 t,.int .i32 i] w fun e w'=>e =.returned (.int .u32 (u32 (t-i)))∧w'=w:=by
 go_enter Tryz.func182,Tryz.ntmps182
 go_wp2
 go_ret
 refine⟨?_,rfl⟩
 have e:u32 (t-i)=(t%4294967296-i%4294967296)%4294967296:=by unfold u32;omega
 rw[e]
 rfl
theorem SB (x y:Nat) (hx:x<4294967296) (hy:y<4294967296):bits .or .u64 ((x*4294967296:Nat):Int) (y:Int)=((y+4294967296*x:Nat):Int):=by
 show IntKind.u64.wrap ((BitVec.ofInt 64 ((x*4294967296:Nat):Int) ||| BitVec.ofInt 64 (y:Int)).toNat:Int)=_
 rw[BitVec.toNat_or,ofInt_u64 (x*4294967296) (by omega),ofInt_u64 y (by omega)]
 have h:=Nat.shiftLeft_add_eq_or_of_lt (show y<2 ^ 32 from hy) x
 rw[Nat.shiftLeft_eq]at h
 rw[show(4294967296:Nat)=2 ^ 32 by decide,←h,IntKind.wrap_u64]
 omega
theorem Nh (a b:Int) (ha:0≤a) (ha1:a<4294967296) (hb:0≤b) (hb1:b<4294967296):bits .or .u64 (a*4294967296) b=b+4294967296*a:=by
 obtain⟨x,rfl⟩:∃x:Nat,a=x:=⟨a.toNat,by omega⟩
 obtain⟨y,rfl⟩:∃y:Nat,b=y:=⟨b.toNat,by omega⟩
 have:=SB x y (by omega) (by omega)
 rw[show((x*4294967296:Nat):Int)=(x:Int)*4294967296 by omega]at this
 rw[this]
 omega
theorem Nc (c:Int) (h0:0≤c) (h1:c<4294967296) (w:World):Calls Tryz.prog 103 #[.int .u32 c] w fun e w'=>e =.returned (.int .i64 (c%3))∧w'=w:=by
 have e:c.tmod 3=c%3:=Int.tmod_eq_emod_of_nonneg h0
 go_enter Tryz.func103,Tryz.ntmps103
 go_wp2
 go_ret
 exact⟨rfl,rfl⟩
theorem Hf (a b:Int) (w:World):Calls Tryz.prog 228 #[.int .i32 a,.int .i32 b] w fun e w'=>e =.returned (.int .u64 (u32 a+4294967296*u32 b))∧w'=w:=by
 go_enter Tryz.func228,Tryz.ntmps228
 go_wp2
 go_ret
 refine⟨?_,rfl⟩
 have e:=Nh (b%4294967296) (a%4294967296) (by omega) (by omega) (by omega) (by omega)
 show Ending.returned (.int .u64 (bits BinOp.or IntKind.u64 (b%4294967296*4294967296) (a%4294967296)))=_
 rw[e]
 rfl
theorem Ng (t o:Int) (h0:0≤o) (h1:o<4294967296) (w:World):Calls Tryz.prog 79 #[.int .i32 t,.int .u32 o] w fun e w'=>e =.returned (.int .u64 (o+4294967296*u32 t))∧w'=w:=by
 go_enter Tryz.func79,Tryz.ntmps79
 go_wp2
 go_ret
 refine⟨?_,rfl⟩
 have e:=Nh (t%4294967296) o (by omega) (by omega) h0 h1
 show Ending.returned (.int .u64 (bits BinOp.or IntKind.u64 (t%4294967296*4294967296) o))=_
 rw[e]
 rfl
end Go.Proofs.YtlaogoehmndcjaaGreatDoor.Ba
namespace Go.Proofs.YtlaogoehmndcjaaGreatDoor
open Go RowKit
theorem mixed:Tryz.prog.follows .mixedOrders=true:=by kernel_rfl
theorem YQ (x:Nat) (hx:x<18446744073709551616):x &&& 18446744073709551584=x-x%32:=by
 apply Nat.eq_of_testBit_eq
 intro i
 rw[Nat.testBit_and]
 have e:x-x%32=2 ^ 5*(x/2 ^ 5):=by omega
 have f:18446744073709551584=2 ^ 5*(2 ^ 59-1):=by decide
 rw[e,f,Nat.testBit_two_pow_mul,Nat.testBit_two_pow_mul,Nat.testBit_two_pow_sub_one,Nat.testBit_div_two_pow]
 by_cases h5:5≤i
 ·simp only[h5,decide_true,Bool.true_and]
  rw[show i-5+5=i by omega]
  by_cases h:i-5<59
  ·simp[h]
  ·have:x.testBit i=false:=Nat.testBit_lt_two_pow (Nat.lt_of_lt_of_le hx (by
    have:2 ^ 64≤2 ^ i:=Nat.pow_le_pow_right (by omega) (by omega)
    simpa using this))
   simp[this]
 ·simp[h5]
theorem wrap_i64_small (n:Int) (h0:0≤n) (h1:n<9223372036854775808):IntKind.i64.wrap n=n:=by
 simp[IntKind.wrap,IntKind.bits,IntKind.signed]
 split<;>omega
theorem DK (x:Nat) (hx:x<9223372036854775808):bits .andNot .i64 (x:Int) 31=((x-x%32:Nat):Int):=by
 show IntKind.i64.wrap ((BitVec.ofInt 64 (x:Int) &&& ~~~BitVec.ofInt 64 31).toNat:Int)=_
 have h1:(BitVec.ofInt 64 31).toNat=31:=by decide
 rw[BitVec.toNat_and,BitVec.toNat_not,ofInt_u64 x (by omega),h1,show 2 ^ 64-1-31=18446744073709551584 by decide,YQ x (by omega)]
 exact wrap_i64_small _ (by omega) (by omega)
def YS (n:Nat):Nat:=(n+31)/32*32
theorem Rm (w:World):Calls Tryz.prog 114 #[.int .i64 32] w fun e w'=>e =.returned (.bool true)∧w'=w:=by
 go_enter Tryz.func114,Tryz.ntmps114
 go_wp2
 go_ret
 exact⟨rfl,rfl⟩
theorem align (n:Nat) (hn:n≤2147483648) (w:World):Calls Tryz.prog 178 #[.int .i64 n,.int .i64 32] w fun e w'=>e =.returned (.tuple #[.int .i64 (YS n:Nat),.int .i64 0])∧w'=w:=by
 have key:=DK n (by omega)
 have h0:¬(n:Int)<0:=by omega
 have h1:¬(n:Int)>4611686018427387904:=by omega
 by_cases h:n%32=0
 ·have e:YS n=n:=by unfold YS;omega
  rw[h,Nat.sub_zero]at key
  go_enter Tryz.func178,Tryz.ntmps178
  go_wp2_with (first|(go_at_call 114;refine(Rm _).mono ?_;rintro e w' ⟨rfl,rfl⟩)|simp only)
  go_ret2
  refine⟨?_,rfl⟩
  show Ending.returned (.tuple #[.int .i64 (n:Int),.int .i64 0])=_
  first|rfl|rw[e]
 ·have e:((YS n:Nat):Int)=((n-n%32:Nat):Int)+32:=by unfold YS;omega
  have h2:¬((n-n%32:Nat):Int)=(n:Int):=by omega
  have h3:¬(((n-n%32:Nat):Int)+32)<0:=by omega
  have h4:¬(((n-n%32:Nat):Int)+32)>4611686018427387904:=by omega
  go_enter Tryz.func178,Tryz.ntmps178
  go_wp2_with (first|(go_at_call 114;refine(Rm _).mono ?_;rintro e w' ⟨rfl,rfl⟩)|simp only)
  go_ret2
  refine⟨?_,rfl⟩
  show Ending.returned (.tuple #[.int .i64 (((n-n%32:Nat):Int)+32),.int .i64 0])=_
  first|rfl|rw[e]
end Go.Proofs.YtlaogoehmndcjaaGreatDoor
namespace Go.Proofs.YtlaogoehmndcjaaGreatDoor.Ba
open Go RowKit Lib Base
theorem PU (x k idx:Nat) (w:World) (hx0:((x:Int)==0)=false)
 (key:IntKind.u64.wrap (bits BinOp.and IntKind.u64 (x:Int) (IntKind.u64.wrap (-(x:Int)))*285870213051353865)/288230376151711744=(idx:Int))
 (hi:idx<64) (hk:k<64) (hcell:w.cell? ⟨0,idx,none⟩=some (.int .u8 k)) :
 Calls Tryz.prog 231 #[.int .u64 x] w fun e w'=>e =.returned (.int .i64 k)∧w'=w:=by
 go_enter Tryz.func231,Tryz.ntmps231
 go_wp2_with (simp only[key])
 go_ret
 exact⟨rfl,rfl⟩
theorem tz (x:Nat) (hx0:x≠0) (hx:x<18446744073709551616) (w:World) (hT:TabAt 0 Lib.deBruijn64tab w) :
 Calls Tryz.prog 231 #[.int .u64 x] w fun e w'=>e =.returned (.int .i64 (Lib.ctz 64 x))∧w'=w:=by
 obtain⟨hlow,hk⟩:=Lib.lowest_bit 64 x hx0 hx
 obtain⟨hi,htab⟩:=Lib.deBruijn64_at _ hk
 have hcell:=hT _ hi
 rw[htab]at hcell
 exact PU x _ _ w (by simp;omega) (tz64_key x _ hx hx0 hlow) hi hk hcell
theorem Il (n:Int) (h:fJ n) (w:World):Calls Tryz.prog 183 #[.int .i64 n] w fun e w'=>e =.returned (.int .i64 (n*2147483648))∧w'=w:=by
 have hn:=(zO n).1 h
 have c:=zP n (by omega) w
 rw[decide_eq_true h]at c
 have ew:wrap64 (n*2147483648)=n*2147483648:=IntWalk.wrap64_in _ (by omega)
 go_enter Tryz.func183,Tryz.ntmps183
 go_wp2_with (go_at_call 62;refine c.mono ?_;rintro e w1 ⟨rfl,rfl⟩)
 go_ret
 exact⟨by first|rfl|rw[ew],rfl⟩
