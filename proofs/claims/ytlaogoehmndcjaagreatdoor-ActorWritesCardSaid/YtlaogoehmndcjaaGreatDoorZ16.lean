import Derived.Test.YtlaogoehmndcjaaGreatDoorZ15
import Derived.Test.YtlaogoehmndcjaaGreatDoorZ14
import Derived.Deep.MidRow
set_option maxRecDepth 1000000
set_option maxHeartbeats 3200000
set_option linter.unusedSectionVars false
set_option linter.unusedVariables false
set_option linter.unusedSimpArgs false
namespace Go.Proofs.YtlaogoehmndcjaaGreatDoor.Ba
open Go RowKit Lib Base
theorem Ef (l:Lg) (h:l.ok) (n:Int) (w:World) :
 Calls Tryz.prog 125 #[l.val,.int .i64 n] w fun e w'=>e =.returned (.int .i64 n)∧Below w.heap.size w w':=by
 have c:=fun W=>eT l h W
 clear h
 obtain⟨base,term,aV,subs,bG,dQ,str⟩:=l
 unfold Lg.val at c ⊢
 dsimp only at c ⊢
 have HS:=aC (show Below w.heap.size w (w.alloc (.cells #[.int .i64 base,.int .i64 term,.int .i64 aV,.int .i64 subs,.int .i32 bG,.int .i32 dQ,.int .i32 str] 23))∧(w.alloc (.cells #[.int .i64 base,.int .i64 term,.int .i64 aV,.int .i64 subs,.int .i32 bG,.int .i32 dQ,.int .i32 str] 23)).heap.size=w.heap.size+1 from⟨(Below.refl _ _).alloc (Nat.le_refl _) _,by simp⟩)
 go_enter Tryz.func125,Tryz.ntmps125
 go_wp2_with (go_at_call 36;refine(c _).mono ?_;clear c;rintro e w1 ⟨rfl,hB⟩;have HB:=aC hB;clear hB)
 go_ret
 exact⟨by first|rfl|simp,HS.out.1.trans (HB.out.mono (by have:=HS.out.2;omega))⟩
theorem iH (l:Lg) (h:l.ok)  (w:World) :
 Calls Tryz.prog 80 #[l.val] w fun e w'=>e =.returned (.int .i64 (l.base+3*l.term+24))∧Below w.heap.size w w':=by
 have hb:=h.bounds
 have c1:=fun W=>mI l h W
 have c2:=fun W=>Ef l h (l.base+3*l.term+24) W
 clear h
 obtain⟨base,term,aV,subs,bG,dQ,str⟩:=l
 unfold Lg.val at c1 c2 ⊢
 dsimp only at *
 obtain⟨m,hm⟩:∃m,base+3*term=m:=⟨_,rfl⟩
 have hmb:0≤m∧m≤160000:=by omega
 have kw:IntKind.i64.wrap (m+24)=m+24:=wrap_small _ (by omega) (by omega)
 rw[hm]at c1 c2 ⊢
 obtain⟨W1,hW1⟩:∃W1,w.alloc (.cells #[.int .i64 base,.int .i64 term,.int .i64 aV,.int .i64 subs,.int .i32 bG,.int .i32 dQ,.int .i32 str] 23)=W1:=⟨_,rfl⟩
 obtain⟨A,hA⟩:∃A,w.heap.size=A:=⟨_,rfl⟩
 have u0:W1.heap[A]? = some (.cells #[.int .i64 base,.int .i64 term,.int .i64 aV,.int .i64 subs,.int .i32 bG,.int .i32 dQ,.int .i32 str] 23 (0,0)):=by rw[←hW1,←hA];exact aZ _ _
 have u1:Below A w W1:=by rw[←hW1,←hA];exact(Below.refl _ _).alloc (Nat.le_refl _) _
 have u2:W1.heap.size=A+1:=by rw[←hW1];simp[hA]
 have HU:=aC (aR u0 (aR u1 u2))
 obtain⟨m0,m1,m2,m3,m4,m5,m6⟩:=qJ u0
 clear u0 u1 u2 hm
 go_enter Tryz.func80,Tryz.ntmps80
 go_wp2_with fail
 go_region_with
 (first
   | (go_at_call 124
      refine(c1 _).mono ?_
      clear c1
      rintro e w2 ⟨rfl,hB1⟩
      have v0:=(hB1.block A (by have:=HU.out.2.2;simp;omega)).trans HU.out.1
      obtain⟨n0,n1,n2,n3,n4,n5,n6⟩:=qJ v0
      have HV:=aC (aR (HU.out.2.1.drew.trans (hB1.mono (by have:=HU.out.2.2;simp;omega))) (show A+1≤w2.heap.size from Nat.le_trans (Nat.le_of_eq HU.out.2.2.symm) hB1.size))
      clear hB1 v0)
   | (go_at_call 125
      refine(c2 _).mono ?_
      clear c2
      rintro e w3 ⟨rfl,hB2⟩
      have HQ:=aC (HV.out.1.trans (hB2.mono (by have:=HV.out.2;first|omega|(simp;omega))))
      clear hB2))
 all_goals go_wp2
 all_goals go_ret
 all_goals refine⟨by first|rfl|simp,?_⟩
 all_goals (try rw[hA])
 all_goals exact HQ.out
theorem mK (l:Lg) (h:l.ok)  (w:World) :
 Calls Tryz.prog 81 #[l.val] w fun e w'=>e =.returned (.int .i64 (l.base+3*l.term+32))∧Below w.heap.size w w':=by
 have hb:=h.bounds
 have c1:=fun W=>mI l h W
 have c2:=fun W=>Ef l h (l.base+3*l.term+32) W
 clear h
 obtain⟨base,term,aV,subs,bG,dQ,str⟩:=l
 unfold Lg.val at c1 c2 ⊢
 dsimp only at *
 obtain⟨m,hm⟩:∃m,base+3*term=m:=⟨_,rfl⟩
 have hmb:0≤m∧m≤160000:=by omega
 have kw:IntKind.i64.wrap (m+32)=m+32:=wrap_small _ (by omega) (by omega)
 rw[hm]at c1 c2 ⊢
 obtain⟨W1,hW1⟩:∃W1,w.alloc (.cells #[.int .i64 base,.int .i64 term,.int .i64 aV,.int .i64 subs,.int .i32 bG,.int .i32 dQ,.int .i32 str] 23)=W1:=⟨_,rfl⟩
 obtain⟨A,hA⟩:∃A,w.heap.size=A:=⟨_,rfl⟩
 have u0:W1.heap[A]? = some (.cells #[.int .i64 base,.int .i64 term,.int .i64 aV,.int .i64 subs,.int .i32 bG,.int .i32 dQ,.int .i32 str] 23 (0,0)):=by rw[←hW1,←hA];exact aZ _ _
 have u1:Below A w W1:=by rw[←hW1,←hA];exact(Below.refl _ _).alloc (Nat.le_refl _) _
 have u2:W1.heap.size=A+1:=by rw[←hW1];simp[hA]
 have HU:=aC (aR u0 (aR u1 u2))
 obtain⟨m0,m1,m2,m3,m4,m5,m6⟩:=qJ u0
 clear u0 u1 u2 hm
 go_enter Tryz.func81,Tryz.ntmps81
 go_wp2_with fail
 go_region_with
 (first
   | (go_at_call 124
      refine(c1 _).mono ?_
      clear c1
      rintro e w2 ⟨rfl,hB1⟩
      have v0:=(hB1.block A (by have:=HU.out.2.2;simp;omega)).trans HU.out.1
      obtain⟨n0,n1,n2,n3,n4,n5,n6⟩:=qJ v0
      have HV:=aC (aR (HU.out.2.1.drew.trans (hB1.mono (by have:=HU.out.2.2;simp;omega))) (show A+1≤w2.heap.size from Nat.le_trans (Nat.le_of_eq HU.out.2.2.symm) hB1.size))
      clear hB1 v0)
   | (go_at_call 125
      refine(c2 _).mono ?_
      clear c2
      rintro e w3 ⟨rfl,hB2⟩
      have HQ:=aC (HV.out.1.trans (hB2.mono (by have:=HV.out.2;first|omega|(simp;omega))))
      clear hB2))
 all_goals go_wp2
 all_goals go_ret
 all_goals refine⟨by first|rfl|simp,?_⟩
 all_goals (try rw[hA])
 all_goals exact HQ.out
theorem mP (l:Lg) (h:l.ok)  (w:World) :
 Calls Tryz.prog 83 #[l.val] w fun e w'=>e =.returned (.int .i64 (l.base+3*l.term+40))∧Below w.heap.size w w':=by
 have hb:=h.bounds
 have c1:=fun W=>mI l h W
 have c2:=fun W=>Ef l h (l.base+3*l.term+40) W
 clear h
 obtain⟨base,term,aV,subs,bG,dQ,str⟩:=l
 unfold Lg.val at c1 c2 ⊢
 dsimp only at *
 obtain⟨m,hm⟩:∃m,base+3*term=m:=⟨_,rfl⟩
 have hmb:0≤m∧m≤160000:=by omega
 have kw:IntKind.i64.wrap (m+40)=m+40:=wrap_small _ (by omega) (by omega)
 rw[hm]at c1 c2 ⊢
 obtain⟨W1,hW1⟩:∃W1,w.alloc (.cells #[.int .i64 base,.int .i64 term,.int .i64 aV,.int .i64 subs,.int .i32 bG,.int .i32 dQ,.int .i32 str] 23)=W1:=⟨_,rfl⟩
 obtain⟨A,hA⟩:∃A,w.heap.size=A:=⟨_,rfl⟩
 have u0:W1.heap[A]? = some (.cells #[.int .i64 base,.int .i64 term,.int .i64 aV,.int .i64 subs,.int .i32 bG,.int .i32 dQ,.int .i32 str] 23 (0,0)):=by rw[←hW1,←hA];exact aZ _ _
 have u1:Below A w W1:=by rw[←hW1,←hA];exact(Below.refl _ _).alloc (Nat.le_refl _) _
 have u2:W1.heap.size=A+1:=by rw[←hW1];simp[hA]
 have HU:=aC (aR u0 (aR u1 u2))
 obtain⟨m0,m1,m2,m3,m4,m5,m6⟩:=qJ u0
 clear u0 u1 u2 hm
 go_enter Tryz.func83,Tryz.ntmps83
 go_wp2_with fail
 go_region_with
 (first
   | (go_at_call 124
      refine(c1 _).mono ?_
      clear c1
      rintro e w2 ⟨rfl,hB1⟩
      have v0:=(hB1.block A (by have:=HU.out.2.2;simp;omega)).trans HU.out.1
      obtain⟨n0,n1,n2,n3,n4,n5,n6⟩:=qJ v0
      have HV:=aC (aR (HU.out.2.1.drew.trans (hB1.mono (by have:=HU.out.2.2;simp;omega))) (show A+1≤w2.heap.size from Nat.le_trans (Nat.le_of_eq HU.out.2.2.symm) hB1.size))
      clear hB1 v0)
   | (go_at_call 125
      refine(c2 _).mono ?_
      clear c2
      rintro e w3 ⟨rfl,hB2⟩
      have HQ:=aC (HV.out.1.trans (hB2.mono (by have:=HV.out.2;first|omega|(simp;omega))))
      clear hB2))
 all_goals go_wp2
 all_goals go_ret
 all_goals refine⟨by first|rfl|simp,?_⟩
 all_goals (try rw[hA])
 all_goals exact HQ.out
theorem jd (l:Lg) (h:l.ok) (p:Int) (h0:0≤p) (h1:p<3) (w:World) :
 Calls Tryz.prog 130 #[l.val,.int .i64 p] w fun e w'=>e =.returned (.int .i64 (l.base+p*l.term))∧Below w.heap.size w w':=by
 have hb:=h.bounds
 have c2:=fun W=>JP l h l.base p 3 l.term h0 h1 (by omega) (by omega) (by omega) (by omega) (by omega) W
 clear h
 obtain⟨base,term,aV,subs,bG,dQ,str⟩:=l
 unfold Lg.val at c2 ⊢
 dsimp only at *
 have HS:=aC (show Below w.heap.size w (w.alloc (.cells #[.int .i64 base,.int .i64 term,.int .i64 aV,.int .i64 subs,.int .i32 bG,.int .i32 dQ,.int .i32 str] 23))∧(w.alloc (.cells #[.int .i64 base,.int .i64 term,.int .i64 aV,.int .i64 subs,.int .i32 bG,.int .i32 dQ,.int .i32 str] 23)).heap.size=w.heap.size+1 from⟨(Below.refl _ _).alloc (Nat.le_refl _) _,by simp⟩)
 go_enter Tryz.func130,Tryz.ntmps130
 go_wp2_with (go_at_call 123;refine(c2 _).mono ?_;clear c2;rintro e w1 ⟨rfl,hB⟩;have HB:=aC hB;clear hB)
 go_ret
 exact⟨by first|rfl|simp,HS.out.1.trans (HB.out.mono (by have:=HS.out.2;omega))⟩
end Go.Proofs.YtlaogoehmndcjaaGreatDoor.Ba
namespace Go.Proofs.YtlaogoehmndcjaaGreatDoor.Sy
open Go RowKit AS Base Ba
noncomputable section
def Re (n:Int):Int:=(n+31)/32*32
theorem Md (n:Int) (h0:0≤n) (h1:n≤2147483648) (w:World):Calls Tryz.prog 178 #[.int .i64 n,.int .i64 32] w fun e w'=>e =.returned (.tuple #[.int .i64 (Re n),.int .i64 0])∧Below w.heap.size w w':=by
 obtain⟨m,rfl⟩:∃m:Nat,n=m:=⟨n.toNat,by omega⟩
 refine(align m (by omega) w).mono ?_
 rintro e w' ⟨rfl,rfl⟩
 refine⟨?_,Below.refl _ _⟩
 congr 4
theorem dO (v:Int) (h0:0≤v) (h1:v<18446744073709551616) (w:World):Calls Tryz.prog 144 #[.int .u64 v] w fun e w'=>e =.returned (.tuple #[.int .i32 (bF (v/4294967296)),.int .u32 (v%4294967296)])∧Below w.heap.size w w':=by
 refine(Ba.GV v h0 h1 w).mono ?_
 rintro e w' ⟨rfl,rfl⟩
 exact⟨rfl,Below.refl _ _⟩
theorem JH (a b:Int) (w:World):Calls Tryz.prog 228 #[.int .i32 a,.int .i32 b] w fun e w'=>e =.returned (.int .u64 (u32 a+4294967296*u32 b))∧Below w.heap.size w w':=by
 refine(Ba.Hf a b w).mono ?_
 rintro e w' ⟨rfl,rfl⟩
 exact⟨rfl,Below.refl _ _⟩
theorem PO (n:Int):IntKind.u64.wrap (u32 n)=u32 n:=by
 rw[IntKind.wrap_u64];unfold u32;omega
theorem mixed:Tryz.prog.follows .mixedOrders=true:=by kernel_rfl
theorem bQ (x:Int):0≤u32 x∧u32 x<4294967296:=by unfold u32;omega
theorem countB (a b:Int) (W:World):Calls Tryz.prog 182 #[.int .i32 a,.int .i32 b] W fun e w'=>e =.returned (.int .u32 (u32 (a-b)))∧Below W.heap.size W w':=by
 refine(Ba.LU a b W).mono ?_
 rintro e w' ⟨rfl,rfl⟩
 exact⟨rfl,Below.refl _ _⟩
theorem uO (c:Int) (h0:0≤c) (h1:c<4294967296) (W:World):Calls Tryz.prog 103 #[.int .u32 c] W fun e w'=>e =.returned (.int .i64 (c%3))∧Below W.heap.size W w':=by
 refine(Ba.Nc c h0 h1 W).mono ?_
 rintro e w' ⟨rfl,rfl⟩
 exact⟨rfl,Below.refl _ _⟩
theorem Zw {w w':World} (h:TabAt 0 Lib.deBruijn64tab w) (hb:Below 1 w w'):TabAt 0 Lib.deBruijn64tab w':=fun j hj=>(hb.cell (p:=⟨0,j,none⟩) (Nat.lt_succ_self 0)).trans (h j hj)
end
end Go.Proofs.YtlaogoehmndcjaaGreatDoor.Sy
namespace Go.AS
open Go.RowKit
theorem NN [bH] {o:Oper} {t u:Nat} (h:jl o=some (40,t,u)):∃x,o.op =.load t x:=by
 unfold jl at h
 split at h
 ·rename_i op' t' x y u' ho
  simp only[Option.some.injEq,Prod.mk.injEq]at h
  have:=kG op';omega
 ·rename_i op' t' x ho
  simp only[Option.some.injEq,Prod.mk.injEq]at h
  have:=j4 op';omega
 all_goals first
  | (rename_i t' x ho;simp only[Option.some.injEq,Prod.mk.injEq]at h;obtain⟨_,rfl,_⟩:=h;exact⟨_,ho⟩)
  | (simp only[Option.some.injEq,Prod.mk.injEq]at h;omega)
  | (split at h<;>first|(simp only[Option.some.injEq,Prod.mk.injEq]at h;omega)|cases h)
  | cases h
theorem Ca [bH] {o:Oper} {t u:Nat} (h:jl o=some (41,t,u)):∃x i,o.op =.indexAddr t x i:=by
 unfold jl at h
 split at h
 ·rename_i op' t' x y u' ho
  simp only[Option.some.injEq,Prod.mk.injEq]at h
  have:=kG op';omega
 ·rename_i op' t' x ho
  simp only[Option.some.injEq,Prod.mk.injEq]at h
  have:=j4 op';omega
 all_goals first
  | (rename_i t' x i ho;simp only[Option.some.injEq,Prod.mk.injEq]at h;obtain⟨_,rfl,_⟩:=h;exact⟨_,_,ho⟩)
  | (simp only[Option.some.injEq,Prod.mk.injEq]at h;omega)
  | (split at h<;>first|(simp only[Option.some.injEq,Prod.mk.injEq]at h;omega)|cases h)
  | cases h
theorem wC [bH] {o:Oper} {t u:Nat} (h:jl o=some (3,t,u)):∃x l h' m,o.op =.slice t x l h' m∧Fv l h' m=u:=by
 unfold jl at h
 split at h
 ·rename_i op' t' x y u' ho
  simp only[Option.some.injEq,Prod.mk.injEq]at h
  have:=kG op';omega
 ·rename_i op' t' x ho
  simp only[Option.some.injEq,Prod.mk.injEq]at h
  have:=j4 op';omega
 all_goals first
  | (rename_i t' x l h' m ho;simp only[Option.some.injEq,Prod.mk.injEq]at h;obtain⟨_,rfl,h2⟩:=h;exact⟨_,_,_,_,ho,h2⟩)
  | (simp only[Option.some.injEq,Prod.mk.injEq]at h;omega)
  | (split at h<;>first|(simp only[Option.some.injEq,Prod.mk.injEq]at h;omega)|cases h)
  | cases h
variable {P:Program} {Tw:World→Prop} [bH]
theorem PS {n:Nat} (hD:((List.range n).all fun i=>(bH.D i).oneCell')=true) {r v:Value} (h:within n 0 DP r=true) (hv:im bH.D bI r=v) (σ:Sg):VR σ r v:=by
 rw[←hv]
 exact DI (fun i hi=>List.all_eq_true.1 hD i (List.mem_range.2 hi)) (fun i hi=>absurd hi (Nat.not_lt_zero _)) _ _ h
theorem VS {n:Nat} (hD:((List.range n).all fun i=>(bH.D i).oneCell')=true) {t:TypeId} {a r v:Value} {p:Addr} (h0:(okB a&&within n 0 DP r)=true) (hca:bR a =.pointer (some p)) (hv:im bH.D bI r=v) (h:∀w,Tw w→(loadVar t p).run P w =.ok v w):dL P Tw ⟨(40,t,0),[a],r⟩:=by
 simp only[Bool.and_eq_true]at h0
 intro o hk σ ρ' hvl w hT
 obtain⟨x,ho⟩:=NN hk
 have hc:=hvl.bR (by intro z hz;simp at hz;subst hz;exact dJ h0.1)
 rw[ho]at hc
 simp only[Op.operands,List.map_cons,List.map_nil,List.cons.injEq,and_true]at hc
 refine⟨v,?_,PS hD h0.2 hv σ⟩
 have:execOp ρ' o=(do pure (.value (←Instr.loadAt t (ρ' x)))):=by simp[execOp,ho]
 rw[this,show ρ' x =.pointer (some p)from hc.trans hca]
 simp[Instr.loadAt,Instr.sureAddr,h w hT]
theorem Sr {t e:TypeId} {ie:TypeInfo} (hu:P.underlying t=some (.slice e)) (hi:P.info? e=some ie) {a b r:Value} {ad:Addr} {n c:Nat} {k:IntKind} {j:Int} (h0:(okB a&&okB b&&okB r)=true) (hca:bR a =.slice (some ad) n c) (hcb:bR b =.int k j) (hcr:bR r =.pointer (some (ad.add (j.toNat*ie.size)))) (hj:0≤j∧j<n):dL P Tw ⟨(41,t,0),[a,b],r⟩:=by
 simp only[Bool.and_eq_true]at h0
 intro o hk σ ρ' hvl w hT
 obtain⟨x,i,ho⟩:=Ca hk
 have hc:=hvl.bR (by intro z hz;simp at hz;rcases hz with rfl|rfl<;>first|exact dJ h0.1.1|exact dJ h0.1.2)
 rw[ho]at hc
 simp only[Op.operands,List.map_cons,List.map_nil,List.cons.injEq,and_true]at hc
 refine⟨bR r,?_,VR.gF (dJ h0.2)⟩
 have:execOp ρ' o=(do pure (.value (←Instr.indexAt t (ρ' x) (ρ' i)))):=by simp[execOp,ho]
 rw[this,show ρ' x=_ from hc.1.trans hca,show ρ' i=_ from hc.2.trans hcb,hcr]
 simp[Instr.indexAt,asIntOf,run_underlying hu,sizeOf,typeInfo,hi,hj]
theorem Zz {t u e:TypeId} (ht0:t≠0) (hu:P.underlying t=some (.slice e)) {a r:Value} {ad:Option Addr} {n c:Nat} (h0:(okB a&&okB r)=true) (hca:bR a =.slice ad n c) (hcr:bR r =.int .i64 n):dL P Tw ⟨(4,t,u),[a],r⟩:=by
 simp only[Bool.and_eq_true]at h0
 intro o hk σ ρ' hvl w hT
 obtain⟨c',ho,ht,_,hcl⟩:=Qq hk
 have hcc:=hvl.bR (by intro z hz;simp at hz;subst hz;exact dJ h0.1)
 rw[ho]at hcc
 have hops:c'.operands=c'.args:=by simp[Call.operands,hcl]
 simp only[Op.operands,hops]at hcc
 obtain⟨ox,hargs⟩:∃ox,c'.args.toList=[ox]:=by
  match hl:c'.args.toList,hcc with
  | [ox],_=>exact⟨ox,rfl⟩
  | [],h=>simp at h
  | _::_::_,h=>simp at h
 rw[hargs]at hcc
 simp only[List.map_cons,List.map_nil,List.cons.injEq,and_true]at hcc
 have hx:ρ' ox =.slice ad n c:=hcc.trans hca
 refine⟨bR r,?_,VR.gF (dJ h0.2)⟩
 rw[hcr]
 have hmap:c'.args.map ρ' =#[.slice ad n c]:=by
  apply Array.ext'
  simp[hargs,hx]
 obtain⟨tl,htl⟩:∃tl,c'.argTypes.toList=t::tl:=by
  cases hl:c'.argTypes.toList with
  | nil=>rw[hl]at ht;exact absurd ht.symm ht0
  | cons x l=>rw[hl]at ht;exact⟨l,by rw[show x=t from ht]⟩
 have hts:c'.argTypes[0]? = some t:=by
  rw[←Array.getElem?_toList,htl];rfl
 have e1:execOp ρ' o=(do let d ←resolve ρ' c' o.type;invoke d.target d.args):=by simp[execOp,ho]
 rw[e1]
 simp only[resolve,hcl,Sem.run_bind,Sem.run_pure,Result.andThen_ok,invoke,builtin]
 simp[hmap,Builtin.len_,hts,run_underlying hu,goInt]
theorem P8 {t e:TypeId} {ie:TypeInfo} (hu:P.underlying t=some (.slice e)) (hi:P.info? e=some ie) {a b r:Value} {ad:Option Addr} {n cp l:Nat} {k:IntKind} (h0:(okB a&&okB b&&okB r)=true) (hca:bR a =.slice ad n cp) (hcb:bR b =.int k l) (hcr:bR r =.slice (if cp=l then ad else ad.map (·.add (l*ie.size))) (n-l) (cp-l)) (hl:l≤n) (hn:n≤cp):dL P Tw ⟨(3,t,1),[a,b],r⟩:=by
 simp only[Bool.and_eq_true]at h0
 intro o hk σ ρ' hvl w hT
 obtain⟨x,lo,hi',mx,ho,hm⟩:=wC hk
 have hc:=hvl.bR (by intro z hz;simp at hz;rcases hz with rfl|rfl<;>first|exact dJ h0.1.1|exact dJ h0.1.2)
 rw[ho]at hc
 cases lo<;>cases hi'<;>cases mx<;>simp[Fv]at hm
 simp[Op.operands]at hc
 refine⟨bR r,?_,VR.gF (dJ h0.2)⟩
 have hb:=iy (P:=P) (Qu:=true) (len:=n) (cap:=cp) (mx:=none) (hi:=none) (lo:=some (.int k l)) (.inl ⟨rfl,rfl⟩) (.inl ⟨rfl,rfl⟩) (fun _=>rfl) (.inr ⟨k,rfl,hl⟩) w
 have hs:=jk hu hi (a:=ad) hb
 rw[hcr]
 have:execOp ρ' o=(do pure (.value (←Instr.sliceAt t (.slice ad n cp) (some (.int k l)) none none))):=by simp[execOp,ho,hc.1.trans hca,hc.2.trans hcb]
 rw[this]
 simp only[Sem.run_bind,hs];rfl
theorem P7 {t e:TypeId} {ie:TypeInfo} (hu:P.underlying t=some (.slice e)) (hi:P.info? e=some ie) {a c r:Value} {ad:Option Addr} {n cp h:Nat} {k2:IntKind} (h0:(okB a&&okB c&&okB r)=true) (hca:bR a =.slice ad n cp) (hcc:bR c =.int k2 h) (hcr:bR r =.slice (if cp=0 then ad else ad.map (·.add (0*ie.size))) (h-0) (cp-0)) (hh:h≤cp):dL P Tw ⟨(3,t,2),[a,c],r⟩:=by
 simp only[Bool.and_eq_true]at h0
 intro o hk σ ρ' hvl w hT
 obtain⟨x,lo,hi',mx,ho,hm⟩:=wC hk
 have hc:=hvl.bR (by intro z hz;simp at hz;rcases hz with rfl|rfl<;>first|exact dJ h0.1.1|exact dJ h0.1.2)
 rw[ho]at hc
 cases lo<;>cases hi'<;>cases mx<;>simp[Fv]at hm
 simp[Op.operands]at hc
 refine⟨bR r,?_,VR.gF (dJ h0.2)⟩
 have hb:=iy (P:=P) (Qu:=true) (len:=n) (cap:=cp) (mx:=none) (hi:=some (.int k2 h)) (lo:=none) (.inl ⟨rfl,rfl⟩) (.inr ⟨k2,rfl,hh⟩) (fun h=>by cases h) (.inl ⟨rfl,rfl⟩) w
 have hs:=jk hu hi (a:=ad) hb
 rw[hcr]
 have:execOp ρ' o=(do pure (.value (←Instr.sliceAt t (.slice ad n cp) none (some (.int k2 h)) none))):=by simp[execOp,ho,hc.1.trans hca,hc.2.trans hcc]
 rw[this]
 simp only[Sem.run_bind,hs];rfl
structure Rd where
 f:FuncId
 args:List Value
 reads:List (Nat×Nat×List Value)
 res:Value
noncomputable def Sz (m:Mem) (q:Nat×Nat×List Value):Bool:=match m.t.get q.1 with
 | some (.row cells n _)=>match Nat.ble (q.2.1+q.2.2.length) n with
   | true=>match cells.wG q.2.2.length q.2.1 with
     | some l=>uy 30 l q.2.2
     | none=>false
   | false=>false
 | _=>false
noncomputable def JI (m:Mem):List (Nat×Nat×List Value)→Bool
 | []=>true
 | q::l=>match Sz m q with
   | true=>JI m l
   | false=>false
noncomputable def Sw:List Rd→qM→qM
 | [],S,f,args,m=>S f args m
 | r::l,S,f,args,m=>match Nat.beq r.f f with
   | true=>match uy 30 args r.args with
     | true=>match JI m r.reads with
       | true=>some [(r.res,m)]
       | false=>Sw l S f args m
     | false=>Sw l S f args m
   | false=>Sw l S f args m
def Jp (P:Program) (Tw:World→Prop) (r:Rd):Prop:=∀(σ:Sg) (args':Array Value),cZ σ r.args args'.toList→∀w,Tw w→(∀q∈r.reads,∃x l',σ q.1=some x∧cZ σ q.2.2 l'∧w.rangeAt x.b (x.sh+q.2.1) l') →
 Calls P r.f args' w fun e w'=>∃v',e =.returned v'∧VR σ r.res v'∧Below w.heap.size w w'
theorem Hg {E:Env} {w0 w:World} {σ:Sg} {m:Mem} (h:MR E w0 σ m w) {q:Nat×Nat×List Value} (hq:Sz m q=true):∃x l',σ q.1=some x∧cZ σ q.2.2 l'∧w.rangeAt x.b (x.sh+q.2.1) l':=by
 obtain⟨b,o,l0⟩:=q
 unfold Sz at hq
 split at hq
 ·rename_i cells n e hg
  split at hq
  ·rename_i hle
   have hle:=Nat.le_of_ble_eq_true hle
   split at hq
   ·rename_i l hl
    have hl0:=(lu 30).2 _ _ hq
    subst hl0
    obtain⟨x,ob,hx,_,_,_⟩:=h.obj b _ hg rfl
    obtain⟨C,fz,_,hC,hnf,hsz,hn,_,hc⟩:=h.row hg hx
    obtain⟨h1,h2⟩:=T.nQ hl
    simp only at hle
    refine⟨x,(C.toList.drop (x.sh+o)).take l.length,hx,?_,?_⟩
    ·refine cZ.kg (by simp;omega) (fun j u u' hu hu' => ?_)
     have hj:j<l.length:=(List.getElem?_eq_some_iff.1 hu).1
     obtain⟨a,a',ha,ha',hr⟩:=hc (o+j) (by omega)
     have:=h2 j hj
     rw[this,hu]at ha
     rw[List.getElem?_take,if_pos hj,List.getElem?_drop]at hu'
     rw[←Array.getElem?_toList]at ha'
     rw[show x.sh+(o+j)=x.sh+o+j by omega,hu']at ha'
     cases ha;cases ha'
     exact hr
    ·intro j v hv
     have hj:j<l.length:=by
      have:=(List.getElem?_eq_some_iff.1 hv).1
      simp at this;omega
     rw[List.getElem?_take,if_pos hj,List.getElem?_drop]at hv
     simp only[World.cell?,hC]
     rw[←Array.getElem?_toList]
     exact hv
   ·cases hq
  ·cases hq
 ·cases hq
theorem EU {E:Env} {w0 w:World} {σ:Sg} {m:Mem} (h:MR E w0 σ m w):∀{l:List (Nat×Nat×List Value)},JI m l=true→∀q∈l,∃x l',σ q.1=some x∧cZ σ q.2.2 l'∧w.rangeAt x.b (x.sh+q.2.1) l':=by
 intro l
 induction l with
 | nil=>intro _ q hq;cases hq
 | cons p l ih =>
   intro hl q hq
   unfold JI at hl
   split at hl
   ·rename_i hp
    rcases List.mem_cons.1 hq with rfl|hq
    ·exact Hg h hp
    ·exact ih hl q hq
   ·cases hl
theorem Sv {E:Env} {w0:World} {l:List Rd} {S:qM} (hT:∀σ m w,MR E w0 σ m w→Tw w) (h:∀r∈l,Jp P Tw r) (hS:KO E P w0 S):KO E P w0 (Sw l S):=by
 induction l with
 | nil=>exact hS
 | cons p l ih =>
   intro f args m r hs hne σ w args' hv hM
   have ih':=ih (fun q hq=>h q (List.mem_cons_of_mem _ hq)) f args m r
   unfold Sw at hs
   split at hs
   ·rename_i hg
    split at hs
    ·rename_i ha
     split at hs
     ·rename_i hrd
      cases hs
      have hg':=Nat.eq_of_beq_eq_true hg
      have ha':=(lu 30).2 _ _ ha
      subst hg' ha'
      refine(h _ (List.mem_cons_self ..) σ args' hv w (hT σ m w hM) (EU hM hrd)).mono ?_
      rintro e w' ⟨v',rfl,yH,hb⟩
      obtain⟨hM',hF⟩:=hM.grown hb
      exact⟨_,List.mem_cons_self ..,σ,v',rfl,hF,yH,hM'⟩
     ·exact ih' hs hne σ w args' hv hM
    ·exact ih' hs hne σ w args' hv hM
   ·exact ih' hs hne σ w args' hv hM
theorem PX {E:Env} {rd:List Rd} {pl:om} (RG:∀w0,E.Tw w0→∀w',Kept E.own w0 w'→Tw w') (h:∀r∈rd,Jp P Tw r) (hp:∀p∈pl,ni P Tw p) (w0:World):KO E P w0 (Sw rd (jD pl)) :=
 Sv (fun _ _ _ hM=>RG _ hM.t0 _ hM.below) h (nD (fun _ _ _ hM=>RG _ hM.t0 _ hM.below) hp)
theorem O9:∀r∈([]:List Rd),Jp P Tw r:=fun _ h=>by cases h
theorem rA {r:Rd} {l:List Rd} (h:Jp P Tw r) (hl:∀s∈l,Jp P Tw s):∀s∈r::l,Jp P Tw s:=fun s hs=>by
 rcases List.mem_cons.1 hs with rfl|hs
 ·exact h
 ·exact hl s hs
theorem uL {f:FuncId} {b o n c:Nat} {cells cells':List Value} {v v':Value} (hc:cells.all okB=true) (hv:okB v=true) (ec:cells.map bR=cells') (ev:bR v=v') (h:∀bb oo cap w,Tw w→w.rangeAt bb oo cells'→Calls P f #[.slice (some ⟨bb,oo,none⟩) n cap] w fun e w'=>e =.returned v'∧Below w.heap.size w w'):Jp P Tw ⟨f,[.slice (some ⟨b,o,none⟩) n c],[(b,o,cells)],v⟩:=by
 subst ec ev
 intro σ args' hl w hT hr
 obtain⟨x,l',hx,hvl,hrg⟩:=hr _ (List.mem_cons_self ..)
 have e1:=hvl.bR (fun a ha=>dJ (List.all_eq_true.1 hc a ha))
 simp only at hrg hx hl
 have hlen:args'.toList.length=1:=hl.1.symm
 obtain⟨u,hu⟩:∃u,args'.toList=[u]:=by
  match args'.toList,hlen with
  | [u],_=>exact⟨u,rfl⟩
 rw[hu]at hl
 obtain⟨i,o',y,c',h1,h2,hy,_,_⟩:∃i o' y c',(some (⟨b,o,none⟩:Addr))=some ⟨i,o',none⟩∧u =.slice (some ⟨y.b,y.sh+o',none⟩) n c'∧σ i=some y∧True∧True:=by
  rcases(hl.head).fQ with⟨h1,_⟩|⟨i,o',y,c',h1,h2,h3,_,_⟩
  ·cases h1
  ·exact⟨i,o',y,c',h1,h2,h3,trivial,trivial⟩
 cases h1
 rw[hx]at hy
 cases hy
 have ea:args' =#[.slice (some ⟨x.b,x.sh+o,none⟩) n c']:=Array.ext' (by rw[hu,h2])
 subst ea
 rw[e1]at hrg
 refine(h x.b (x.sh+o) c' w hT hrg).mono ?_
 rintro e w' ⟨rfl,hb⟩
 exact⟨_,rfl,VR.gF (dJ hv),hb⟩
omit [bH] in
theorem EO {P:Program} (hP:P.follows .mixedOrders=true) {fs ts:List Nat} {Tw:World→Prop} (D:Nat→Value) {n:Nat} (hD:((List.range n).all fun i=>(D i).oneCell')=true) {rules:List fE} (hr:letI:bH:=⟨D⟩; ∀r∈rules,dL P Tw r) {S:qM} (XJ:letI:bH:=⟨D⟩; ∀w0,(∀w',Kept (fun _=>False) w0 w'→Tw w')→KO (dz P fs ts rules Tw) P w0 S) {fuel d:Nat} {f:FuncId} {args:List Value} {v:Value}
 (vF:(args.all (within n 0 DP))=true) (hv:within n 0 DP v=true)
 (hrun:zx 0 (eB (dz P fs ts rules Tw) S fuel d (.fn f) args (kI [])) []=[(v,true,[])]) {args':Array Value} {r:Value} (ha:(args.map (im D bI)).toArray=args') (hr':im D bI v=r) (w:World) (hT:∀w',Below w.heap.size w w'→Tw w') :
 Calls P f args' w fun e w'=>e =.returned r∧Below w.heap.size w w':=by
 have eb:bare w.heap.size w=w:=by simp[bare]
 have key:=Lb hP D hD hr XJ (A:=[]) (by rfl) vF (by rfl) (Hy DP v hv) hrun (n0:=w.heap.size) (w:=w) (fun w' hb=>hT w' (by rw[eb]at hb;exact hb)) (fun i hi=>absurd hi (Nat.not_lt_zero _)) (G6 w D)
 rw[ha]at key
 refine key.mono ?_
 rintro e w' ⟨bf,rfl,h⟩
 refine⟨?_,h.left.1,h.left.2.1,h.left.2.2.1,h.left.2.2.2,fun b hb=>h.block b hb (fun i hi=>absurd hi (Nat.not_lt_zero _))⟩
 rw[←hr']
 exact congrArg _ (yG DP v hv)
theorem Qd {t e:TypeId} {ie:TypeInfo} (hu:P.underlying t=some (.slice e)) (hi:P.info? e=some ie) {sz:Nat} (hs:ie.size=sz) {a b r:Value} {bb bo oo n c:Nat} {k:IntKind} {j:Int} (h0:(okB a&&okB b&&okB r)=true) (hca:bR a =.slice (some ⟨bb,bo,none⟩) n c) (hcb:bR b =.int k j) (hcr:bR r =.pointer (some ⟨bb,oo,none⟩)) (ho:bo+j.toNat*sz=oo) (hj:0≤j∧j<n):dL P Tw ⟨(41,t,0),[a,b],r⟩:=by
 refine Sr (ad:=⟨bb,bo,none⟩) hu hi h0 hca hcb ?_ hj
 rw[hcr,←ho,hs,Addr.add_mid]
theorem Sq {n:Nat} (hD:((List.range n).all fun i=>(bH.D i).oneCell')=true) {t:TypeId} {d:TypeDesc} (hu:P.underlying t=some d) (hd:d.isRow=false) {a r v:Value} {p:Addr} (h0:(okB a&&within n 0 DP r)=true) (hca:bR a =.pointer (some p)) (hv:im bH.D bI r=v) (h:∀w,Tw w→w.cell? p=some v):dL P Tw ⟨(40,t,0),[a],r⟩:=by
 refine VS hD h0 hca hv (fun w hT => ?_)
 have hagg:(isAgg t).run P w =.ok false w:=by
  unfold isAgg
  rw[Sem.run_bind,run_underlying hu w]
  cases d<;>simp_all [TypeDesc.isRow]
 have hc:=h w hT
 simp[loadVar,Sem.run_bind,hagg,hc,go_sem]
end Go.AS
namespace Go.Proofs.YtlaogoehmndcjaaGreatDoor.Sy
open Go RowKit AS Base Ba
abbrev iB (x:Int):Value :=.int .u8 x
abbrev iS (x:Int):Value :=.int .u16 x
abbrev iL (x:Int):Value :=.int .i64 x
abbrev iI (x:Int):Value :=.int .i32 x
abbrev iW (x:Int):Value :=.int .u64 x
abbrev iU (x:Int):Value :=.int .u32 x
abbrev TW:World→Prop:=fun W=>TabAt 0 Lib.deBruijn64tab W
abbrev OKR [bH] (R:List fE):Prop:=∀r∈R,dL Tryz.prog TW r
def dG [bH] (n:Nat):Bool:=(List.range n).all fun i=>(bH.D i).oneCell'
theorem wq {n:Int} (h0 : -9223372036854775808≤n:=by omega) (h1:n≤9223372036854775807:=by omega):IntKind.i64.wrap n=n:=jP h0 h1
theorem ri [bH] (op:BinOp) (j k:IntKind) (x y:Int) (v:Value) {t u:TypeId} {a b r:Value} {l:List fE} {Tw:World→Prop} (h:binop (dz Tryz.prog [] [] []) op t (.int j x) (.int k y)=some v) (hl:∀q∈l,dL Tryz.prog Tw q) (h0:(okB a&&okB b&&okB r)=true:=by kernel_rfl) (hca:bR a =.int j x:=by kernel_rfl) (hcb:bR b =.int k y:=by kernel_rfl) (hcr:bR r=v:=by kernel_rfl) (hs:simple v=true:=by kernel_rfl):∀q∈(⟨(pQ op,t,u),[a,b],r⟩::l),dL Tryz.prog Tw q:=dZ (VT op h0 hca hcb hcr h hs) hl
theorem r6 [bH] (op:BinOp) (x y:Int) (v:Value) {t u:TypeId} {a b r:Value} {l:List fE} {Tw:World→Prop} (h:binop (dz Tryz.prog [] [] []) op t (.int .i64 x) (.int .i64 y)=some v) (hl:∀q∈l,dL Tryz.prog Tw q) (h0:(okB a&&okB b&&okB r)=true:=by kernel_rfl) (hca:bR a =.int .i64 x:=by kernel_rfl) (hcb:bR b =.int .i64 y:=by kernel_rfl) (hcr:bR r=v:=by kernel_rfl) (hs:simple v=true:=by kernel_rfl):∀q∈(⟨(pQ op,t,u),[a,b],r⟩::l),dL Tryz.prog Tw q:=dZ (VT op h0 hca hcb hcr h hs) hl
theorem rc [bH] (j k:IntKind) (n n':Int) {s d:TypeId} {a r:Value} {l:List fE} {Tw:World→Prop} (h:k.wrap n=n') (hl:∀q∈l,dL Tryz.prog Tw q) (h0:(okB a&&okB r)=true:=by kernel_rfl) (hca:bR a =.int j n:=by kernel_rfl) (hcr:bR r =.int k n':=by kernel_rfl) (ht:(match Dq Tryz.prog s,Dq Tryz.prog d with|some _,some td=>(match td.desc with | .int k'=>sameKind k' k|_=>false)|_,_=>false)=true:=by kernel_rfl):∀q∈(⟨(1,s,d),[a],r⟩::l),dL Tryz.prog Tw q:=dZ (VW h0 hca hcr ht h) hl
theorem rr [bH] {r:fE} {l:List fE} (h:dL Tryz.prog TW r) (hl:OKR l):OKR (r::l):=dZ h hl
