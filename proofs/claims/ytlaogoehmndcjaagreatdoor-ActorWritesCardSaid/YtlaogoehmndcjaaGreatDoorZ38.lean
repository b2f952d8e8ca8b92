import Derived.Test.YtlaogoehmndcjaaGreatDoorZ32
import Derived.Test.YtlaogoehmndcjaaGreatDoorZ33
set_option maxRecDepth 100000
set_option linter.unusedVariables false
set_option linter.unusedSectionVars false
set_option linter.unusedSimpArgs false
namespace Go.Proofs.YtlaogoehmndcjaaGreatDoor.Sy
open Go RowKit Lib AS Base Ba
noncomputable section
theorem M8 [bH] {Tw:World→Prop} {u:TypeId} {a:Value} {f:Fn} {fr c:Array Value} {l:List fE} (hl:dN Tw l) (h0:okB a=true) (hca:bR a =.func f fr c):dN Tw (⟨(21,49,u),[a,.nilFunc],.bool false⟩::l):=by
 refine dZ ?_ hl
 intro o hk σ ρ' hvl w hT
 obtain⟨x,y,ho⟩:=Kc (op :=.eql) hk
 have hc:=hvl.bR (by intro z hz;simp at hz;rcases hz with rfl|rfl<;>first|exact dJ h0|exact dJ (v :=.nilFunc) rfl)
 rw[ho]at hc
 simp only[Op.operands,List.map_cons,List.map_nil,List.cons.injEq,and_true]at hc
 refine⟨.bool false,?_,.refl rfl⟩
 have e:execOp ρ' o=(do pure (.value (←(do eqGuard .eql 49 x y (ρ' x) (ρ' y);Go.binOp .eql 49 (ρ' x) (ρ' y))))):=by simp[execOp,ho]
 rw[e,show ρ' x=_ from hc.1.trans hca,show ρ' y=Value.nilFunc from hc.2]
 have he:Sem.run Tryz.prog (Op.equalIn Op.maxDepth 49 (.func f fr c) .nilFunc) w =.ok false w:=by kernel_rfl
 simp[eqGuard,Go.binOp,Op.equal,go_sem,he]
theorem SE:∀(d:Nat) {n k:Nat} (v:Value),within n k d v=true→n≤1000→lI d v=true:=by
 intro d
 induction d with
 | zero=>intro n k v h;cases h
 | succ d ih =>
   have arr:∀{n k:Nat} (c:Array Value),c.toList.all (within n k d)=true→n≤1000→c.toList.all (lI d)=true:=fun{n k} c h hn=>List.all_eq_true.2 fun x hx=>ih x (List.all_eq_true.1 h x hx) hn
   intro n k v h hn
   unfold within at h
   split at h
   ·simp only[lI];rw[Nat.blt_eq]at h ⊢;omega
   ·rfl
   ·simp only[Bool.and_eq_true]at h
    simp only[lI,arr _ h.1 hn,arr _ h.2 hn,Bool.and_self]
   ·simp only[lI,arr _ h hn]
   ·simp only[lI,arr _ h hn]
   ·simp only[lI,ih _ h hn]
   ·rename_i h1 h2 h3 h4 h5 h6
    unfold lI
    split<;>first|rfl|exact h|(simp[simple]at h;done)|exact absurd rfl (h1 _)|exact absurd rfl (h2 _ _)|exact absurd rfl (h3 _ _ _)|exact absurd rfl (h4 _)|exact absurd rfl (h5 _)|exact absurd rfl (h6 _ _)
def Lv:Value→Bool
 | .func _ _ _=>true
 | _=>false
theorem nJ {v:Value} (h:Lv v=true):∃f fr c,v =.func f fr c:=by
 cases v<;>first|exact⟨_,_,_,rfl⟩|cases h
theorem iJ {D:Nat→Value} (n:Nat) {R:List fE} {pl:om} {Tw:World→Prop} (fs ts:List Nat) {f:FuncId} (args:List Value) {A:dU} (v:Value) {args':Array Value} {w:World} {τ:Nat→Nat×Nat}
 (hR : @dN ⟨D⟩ Tw R) (hP : @gY ⟨D⟩ Tw pl) (hT:∀w',Kept (ownB A τ) w w'→Tw w') (hS:ah w D A τ)
 (hD:((List.range n).all fun i=>(D i).oneCell')=true)
 (hrun:xR A.length (eB (dz Tryz.prog fs ts R Tw (ownB A τ)) (jf [] (jD pl)) 60 40 (.fn f) args (kI A)) (List.range A.length) []=[(v,true,A.map some,[])]:=by kernel_rfl)
 (h1:(pE n A&&args.all (within n A.length DP)&&within n 0 DP v&&Nat.ble n 1000&&A.all (fun p=>p.2.all (lI DP))&&decide (0<A.length))=true:=by kernel_rfl)
 (h2:(A.all fun p=>((dz Tryz.prog fs ts R Tw (ownB A τ)).types.get p.1).isSome)=true:=by kernel_rfl)
 (ha:(args.map (im D τ)).toArray=args':=by kernel_rfl) :
 Calls Tryz.prog f args' w fun e w'=>e =.returned (im D bI v)∧ah w' (D) A τ∧bK A τ w A τ w':=by
 simp only[Bool.and_eq_true,decide_eq_true_eq]at h1
 obtain⟨⟨⟨⟨⟨a1,a2⟩,a3⟩,a4⟩,a5⟩,a9⟩:=h1
 letI:bH:=⟨D⟩
 have key:=CY mixed (own:=ownB A τ) (D) hD hR (fun _ _ h=>by cases h) (S:=jf [] (jD pl)) (fun w0 h0=>rq (fun σ m w hM=>h0 w hM.below) (fun _ h=>by cases h) (nD (fun σ m w hM=>h0 w hM.below) hP)) (A:=A) a1 a2 h2 (SE DP v a3 (Nat.le_of_ble_eq_true a4)) (qs:=[]) hrun (by rw[List.all_map];exact List.all_eq_true.2 fun _ _=>rfl) (by simp) (by rfl) hT (fun i hi=>⟨i,hi,rfl⟩) hS
 rw[ha]at key
 refine key.mono ?_
 rintro e w' ⟨bf,V,rfl,h,-⟩
 have hn1:∀V i,i<n→dx D V i=D i:=fun V i hi=>RL (by rw[Nat.blt_eq];have:=Nat.le_of_ble_eq_true a4;omega)
 have Xq:∀k,k<A.length→(List.range A.length).getD k 0=k:=fun k hk=>by simp[List.getD,hk]
 have hS':ah w' (D) A (fun k=>bf ((List.range A.length).getD k 0)):=h.stands hS.low (Nat.le_of_lt (Nat.lt_of_le_of_lt (hS.low 0 a9) (hS.lt (i:=0) a9))) a5 (List.nodup_range) (by simp) (by
  apply List.map_congr_left
  intro p hp
  congr 1
  apply List.map_congr_left
  intro x hx
  have hw:within n A.length DP x=true:=List.all_eq_true.1 (List.all_eq_true.1 a1 p hp) x hx
  exact(DJ (hn1 V) DP x hw).trans (Kk (fun i hi=>by simp only[Xq i hi]) DP x hw))
 have TG:∀k,k<A.length→bf ((List.range A.length).getD k 0)=τ k:=fun k hk=>by rw[Xq k hk];exact h.old k hk
 refine⟨congrArg _ ((yG (n:=n) (R4:=bI) DP v a3).trans (DJ (n:=n) (k:=0) (hn1 V) DP v a3)),⟨fun i p hp => ?_,hS.dist,hS.low⟩,?_⟩
 ·have hlt:=(List.getElem?_eq_some_iff.1 hp).1
  have:=hS'.at_ i p hp
  rw[TG i hlt]at this
  have e:p.2.map (im (D) fun k=>bf ((List.range A.length).getD k 0))=p.2.map (im (D) τ):=List.map_congr_left fun x hx =>
   Kk (fun i hi=>TG i hi) DP x (List.all_eq_true.1 (List.all_eq_true.1 a1 p (List.mem_of_getElem? hp)) x hx)
  rw[e]at this
  exact this
 ·exact⟨h.left.1,h.left.2.1,h.left.2.2.1,h.left.2.2.2,h.block,fun i hi => .inl ⟨i,hi,rfl⟩⟩
def pJ (D:Nat→Value) (A:dU) (τ:Nat→Nat×Nat) (sel:List Nat):List Value:=sel.flatMap fun i=>(A.getD i (0,[])).2.map (im D τ)
theorem VU {A:dU} {D:Nat→Value} {τ:Nat→Nat×Nat} {w:World} (hS:ah w D A τ) (sel:List Nat) {A0:dU} {f:FuncId} {v:Value}
 (hc:∀cB,ah w (dl (pJ D A τ sel)) A0 cB→Calls Tryz.prog f #[.pointer (some ⟨(cB 0).1,(cB 0).2+0,none⟩)] w fun e w'=>e =.returned (im (dl (pJ D A τ sel)) bI v)∧ah w' (dl (pJ D A τ sel)) A0 cB∧bK A0 cB w A0 cB w')
 (hm:A0.map (fun p=>(p.1,p.2.map (im (dl (pJ D A τ sel)) fun k=>τ (sel.getD k 0))))=sel.map (fun i=>((A.getD i (0,[])).1,(A.getD i (0,[])).2.map (im D τ))):=by kernel_rfl)
 (hs:(sel.Nodup&&sel.all (fun i=>Nat.blt i A.length)&&sel.getD 0 0==0)=true:=by kernel_rfl) :
 Calls Tryz.prog f #[.pointer (some ⟨(τ 0).1,(τ 0).2+0,none⟩)] w fun e w'=>e =.returned (im (dl (pJ D A τ sel)) bI v)∧ah w' D A τ∧bK A τ w A τ w':=by
 simp only[Bool.and_eq_true,decide_eq_true_eq,beq_iff_eq]at hs
 obtain⟨⟨s1,s2⟩,s3⟩:=hs
 have hl:A0.length=sel.length:=by have:=congrArg List.length hm;simpa using this
 have hlt:∀k,k<sel.length→sel.getD k 0<A.length:=fun k hk=>by
  have h1:=List.all_eq_true.1 s2 sel[k] (List.getElem_mem hk)
  rw[Nat.blt_eq]at h1
  simpa [List.getD,hk]using h1
 have hget:∀(k:Nat) p,A0[k]? = some p→p.1=(A.getD (sel.getD k 0) (0,[])).1∧p.2.map (im (dl (pJ D A τ sel)) fun k=>τ (sel.getD k 0))=(A.getD (sel.getD k 0) (0,[])).2.map (im D τ):=fun k p hp=>by
  have hk:k<sel.length:=by rw[←hl];exact(List.getElem?_eq_some_iff.1 hp).1
  have h1:=congrArg (fun L=>L[k]?) hm
  simp only[List.getElem?_map,hp,Option.map_some,List.getElem?_eq_getElem hk,Option.some.injEq,Prod.mk.injEq]at h1
  have e:sel.getD k 0=sel[k]:=by simp[List.getD,hk]
  rw[e]
  exact h1
 have hAt:∀i,i<A.length→At w (τ i).1 (τ i).2 (A.getD i (0,[])).1 ((A.getD i (0,[])).2.map (im D τ)):=fun i hi=>by
  have:=hS.at_ i A[i] (List.getElem?_eq_getElem hi)
  simpa [List.getD,hi]using this
 have h0:ah w (dl (pJ D A τ sel)) A0 (fun k=>τ (sel.getD k 0)):=by
  refine⟨fun k p hp => ?_,fun i j hi hj hij => ?_,fun i hi=>hS.low _ (hlt i (by omega))⟩
  ·have hk:k<sel.length:=by rw[←hl];exact(List.getElem?_eq_some_iff.1 hp).1
   obtain⟨e1,e2⟩:=hget k p hp
   rw[e2,e1]
   exact hAt _ (hlt k hk)
  ·have h1:=hS.dist _ _ (hlt i (by omega)) (hlt j (by omega)) hij
   have hi':i<sel.length:=by omega
   have hj':j<sel.length:=by omega
   rw[show sel.getD i 0=sel[i] by simp[List.getD,hi'],show sel.getD j 0=sel[j] by simp[List.getD,hj']]at h1
   exact(List.getElem_inj s1).1 h1
 have key:=hc _ h0
 simp only[s3]at key
 refine key.mono ?_
 rintro e w' ⟨rfl,h1,h2⟩
 have hk:∀i,i<A.length→At w' (τ i).1 (τ i).2 (A.getD i (0,[])).1 ((A.getD i (0,[])).2.map (im D τ)):=fun i hi=>by
  by_cases hmem:i∈sel
  ·obtain⟨k,hk,rfl⟩:=List.mem_iff_getElem.1 hmem
   have hk0:k<A0.length:=by omega
   have h3:=h1.at_ k A0[k] (List.getElem?_eq_getElem hk0)
   obtain⟨e1,e2⟩:=hget k A0[k] (List.getElem?_eq_getElem hk0)
   have e3:sel.getD k 0=sel[k]:=by simp[List.getD,hk]
   simp only[e3]at h3 e1 e2
   rw[←e1,←e2]
   exact h3
  ·refine(hAt i hi).keep (h2.block _ (hAt i hi).lt fun j hj e=>hmem ?_)
   have hj':j<sel.length:=by omega
   have:=hS.dist _ _ (hlt j hj') hi e
   rw[←this,show sel.getD j 0=sel[j] by simp[List.getD,hj']]
   exact List.getElem_mem hj'
 refine⟨rfl,⟨fun i p hp => ?_,hS.dist,hS.low⟩,h2.os,h2.tape,h2.output,h2.size,fun b hb hn=>h2.block b hb fun j hj e=>hn _ (hlt j (by omega)) e,fun i hi => .inl ⟨i,hi,rfl⟩⟩
 have hi:=(List.getElem?_eq_some_iff.1 hp).1
 have:=hk i hi
 have e:A.getD i (0,[])=p:=by simp[List.getD,hp]
 rw[e]at this
 exact this
abbrev sy (a n:Nat):List Value:=(List.range n).map fun i=>sym (a+i)
abbrev zZ:Value :=.tuple #[.agg #[.int .i64 0,.int .i64 0,.int .i64 0,.int .u64 0,.int .u64 0,.slice none 0 0],.bool false]
abbrev JX:dU:=[(203,sy 0 7++[.iface 171 (.pointer (some ⟨0,0,none⟩))]++sy 8 11)]
theorem ZF {D:Nat→Value} (QH:Lv (D 6)=true:=by kernel_rfl)  {w:World} {τ:Nat→Nat×Nat} (hS:ah w D JX τ) (hD:((List.range 19).all fun i=>(D i).oneCell')=true:=by kernel_rfl):Calls Tryz.prog 278 #[.pointer (some ⟨(τ 0).1,(τ 0).2+0,none⟩)] w fun e w'=>e =.returned (im D bI (.tuple #[.agg ⟨sy 0 6⟩,.bool true]))∧ah w' D JX τ∧bK JX τ w JX τ w':=by
 obtain⟨f,fr,c,hF⟩:=nJ QH
 letI:bH:=⟨D⟩
 exact iJ 19 (R:=[⟨(21,49,49),[sym 6,.nilFunc],.bool false⟩]) (pl:=[]) (Tw:=fun _=>True) [43,278] [34,49,95,126,136,171,203] [.pointer (some ⟨0,0,none⟩)] (.tuple #[.agg ⟨sy 0 6⟩,.bool true]) (M8 (gn) (List.all_eq_true.1 hD 6 (by decide)) hF) qn (fun _ _=>trivial) hS hD
abbrev JW:dU:=[(203,sy 0 6++[.nilFunc,.iface 171 (.pointer (some ⟨0,0,none⟩))]++sy 8 11)]
theorem on2 {D:Nat→Value}  {w:World} {τ:Nat→Nat×Nat} (hS:ah w D JW τ) (hD:((List.range 19).all fun i=>(D i).oneCell')=true:=by kernel_rfl):Calls Tryz.prog 278 #[.pointer (some ⟨(τ 0).1,(τ 0).2+0,none⟩)] w fun e w'=>e =.returned (im D bI zZ)∧ah w' D JW τ∧bK JW τ w JW τ w':=by
 letI:bH:=⟨D⟩
 exact iJ 19 (R:=[]) (pl:=[]) (Tw:=fun _=>True) [43,278] [3,31,32,34,49,95,126,136,171,203] [.pointer (some ⟨0,0,none⟩)] zZ (gn) qn (fun _ _=>trivial) hS hD
abbrev JV:dU:=[(203,sy 0 7++[.iface 201 (.pointer (some ⟨1,0,none⟩))]++sy 8 11),(247,sy 19 23)]
theorem Mr {D:Nat→Value} (QH:Lv (D 25)=true:=by kernel_rfl)  {w:World} {τ:Nat→Nat×Nat} (hS:ah w D JV τ) (hD:((List.range 42).all fun i=>(D i).oneCell')=true:=by kernel_rfl):Calls Tryz.prog 278 #[.pointer (some ⟨(τ 0).1,(τ 0).2+0,none⟩)] w fun e w'=>e =.returned (im D bI (.tuple #[.agg ⟨sy 19 6⟩,.bool true]))∧ah w' D JV τ∧bK JV τ w JV τ w':=by
 obtain⟨f,fr,c,hF⟩:=nJ QH
 letI:bH:=⟨D⟩
 exact iJ 42 (R:=[⟨(21,49,49),[sym 25,.nilFunc],.bool false⟩]) (pl:=[]) (Tw:=fun _=>True) [43,278,290] [34,49,95,126,136,171,201,203,247] [.pointer (some ⟨0,0,none⟩)] (.tuple #[.agg ⟨sy 19 6⟩,.bool true]) (M8 (gn) (List.all_eq_true.1 hD 25 (by decide)) hF) qn (fun _ _=>trivial) hS hD
abbrev JU:dU:=[(203,sy 0 7++[.iface 201 (.pointer (some ⟨1,0,none⟩))]++sy 8 11),(247,sy 19 6++[.nilFunc]++sy 26 16)]
theorem on4 {D:Nat→Value}  {w:World} {τ:Nat→Nat×Nat} (hS:ah w D JU τ) (hD:((List.range 42).all fun i=>(D i).oneCell')=true:=by kernel_rfl):Calls Tryz.prog 278 #[.pointer (some ⟨(τ 0).1,(τ 0).2+0,none⟩)] w fun e w'=>e =.returned (im D bI zZ)∧ah w' D JU τ∧bK JU τ w JU τ w':=by
 letI:bH:=⟨D⟩
 exact iJ 42 (R:=[]) (pl:=[]) (Tw:=fun _=>True) [43,278,290] [3,31,32,34,49,95,126,136,171,201,203,247] [.pointer (some ⟨0,0,none⟩)] zZ (gn) qn (fun _ _=>trivial) hS hD
abbrev JS:dU:=[(203,sy 0 7++[.iface 209 (.pointer (some ⟨1,0,none⟩))]++sy 8 11),(272,sy 19 18)]
theorem Y0 {D:Nat→Value} (QH:Lv (D 25)=true:=by kernel_rfl)  {w:World} {τ:Nat→Nat×Nat} (hS:ah w D JS τ) (hD:((List.range 37).all fun i=>(D i).oneCell')=true:=by kernel_rfl):Calls Tryz.prog 278 #[.pointer (some ⟨(τ 0).1,(τ 0).2+0,none⟩)] w fun e w'=>e =.returned (im D bI (.tuple #[.agg ⟨sy 19 6⟩,.bool true]))∧ah w' D JS τ∧bK JS τ w JS τ w':=by
 obtain⟨f,fr,c,hF⟩:=nJ QH
 letI:bH:=⟨D⟩
 exact iJ 37 (R:=[⟨(21,49,49),[sym 25,.nilFunc],.bool false⟩]) (pl:=[]) (Tw:=fun _=>True) [43,278,286] [34,49,95,126,136,171,203,209,272] [.pointer (some ⟨0,0,none⟩)] (.tuple #[.agg ⟨sy 19 6⟩,.bool true]) (M8 (gn) (List.all_eq_true.1 hD 25 (by decide)) hF) qn (fun _ _=>trivial) hS hD
abbrev JR:dU:=[(203,sy 0 7++[.iface 209 (.pointer (some ⟨1,0,none⟩))]++sy 8 11),(272,sy 19 6++[.nilFunc]++sy 26 11)]
theorem on6 {D:Nat→Value}  {w:World} {τ:Nat→Nat×Nat} (hS:ah w D JR τ) (hD:((List.range 37).all fun i=>(D i).oneCell')=true:=by kernel_rfl):Calls Tryz.prog 278 #[.pointer (some ⟨(τ 0).1,(τ 0).2+0,none⟩)] w fun e w'=>e =.returned (im D bI zZ)∧ah w' D JR τ∧bK JR τ w JR τ w':=by
 letI:bH:=⟨D⟩
 exact iJ 37 (R:=[]) (pl:=[]) (Tw:=fun _=>True) [43,278,286] [3,31,32,34,49,95,126,136,171,203,209,272] [.pointer (some ⟨0,0,none⟩)] zZ (gn) qn (fun _ _=>trivial) hS hD
abbrev JQ:dU:=[(203,sy 0 7++[.nilIface]++sy 8 11)]
theorem on7 {D:Nat→Value}  {w:World} {τ:Nat→Nat×Nat} (hS:ah w D JQ τ) (hD:((List.range 19).all fun i=>(D i).oneCell')=true:=by kernel_rfl):Calls Tryz.prog 278 #[.pointer (some ⟨(τ 0).1,(τ 0).2+0,none⟩)] w fun e w'=>e =.returned (im D bI zZ)∧ah w' D JQ τ∧bK JQ τ w JQ τ w':=by
 letI:bH:=⟨D⟩
 exact iJ 19 (R:=[]) (pl:=[]) (Tw:=fun _=>True) [278] [3,31,32,34,126,136,203] [.pointer (some ⟨0,0,none⟩)] zZ (gn) qn (fun _ _=>trivial) hS hD
abbrev JM:dU:=[(203,sy 0 16++[.pointer none,sym 17,sym 18])]
theorem os1 {D:Nat→Value}  {w:World} {τ:Nat→Nat×Nat} (hS:ah w D JM τ) (hD:((List.range 19).all fun i=>(D i).oneCell')=true:=by kernel_rfl):Calls Tryz.prog 280 #[.pointer (some ⟨(τ 0).1,(τ 0).2+0,none⟩)] w fun e w'=>e =.returned (im D bI (.tuple #[.agg #[.int .i64 0,.int .i32 0,.int .i64 0,.int .i64 0],.bool false]))∧ah w' D JM τ∧bK JM τ w JM τ w':=by
 letI:bH:=⟨D⟩
 exact iJ 19 (R:=[]) (pl:=[]) (Tw:=fun _=>True) [148,280] [2,3,21,39,136,201,203] [.pointer (some ⟨0,0,none⟩)] (.tuple #[.agg #[.int .i64 0,.int .i32 0,.int .i64 0,.int .i64 0],.bool false]) (gn) qn (fun _ _=>trivial) hS hD
abbrev JL:dU:=[(203,sy 0 16++[.pointer (some ⟨1,0,none⟩),sym 17,sym 18]),(247,sy 19 23)]
theorem os2 {D:Nat→Value}  {w:World} {τ:Nat→Nat×Nat} (hS:ah w D JL τ) (hD:((List.range 42).all fun i=>(D i).oneCell')=true:=by kernel_rfl):Calls Tryz.prog 280 #[.pointer (some ⟨(τ 0).1,(τ 0).2+0,none⟩)] w fun e w'=>e =.returned (im D bI (.tuple #[.agg ⟨sy 35 4⟩,sym 39]))∧ah w' D JL τ∧bK JL τ w JL τ w':=by
 letI:bH:=⟨D⟩
 exact iJ 42 (R:=[]) (pl:=[]) (Tw:=fun _=>True) [148,280] [4,39,136,201,203,247] [.pointer (some ⟨0,0,none⟩)] (.tuple #[.agg ⟨sy 35 4⟩,sym 39]) (gn) qn (fun _ _=>trivial) hS hD
abbrev JN:dU:=[(203,sy 0 19)]
theorem yE {D:Nat→Value}  {w:World} {τ:Nat→Nat×Nat} (hS:ah w D JN τ) (hD:((List.range 19).all fun i=>(D i).oneCell')=true:=by kernel_rfl):Calls Tryz.prog 279 #[.pointer (some ⟨(τ 0).1,(τ 0).2+0,none⟩)] w fun e w'=>e =.returned (im D bI (.tuple #[sym 17,sym 18]))∧ah w' D JN τ∧bK JN τ w JN τ w':=by
 letI:bH:=⟨D⟩
 exact iJ 19 (R:=[]) (pl:=[]) (Tw:=fun _=>True) [279] [2,76,136,203] [.pointer (some ⟨0,0,none⟩)] (.tuple #[sym 17,sym 18]) (gn) qn (fun _ _=>trivial) hS hD
abbrev KF:dU:=[(211,sy 0 16++[.pointer none]++sy 17 7)]
theorem GD {D:Nat→Value} (QH:Lv (D 6)=true:=by kernel_rfl)  {w:World} {τ:Nat→Nat×Nat} (hS:ah w D KF τ) (hD:((List.range 24).all fun i=>(D i).oneCell')=true:=by kernel_rfl):Calls Tryz.prog 282 #[.pointer (some ⟨(τ 0).1,(τ 0).2+0,none⟩)] w fun e w'=>e =.returned (im D bI (.tuple #[.agg ⟨sy 0 6⟩,.bool true]))∧ah w' D KF τ∧bK KF τ w KF τ w':=by
 obtain⟨f,fr,c,hF⟩:=nJ QH
 letI:bH:=⟨D⟩
 exact iJ 24 (R:=[⟨(21,49,49),[sym 6,.nilFunc],.bool false⟩]) (pl:=[]) (Tw:=fun _=>True) [43,282] [34,49,95,138,171,209,211] [.pointer (some ⟨0,0,none⟩)] (.tuple #[.agg ⟨sy 0 6⟩,.bool true]) (M8 (gn) (List.all_eq_true.1 hD 6 (by decide)) hF) qn (fun _ _=>trivial) hS hD
abbrev KE:dU:=[(211,sy 0 6++[.nilFunc]++sy 7 9++[.pointer none]++sy 17 7)]
theorem cn2 {D:Nat→Value}  {w:World} {τ:Nat→Nat×Nat} (hS:ah w D KE τ) (hD:((List.range 24).all fun i=>(D i).oneCell')=true:=by kernel_rfl):Calls Tryz.prog 282 #[.pointer (some ⟨(τ 0).1,(τ 0).2+0,none⟩)] w fun e w'=>e =.returned (im D bI zZ)∧ah w' D KE τ∧bK KE τ w KE τ w':=by
 letI:bH:=⟨D⟩
 exact iJ 24 (R:=[]) (pl:=[]) (Tw:=fun _=>True) [43,282] [3,31,32,34,49,95,138,171,209,211] [.pointer (some ⟨0,0,none⟩)] zZ (gn) qn (fun _ _=>trivial) hS hD
abbrev KD:dU:=[(211,sy 0 16++[.pointer (some ⟨1,0,none⟩)]++sy 17 7),(272,sy 24 18)]
theorem Zf {D:Nat→Value} (QH:Lv (D 30)=true:=by kernel_rfl)  {w:World} {τ:Nat→Nat×Nat} (hS:ah w D KD τ) (hD:((List.range 42).all fun i=>(D i).oneCell')=true:=by kernel_rfl):Calls Tryz.prog 282 #[.pointer (some ⟨(τ 0).1,(τ 0).2+0,none⟩)] w fun e w'=>e =.returned (im D bI (.tuple #[.agg ⟨sy 24 6⟩,.bool true]))∧ah w' D KD τ∧bK KD τ w KD τ w':=by
 obtain⟨f,fr,c,hF⟩:=nJ QH
 letI:bH:=⟨D⟩
 exact iJ 42 (R:=[⟨(21,49,49),[sym 30,.nilFunc],.bool false⟩]) (pl:=[]) (Tw:=fun _=>True) [43,282,286] [34,49,95,138,171,209,211,272] [.pointer (some ⟨0,0,none⟩)] (.tuple #[.agg ⟨sy 24 6⟩,.bool true]) (M8 (gn) (List.all_eq_true.1 hD 30 (by decide)) hF) qn (fun _ _=>trivial) hS hD
abbrev KC:dU:=[(211,sy 0 16++[.pointer (some ⟨1,0,none⟩)]++sy 17 7),(272,sy 24 6++[.nilFunc]++sy 31 11)]
theorem cn4 {D:Nat→Value}  {w:World} {τ:Nat→Nat×Nat} (hS:ah w D KC τ) (hD:((List.range 42).all fun i=>(D i).oneCell')=true:=by kernel_rfl):Calls Tryz.prog 282 #[.pointer (some ⟨(τ 0).1,(τ 0).2+0,none⟩)] w fun e w'=>e =.returned (im D bI zZ)∧ah w' D KC τ∧bK KC τ w KC τ w':=by
 letI:bH:=⟨D⟩
 exact iJ 42 (R:=[]) (pl:=[]) (Tw:=fun _=>True) [43,282,286] [3,31,32,34,49,95,138,171,209,211,272] [.pointer (some ⟨0,0,none⟩)] zZ (gn) qn (fun _ _=>trivial) hS hD
abbrev Ky:dU:=[(211,sy 0 24)]
theorem cs1 {D:Nat→Value}  {w:World} {τ:Nat→Nat×Nat} (hS:ah w D Ky τ) (hD:((List.range 24).all fun i=>(D i).oneCell')=true:=by kernel_rfl):Calls Tryz.prog 284 #[.pointer (some ⟨(τ 0).1,(τ 0).2+0,none⟩)] w fun e w'=>e =.returned (im D bI (.tuple #[.agg ⟨sy 17 4⟩,sym 21]))∧ah w' D Ky τ∧bK Ky τ w Ky τ w':=by
 letI:bH:=⟨D⟩
 exact iJ 24 (R:=[]) (pl:=[]) (Tw:=fun _=>True) [284] [4,39,138,211] [.pointer (some ⟨0,0,none⟩)] (.tuple #[.agg ⟨sy 17 4⟩,sym 21]) (gn) qn (fun _ _=>trivial) hS hD
abbrev Kz:dU:=[(211,sy 0 16++[.pointer none]++sy 17 7)]
theorem EC {D:Nat→Value}  {w:World} {τ:Nat→Nat×Nat} (hS:ah w D Kz τ) (hD:((List.range 24).all fun i=>(D i).oneCell')=true:=by kernel_rfl):Calls Tryz.prog 283 #[.pointer (some ⟨(τ 0).1,(τ 0).2+0,none⟩)] w fun e w'=>e =.returned (im D bI (.tuple #[sym 22,sym 23]))∧ah w' D Kz τ∧bK Kz τ w Kz τ w':=by
 letI:bH:=⟨D⟩
 exact iJ 24 (R:=[]) (pl:=[]) (Tw:=fun _=>True) [283] [2,76,138,209,211] [.pointer (some ⟨0,0,none⟩)] (.tuple #[sym 22,sym 23]) (gn) qn (fun _ _=>trivial) hS hD
abbrev D7:dU:=[(211,sy 0 16++[.pointer (some ⟨1,0,none⟩)]++sy 17 7),(272,sy 24 18)]
theorem LQ {D:Nat→Value} {re:Int} (Ue:D 41 =.int .i64 re) (e0:re=0) {w:World} {τ:Nat→Nat×Nat} (hS:ah w D D7 τ) (hD:((List.range 42).all fun i=>(D i).oneCell')=true:=by kernel_rfl):Calls Tryz.prog 283 #[.pointer (some ⟨(τ 0).1,(τ 0).2+0,none⟩)] w fun e w'=>e =.returned (im D bI (.tuple #[.int .i64 0,.int .i64 6]))∧ah w' D D7 τ∧bK D7 τ w D7 τ w':=by
 letI:bH:=⟨D⟩
 exact iJ 42 (R:=[⟨(21,76,76),[sym 41,.int .i64 0],.bool true⟩]) (pl:=[]) (Tw:=fun _=>True) [152,191,283] [4,76,138,209,211,272] [.pointer (some ⟨0,0,none⟩)] (.tuple #[.int .i64 0,.int .i64 6]) (r6 .eql re 0 (.bool true) (dK (AO e0)) (gn) (h0:=by simp only[okB,Bool.and_eq_true];exact⟨⟨List.all_eq_true.1 hD 41 (by decide),rfl⟩,rfl⟩) (hca:=Ue)) qn (fun _ _=>trivial) hS hD
abbrev D6:dU:=[(211,sy 0 16++[.pointer (some ⟨1,0,none⟩)]++sy 17 7),(272,sy 24 18)]
theorem LP {D:Nat→Value} {re:Int} (Ue:D 41 =.int .i64 re) (e0:¬(re=0)) (e1:re=5) {w:World} {τ:Nat→Nat×Nat} (hS:ah w D D6 τ) (hD:((List.range 42).all fun i=>(D i).oneCell')=true:=by kernel_rfl):Calls Tryz.prog 283 #[.pointer (some ⟨(τ 0).1,(τ 0).2+0,none⟩)] w fun e w'=>e =.returned (im D bI (.tuple #[.int .i64 0,.int .i64 6]))∧ah w' D D6 τ∧bK D6 τ w D6 τ w':=by
 letI:bH:=⟨D⟩
 exact iJ 42 (R:=[⟨(21,76,76),[sym 41,.int .i64 0],.bool false⟩,⟨(21,76,76),[sym 41,.int .i64 5],.bool true⟩]) (pl:=[]) (Tw:=fun _=>True) [152,191,283] [4,76,138,209,211,272] [.pointer (some ⟨0,0,none⟩)] (.tuple #[.int .i64 0,.int .i64 6]) (r6 .eql re 0 (.bool false) (dK (uh e0)) (r6 .eql re 5 (.bool true) (dK (AO e1)) (gn) (h0:=by simp only[okB,Bool.and_eq_true];exact⟨⟨List.all_eq_true.1 hD 41 (by decide),rfl⟩,rfl⟩) (hca:=Ue)) (h0:=by simp only[okB,Bool.and_eq_true];exact⟨⟨List.all_eq_true.1 hD 41 (by decide),rfl⟩,rfl⟩) (hca:=Ue)) qn (fun _ _=>trivial) hS hD
abbrev D5:dU:=[(211,sy 0 16++[.pointer (some ⟨1,0,none⟩)]++sy 17 7),(272,sy 24 18)]
theorem LM {D:Nat→Value} {re:Int} (Ue:D 41 =.int .i64 re) (e0:¬(re=0)) (e1:¬(re=5)) {w:World} {τ:Nat→Nat×Nat} (hS:ah w D D5 τ) (hD:((List.range 42).all fun i=>(D i).oneCell')=true:=by kernel_rfl):Calls Tryz.prog 283 #[.pointer (some ⟨(τ 0).1,(τ 0).2+0,none⟩)] w fun e w'=>e =.returned (im D bI (.tuple #[.int .i64 0,sym 41]))∧ah w' D D5 τ∧bK D5 τ w D5 τ w':=by
 letI:bH:=⟨D⟩
 exact iJ 42 (R:=[⟨(21,76,76),[sym 41,.int .i64 0],.bool false⟩,⟨(21,76,76),[sym 41,.int .i64 5],.bool false⟩]) (pl:=[]) (Tw:=fun _=>True) [152,191,283] [4,76,138,209,211,272] [.pointer (some ⟨0,0,none⟩)] (.tuple #[.int .i64 0,sym 41]) (r6 .eql re 0 (.bool false) (dK (uh e0)) (r6 .eql re 5 (.bool false) (dK (uh e1)) (gn) (h0:=by simp only[okB,Bool.and_eq_true];exact⟨⟨List.all_eq_true.1 hD 41 (by decide),rfl⟩,rfl⟩) (hca:=Ue)) (h0:=by simp only[okB,Bool.and_eq_true];exact⟨⟨List.all_eq_true.1 hD 41 (by decide),rfl⟩,rfl⟩) (hca:=Ue)) qn (fun _ _=>trivial) hS hD
