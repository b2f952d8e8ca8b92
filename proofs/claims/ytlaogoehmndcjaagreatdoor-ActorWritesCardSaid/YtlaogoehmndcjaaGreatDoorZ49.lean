import Derived.Test.YtlaogoehmndcjaaGreatDoorZ48
set_option linter.unusedVariables false
set_option maxHeartbeats 6400000
set_option maxRecDepth 1000000
set_option linter.unusedSectionVars false
set_option linter.unusedSimpArgs false
namespace Go.Proofs.YtlaogoehmndcjaaGreatDoor.Sy
open Go RowKit Lib AS Base Pr Ba
theorem Gw:(Tryz.prog.info? 67).map (fun i=>(i.zero,i.size,i.bytes))=some (some (.agg #[.int .i64 0,.slice none 0 0]),2,32):=by kernel_rfl
theorem arT {j n:Nat} (h:n≤50) (hj:j≤n):wrap64 ((j:Int)+1)=(j:Int)+1:=IntWalk.wrap64_in _ (by omega)
theorem arM {j n:Nat} (h:n≤50) (hj:j≤n):j+1≤maxLen:=by unfold maxLen;omega
theorem arB {j n:Nat} (h:n≤50) (hj:j≤n):(j+1)*32≤140737488355328:=by omega
theorem arS {X Y:Nat} {wr w5:World} {ob:Obj} (hY:wr.heap.size=Y) (sz:X+2≤wr.heap.size) (hb:Below Y wr w5):X+2≤(w5.alloc ob).heap.size:=by have:=hb.size;simp;omega
theorem arO {kd:Int} {pa:Option Addr} {len pc:Nat}:∀u∈[Value.int .i64 kd,.slice pa len pc],u.oneCell'=true:=by intro u hu;simp at hu;rcases hu with rfl|rfl<;>rfl
theorem arE {j n:Nat} (h:j<n):j+1≤n:=h
theorem arN {j n:Nat} (h:n≤50) (hj:j<n):(1000-((j:Int)+1)).toNat<(1000-(j:Int)).toNat:=by omega
theorem arU {j n:Nat} (h:j<n):(j:Int)<(n:Int):=by omega
theorem Jv {wr w5:World} {S n len:Nat} {v:Value} {xs:List Value} (hb5:Below wr.heap.size wr w5) (hown:wr.ownsRow S 67 2 v n xs) (kd:Int) (pa:Option Addr) (pc:Nat):(w5.alloc (.cells #[.int .i64 kd,.slice pa len pc] 67)).ownsRow S 67 2 v n xs∧∀(i:Nat) u,[Value.int .i64 kd,.slice pa len pc][i]? = some u→(w5.alloc (.cells #[.int .i64 kd,.slice pa len pc] 67)).cell? ((⟨w5.heap.size,0,none⟩:Addr).add i)=some u:=by
 have hb:Below wr.heap.size wr (w5.alloc (.cells #[.int .i64 kd,.slice pa len pc] 67)):=hb5.alloc hb5.size _
 refine⟨yD hown fun g hg=>hb.block g (hown.lt g hg).2,fun i u hi => ?_⟩
 have hr:(w5.alloc (.cells #[.int .i64 kd,.slice pa len pc] 67)).heap[w5.heap.size]? = some (.cells #[.int .i64 kd,.slice pa len pc] 67):=aZ _ _
 rw[Addr.add_lit,Nat.zero_add]
 simp only[World.cell?,hr]
 rcases i with _|_|i<;>first|exact hi|(cases hi)
structure LS (W:World) (X:Nat) (l:Lg) (tr:Int) (acts:List gz) (wr:World) (j:Nat):Prop where
 bl:Below X W wr
 sz:X+2≤wr.heap.size
 ex:∃v,wr.heap[X+1]? = some (.cells (yY l v tr) 89)∧l8 (X+2) wr v (acts.take j)
theorem l8.WJ {ps:List (Option Addr×Nat)} {S:Nat} {w D w':World} {v v':Value} {os:List gz} {o:gz} {pa:Option Addr} {pc:Nat} (hl:ps.length=os.length) (hown:w.ownsRow S 67 2 v os.length (opC os ps)) (hrow:∀(j:Nat) (o:gz) (p:Option Addr×Nat),os[j]? = some o→ps[j]? = some p→RowK w [] bI (fun k=>S≤k∧v.ownBlock≠some k) p.1 o.data) (hD:Below w.heap.size w D) (hr:RowK D [] bI (fun k=>w.heap.size≤k) pa o.data) (hS:S≤w.heap.size)
 (r1:w'.ownsRow S 67 2 v' (os.length+1) (opC os ps++[.int .i64 o.kind,.slice pa o.data.length pc])) (r2:D.grownBy w' v.ownBlock) (r3:v'.ownBlock=v.ownBlock∨v'.ownBlock=some D.heap.size):l8 S w' v' (os++[o]):=by
 have hDs:=hD.size
 refine⟨ps++[(pa,pc)],by simp[hl],?_,fun j o' p h1 h2 i x hx => ?_⟩
 ·rw[sJ os ps o (pa,pc) hl,List.length_append]
  exact r1
 ·by_cases hj:j<os.length
  ·rw[List.getElem?_append_left hj]at h1
   rw[List.getElem?_append_left (by omega)]at h2
   obtain⟨bb,bo,e2,hn',⟨hb,hv⟩,hc⟩:=hrow j o' p h1 h2 i x hx
   have hlt:bb<w.heap.size:=World.block_lt_of_cell? w _ hc
   refine⟨bb,bo,e2,hn',⟨hb,fun e => ?_⟩,(bE ((r2.block bb (by omega) fun e=>hv e.symm).trans (hD.block bb hlt))).trans hc⟩
   rcases r3 with r3|r3
   ·exact hv (r3▸e)
   ·rw[r3]at e;injection e with e;omega
  ·have hj2:j=os.length:=by
    have:=(List.getElem?_eq_some_iff.1 h1).1
    simp at this;omega
   subst hj2
   rw[List.getElem?_append_right (Nat.le_refl _),Nat.sub_self]at h1
   rw[List.getElem?_append_right (by omega),hl,Nat.sub_self]at h2
   injection h1 with h1;injection h2 with h2
   subst h1 h2
   obtain⟨bb,bo,e2,hn',hb,hc⟩:=hr i x hx
   have hlt:bb<D.heap.size:=World.block_lt_of_cell? D _ hc
   have hne:v.ownBlock≠some bb:=fun e=>by have:=(hown.lt bb e).2;omega
   refine⟨bb,bo,e2,hn',⟨by omega,fun e => ?_⟩,(bE (r2.block bb hlt fun e=>hne e.symm)).trans hc⟩
   rcases r3 with r3|r3
   ·exact hne (r3▸e)
   ·rw[r3]at e;injection e with e;omega
theorem Ju {X Y:Nat} {wr w5 w6:World} {ob:Obj} {C:Obj} {n:Nat} {v:Value} {xs:List Value} (hY:wr.heap.size=Y) (sz:X+2≤wr.heap.size) (hb5:Below Y wr w5) (hT:wr.heap[X+1]? = some C) (hown:wr.ownsRow (X+2) 67 2 v n xs) (r2:(w5.alloc ob).grownBy w6 v.ownBlock):w6.heap[X+1]? = some C:=by
 have hb:Below Y wr (w5.alloc ob):=hb5.alloc (by have:=hb5.size;omega) _
 have hs:=hb.size
 exact(r2.block (X+1) (by omega) fun e=>by have:=(hown.lt _ e.symm).1;omega).trans ((hb.block (X+1) (by omega)).trans hT)
theorem KT {W wr w5 w6:World} {X Y j:Nat} {l:Lg} {tr:Int} {acts:List gz} {o:gz} {v v6:Value} {ps:List (Option Addr×Nat)} {pa:Option Addr} {pc:Nat} {kd:Int} (hX:W.heap.size=X) (hY:wr.heap.size=Y) (bl:Below X W wr) (sz:X+2≤wr.heap.size) (ho:acts[j]? = some o) (hkd:o.kind=kd)
 (hT:wr.heap[X+1]? = some (.cells (yY l v tr) 89)) (hps:ps.length=(acts.take j).length) (hlen:(acts.take j).length=j) (hown:wr.ownsRow (X+2) 67 2 v j (opC (acts.take j) ps)) (hrow:∀(i:Nat) (o:gz) (p:Option Addr×Nat),(acts.take j)[i]? = some o→ps[i]? = some p→RowK wr [] bI (fun k=>X+2≤k∧v.ownBlock≠some k) p.1 o.data)
 (hb5:Below Y wr w5) (Y4:RowK w5 [] bI (fun k=>Y≤k) pa o.data) (r1:w6.ownsRow (X+2) 67 2 v6 (j+1) (opC (acts.take j) ps++[.int .i64 kd,.slice pa o.data.length pc])) (r2:(w5.alloc (.cells #[.int .i64 kd,.slice pa o.data.length pc] 67)).grownBy w6 v.ownBlock)
 (r3:v6.ownBlock=v.ownBlock∨v6.ownBlock=some (w5.alloc (.cells #[.int .i64 kd,.slice pa o.data.length pc] 67)).heap.size):LS W X l tr acts (w6.setCell ⟨X+1,11,none⟩ v6) (j+1):=by
 subst hkd
 have hD:Below wr.heap.size wr (w5.alloc (.cells #[.int .i64 o.kind,.slice pa o.data.length pc] 67)):=(hY.symm▸hb5).alloc (by have:=hb5.size;omega) _
 have hs:=hD.size
 have hs6:=r2.size
 have h6:=Ju hY sz hb5 hT hown r2
 have hr:RowK (w5.alloc (.cells #[.int .i64 o.kind,.slice pa o.data.length pc] 67)) [] bI (fun k=>wr.heap.size≤k) pa o.data:=fun i x hx=>by
  obtain⟨bb,bo,e,hn,hk,hc⟩:=Y4 i x hx
  have hl:bb<w5.heap.size:=World.block_lt_of_cell? w5 _ hc
  exact⟨bb,bo,e,hn,by omega,(bE (((Below.refl w5.heap.size w5).alloc (Nat.le_refl _) _).block bb hl)).trans hc⟩
 have hL:=l8.WJ hps (by rw[hlen];exact hown) hrow hD hr sz (by rw[hlen];exact r1) r2 r3
 rw[show acts.take j++[o]=acts.take (j+1) by rw[List.take_add_one,ho];rfl]at hL
 have o7:Only (X+1) w6 (w6.setCell ⟨X+1,11,none⟩ v6):=Only.set _ _ _
 have s7:=o7.size
 have hk:∀k,k<X→(w6.setCell ⟨X+1,11,none⟩ v6).heap[k]? = W.heap[k]? := fun k hk=>(o7.block k (by omega) (by omega)).trans ((r2.block k (by omega) fun e=>by have:=(hown.lt _ e.symm).1;omega).trans ((hD.block k (by omega)).trans (bl.block k hk)))
 refine⟨⟨?_,?_,?_,by have:=bl.size;omega,hk⟩,by omega,v6,gW h6 11 v6,hL.move fun k h1 h2=>o7.block k h2 (by omega)⟩
 ·exact o7.os.trans (r2.os.trans (hD.os.trans bl.os))
 ·exact o7.tape.trans (r2.tape.trans (hD.tape.trans bl.tape))
 ·exact o7.output.trans (r2.output.trans (hD.output.trans bl.output))
def Pq (K:Act→World→Prop):Exit→Act→World→Prop
 | .normal,a,w=>K a w
 | _,_,_=>False
theorem EZ {P:Program} {c:Code} {Q:Exit→Act→World→Prop} {a:Act} {w:World} (h:c.wp P (Pq (fun a w=>Q .normal a w)) a w):c.wp P Q a w :=
 Code.wp_mono (fun e a w h=>by cases e<;>first|exact h|exact(h:False).elim) h
theorem Qg {l:Lg} {tries:Int} {acts:List gz} {o:gz} {W wr W1:World} {X Y j:Nat} {ca:Option Addr} {cc:Nat} {kd:Int} {ba:Option Addr} {bc:Nat} {ps0:List (Option Addr×Nat)} {v0 v1 v2 v3 v4 v5 v6 v8 v10 v11 v12 v13 v14 v15 v16 v17 v18 v19 v20 v21 v22 v23 v24 v25 v26 v27 v28 v29 v30 v31 v32 v33 v34 v35 v36 v37 v38 v39 v40 v41 v42 v43 v44 v45 v46 v47 v48 v49 v50 v51 v52 v53 v54 v55 v56 v57:Value} {i0:TypeInfo} (TV:Tryz.prog.info? 67=some i0) (Qt:i0.zero=some (.agg #[.int .i64 0,.slice none 0 0])) (Qs:i0.size=2) (Qr:i0.bytes=32)
 (hX:W.heap.size=X) (hY:wr.heap.size=Y) (hlt:j<acts.length) (hj:j≤acts.length) (hlen:acts.length≤50) (ho:acts[j]? = some o) (hkd:o.kind=kd) (Qz:ps0.length=(acts.take j).length) (vv:(acts.take j).length=j)
 (cC:∀V',Below W1.heap.size W1 V'→Calls Tryz.prog 28 #[.slice ba o.data.length bc] V' fun e w'=>∃pa pc,e =.returned (.slice pa o.data.length pc)∧Below Y wr w'∧Below W1.heap.size W1 w'∧RowK w' [] bI (fun k=>Y≤k) pa o.data)
 (HB:Hid (W1.heap[X+1]? = some (.cells (yY l (.slice ca j cc) tries) 89)∧W1.heap[Y]? = some (.cells #[.int .i64 kd,.slice ba o.data.length bc] 67))) (HW:Hid (wr.ownsRow (X+2) 67 2 (.slice ca j cc) j (opC (acts.take j) ps0))) (HQ:Hid (∀(i:Nat) (o:gz) (p:Option Addr×Nat),(acts.take j)[i]? = some o→ps0[i]? = some p→RowK wr [] bI (fun k=>X+2≤k∧(Value.slice ca j cc).ownBlock≠some k) p.1 o.data))
 (HR:Hid (Below X W wr∧X+2≤wr.heap.size∧wr.heap[X+1]? = some (.cells (yY l (.slice ca j cc) tries) 89)))
 (K:Act→World→Prop) (hK:∀x25 x26 x27 x28 x29 x30 x31 x32 x33 x34 x35 x36 x37 x38 x39 w',LS W X l tries acts w' (j+1)→K { tmps:=List.toArray (v0::v1::v2::v3::v4::v5::v6::(.pointer (some ⟨X+1,0,none⟩))::v8::(.pointer (some ⟨Y,0,none⟩))::v10::v11::v12::v13::v14::v15::v16::v17::v18::v19::v20::v21::v22::v23::v24::x25::x26::x27::x28::x29::x30::x31::x32::x33::x34::x35::x36::x37::x38::x39::v40::v41::v42::v43::v44::v45::v46::v47::v48::v49::v50::v51::v52::v53::v54::v55::v56::v57::[]),defers:=[] } w') :
 (Code.region 5 (List.toArray ({ dst:=some 25,op:=Op.move (Operand.tmp 7),type:=28,pos := "actor.go:43",after :=#[],guard:=none }::{ dst:=some 26,op:=Op.move (Operand.tmp 7),type:=28,pos := "actor.go:43",after :=#[],guard:=none }::{ dst:=some 27,op:=Op.nilCheck (Operand.tmp 26),type:=0,pos := "actor.go:43",after :=#[{ on:=1,ground:=Ground.data }],guard:=none }::{ dst:=some 28,op:=Op.fieldAddr 89 (Operand.tmp 27) 2,type:=0,pos := "actor.go:43",after :=#[{ on:=2,ground:=Ground.data }],guard:=none }::{ dst:=some 29,op:=Op.load 24 (Operand.tmp 28),type:=24,pos := "actor.go:43",after :=#[{ on:=3,ground:=Ground.data }],guard:=none }::{ dst:=some 30,op:=Op.fieldAddr 67 (Operand.tmp 9) 0,type:=0,pos := "actor.go:43",after :=#[],guard:=none }::{ dst:=some 31,op:=Op.load 3 (Operand.tmp 30),type:=3,pos := "actor.go:43",after :=#[{ on:=5,ground:=Ground.data }],guard:=none }::{ dst:=some 32,op:=Op.fieldAddr 67 (Operand.tmp 9) 1,type:=0,pos := "actor.go:43",after :=#[],guard:=none }::{ dst:=some 33,op:=Op.load 32 (Operand.tmp 32),type:=32,pos := "actor.go:43",after :=#[{ on:=7,ground:=Ground.data }],guard:=none }::{ dst:=some 34,op:=Op.call { callee:=Callee.value (Operand.func 28),args :=#[Operand.tmp 33],argTypes :=#[32] },type:=32,pos := "actor.go:43",after :=#[{ on:=8,ground:=Ground.data }],guard:=none }::{ dst:=some 35,op:=Op.build 67 #[(0,Operand.tmp 31),(1,Operand.tmp 34)],type:=67,pos := "actor.go:43",after :=#[{ on:=6,ground:=Ground.data },{ on:=9,ground:=Ground.data }],guard:=none }::{ dst:=some 36,op:=Op.buildSlice 24 1 #[(0,Operand.tmp 35)],type:=24,pos := "actor.go:43",after :=#[{ on:=10,ground:=Ground.data }],guard:=none }::{ dst:=some 37,op:=Op.call { callee:=Callee.builtin Builtin.append,args :=#[Operand.tmp 29,Operand.tmp 36],argTypes :=#[24,24] },type:=24,pos := "actor.go:43",after :=#[{ on:=4,ground:=Ground.data },{ on:=11,ground:=Ground.data },{ on:=9,ground:=Ground.chain }],guard:=none }::{ dst:=some 38,op:=Op.nilCheck (Operand.tmp 25),type:=0,pos := "actor.go:43",after :=#[{ on:=0,ground:=Ground.data },{ on:=0,ground:=Ground.phase },{ on:=1,ground:=Ground.phase },{ on:=2,ground:=Ground.phase },{ on:=3,ground:=Ground.phase },{ on:=4,ground:=Ground.phase },{ on:=5,ground:=Ground.phase },{ on:=6,ground:=Ground.phase },{ on:=7,ground:=Ground.phase },{ on:=8,ground:=Ground.phase },{ on:=9,ground:=Ground.phase },{ on:=10,ground:=Ground.phase },{ on:=11,ground:=Ground.phase },{ on:=12,ground:=Ground.phase }],guard:=none }::{ dst:=some 39,op:=Op.fieldAddr 89 (Operand.tmp 38) 2,type:=0,pos := "actor.go:43",after :=#[{ on:=13,ground:=Ground.data },{ on:=0,ground:=Ground.phase },{ on:=1,ground:=Ground.phase },{ on:=2,ground:=Ground.phase },{ on:=3,ground:=Ground.phase },{ on:=4,ground:=Ground.phase },{ on:=5,ground:=Ground.phase },{ on:=6,ground:=Ground.phase },{ on:=7,ground:=Ground.phase },{ on:=8,ground:=Ground.phase },{ on:=9,ground:=Ground.phase },{ on:=10,ground:=Ground.phase },{ on:=11,ground:=Ground.phase },{ on:=12,ground:=Ground.phase }],guard:=none }::{ dst:=none,op:=Op.store 24 (Operand.tmp 39) (Operand.tmp 37),type:=0,pos := "actor.go:43",after :=#[{ on:=14,ground:=Ground.data },{ on:=12,ground:=Ground.data },{ on:=12,ground:=Ground.chain },{ on:=0,ground:=Ground.phase },{ on:=1,ground:=Ground.phase },{ on:=2,ground:=Ground.phase },{ on:=3,ground:=Ground.phase },{ on:=4,ground:=Ground.phase },{ on:=5,ground:=Ground.phase },{ on:=6,ground:=Ground.phase },{ on:=7,ground:=Ground.phase },{ on:=8,ground:=Ground.phase },{ on:=9,ground:=Ground.phase },{ on:=10,ground:=Ground.phase },{ on:=11,ground:=Ground.phase },{ on:=12,ground:=Ground.phase }],guard:=none }::[])) true).wp Tryz.prog (Pq K) { tmps:=List.toArray (v0::v1::v2::v3::v4::v5::v6::(.pointer (some ⟨X+1,0,none⟩))::v8::(.pointer (some ⟨Y,0,none⟩))::v10::v11::v12::v13::v14::v15::v16::v17::v18::v19::v20::v21::v22::v23::v24::v25::v26::v27::v28::v29::v30::v31::v32::v33::v34::v35::v36::v37::v38::v39::v40::v41::v42::v43::v44::v45::v46::v47::v48::v49::v50::v51::v52::v53::v54::v55::v56::v57::[]),defers:=[] } W1:=by
 have k0:W1.cell? ⟨Y,0,none⟩=some (.int .i64 kd):=by simp[World.cell?,HB.out.2]
 have k1:W1.cell? ⟨Y,1,none⟩=some (.slice ba o.data.length bc):=by simp[World.cell?,HB.out.2]
 have kK:=HB.out.1
 unfold yY at kK
 obtain⟨f0,f1,f2,f3,f4,f5,f6,f7,f8,f9,f10,f11,f12,f13,f14,z0,z3,Pz,-⟩:=eH kK
 clear kK
 have Z0:=arM hlen hj
 have aac:=arB hlen hj
 go_region_law (first
  | (refine pz rfl (.tmp 29) (.tmp 36) 24 rfl (X+2) 67 i0 _ 2 32 Tryz.underlying24 TV Qt Qs Qr rfl (by decide) (.slice ca j cc) j (opC (acts.take j) ps0) (by simp[Act.eval,Act.put]) (Jv (hY.symm▸H5.out.1) HW.out kd pa pc).1 ⟨w5.heap.size,0,none⟩ 1 1 [.int .i64 kd,.slice pa o.data.length pc] (by simp[Act.eval,Act.put]) rfl (Jv (hY.symm▸H5.out.1) HW.out kd pa pc).2 arO Z0 aac (arS hY HR.out.2.1 H5.out.1) ?_;intro v6 w6 r1 r2 r3;obtain⟨ca6,cc6,rfl⟩:=lC r1;have hT6:=Ju hY HR.out.2.1 H5.out.1 HR.out.2.2 HW.out r2;unfold yY at hT6;obtain⟨-,-,-,-,-,-,-,-,-,-,-,YV,-,-,-,-,-,x11,-⟩:=eH hT6;clear hT6;have H6:=aC (aR r1 (aR r2 r3));clear r1 r2 r3)
  | (go_simp;go_at_call 28;refine(cC _ (Below.drew (Below.refl _ _))).mono ?_;clear cC;rintro e w5 ⟨pa,pc,rfl,hb5,hs5,Y4⟩;have m0:w5.cell? ⟨Y,0,none⟩=some (.int .i64 kd):=(bE (hs5.block Y (Array.getElem?_eq_some_iff.1 HB.out.2).1)).trans k0;have m1:w5.cell? ⟨Y,1,none⟩=some (.slice ba o.data.length bc):=(bE (hs5.block Y (Array.getElem?_eq_some_iff.1 HB.out.2).1)).trans k1;have m11:w5.cell? ⟨X+1,11,none⟩=some (.slice ca j cc):=(bE (hs5.block (X+1) (Array.getElem?_eq_some_iff.1 HB.out.1).1)).trans f11;have m12:(w5.alloc (.cells #[.int .i64 kd,.slice pa o.data.length pc] 67)).cell? ⟨X+1,11,none⟩=some (.slice ca j cc):=(bE (((Below.refl w5.heap.size w5).alloc (Nat.le_refl _) _).block (X+1) (World.block_lt_of_cell? w5 _ m11))).trans m11;have H5:=aC (aR hb5 (aR hs5 Y4));clear hb5 hs5 Y4))
 all_goals (
  exact hK (.pointer (some ⟨X+1,0,none⟩)) (.pointer (some ⟨X+1,0,none⟩)) (.pointer (some ⟨X+1,0,none⟩)) (.pointer (some ⟨X+1,11,none⟩)) (.slice ca j cc) (.pointer (some ⟨Y,0,none⟩)) (.int .i64 kd) (.pointer (some ⟨Y,1,none⟩)) (.slice ba o.data.length bc) (.slice pa o.data.length pc) (.agg #[.int .i64 kd,.slice pa o.data.length pc]) (.slice (some ⟨w5.heap.size,0,none⟩) 1 1) (.slice ca6 (j+1) cc6) (.pointer (some ⟨X+1,0,none⟩)) (.pointer (some ⟨X+1,11,none⟩)) _ (KT hX hY HR.out.1 HR.out.2.1 ho hkd HR.out.2.2 Qz vv HW.out HQ.out H5.out.1 H5.out.2.2 H6.out.1 H6.out.2.1 H6.out.2.2))
theorem aax {j n:Nat} (h:n≤50) (hj:j≤n):IntKind.i64.wrap ((j:Int)+1)=(j:Int)+1:=by rw[IntKind.wrap_i64];omega
theorem R8 {w:World} {b:Nat} {l:Lg} {v:Value} {tr:Int} (h:w.heap[b]? = some (.cells (yY l v tr) 89)):w.frozen? ⟨b,1,none⟩=false∧w.frozen? ⟨b,2,none⟩=false:=by
 unfold yY at h
 refine⟨?_,?_⟩<;>simp[World.frozen?,h]
section
variable {l:Lg} {q:Nat} {W:World} {acts:List gz} {la:Option Addr} {lc:Nat} {tries:Int}
theorem GM (hw:l.wf) (hops:xL W (fun k=>k<W.heap.size) (.slice la acts.length lc) acts) (hd:∀o∈acts,(∀x∈o.data,x<256)∧o.data.length≤1000) (hlen:acts.length≤50) (ht : -9223372036854775808≤tries∧tries<9223372036854775808) (hq:q≤1500) :
 Calls Tryz.prog 7 #[l.val,.slice la acts.length lc,.int .i64 tries] W fun e w'=>∃b K',e =.returned (.pointer (some ⟨b,0,none⟩))∧Below W.heap.size W w'∧(∀k,K' k→W.heap.size≤k)∧WR l (fq (aP l) ((max tries 0).toNat+acts.length) acts (max tries 0) 1 []) q w' b K':=by
 obtain⟨hlc,hrow⟩:acts.length≤lc∧∀(j:Nat) (o:gz),acts[j]? = some o→∃g go ba bc,la=some ⟨g,go,none⟩∧g<W.heap.size∧W.cell? ⟨g,go+2*j,none⟩=some (.int .i64 o.kind)∧W.cell? ⟨g,go+2*j+1,none⟩=some (.slice ba o.data.length bc)∧RowK W [] bI (fun k=>k<W.heap.size) ba o.data:=by
  obtain⟨la',ln,WO,e,h1,h2,h3⟩:=hops
  injection e with e1 e2 e3
  subst e1 e3
  exact⟨by omega,h3⟩
 obtain⟨X,hX⟩:∃X,W.heap.size=X:=⟨_,rfl⟩
 obtain⟨i0,TV,Qt,Qs,Qr⟩:=info_parts Gw
 obtain⟨t0,hmax⟩:∃t,max tries 0=t:=⟨_,rfl⟩
 rw[hmax]
 have hif:(if tries<0 then(0:Int)else tries)=t0:=by rw[←hmax];split<;>omega
 have h00:0≤t0∧t0<9223372036854775808:=by omega
 have hmin:min (acts.length:Int) 64=(acts.length:Int):=by omega
 have HO:=aC (aR hops hrow)
 clear hops hrow
 unfold Lg.val
 go_enter Tryz.func7,Tryz.ntmps7
 go_wp2_with (fail)
 go_loopw [21] (fun jv wr=>∃j:Nat,jv =.int .i64 (j:Int)∧j≤acts.length∧Hid (LS W X l t0 acts wr j)) (fun jv _=>(1000-intOf jv).toNat)
 case atStart =>
  refine⟨0,rfl,Nat.zero_le _,aC ⟨?_,?_,.slice none 0 0,?_,l8.nil⟩⟩
  ·rw[←hX];exact((Below.refl _ _).alloc (Nat.le_refl _) _).alloc (by simp) _
  ·simp;omega
  ·rw[show X+1=(W.alloc (.cells #[.int .i64 l.base,.int .i64 l.term,.int .i64 l.aV,.int .i64 l.subs,.int .i32 l.bG,.int .i32 l.dQ,.int .i32 l.str] 23)).heap.size by simp[hX]];exact aZ _ _
 case round =>
  obtain⟨j,rfl,hj,H⟩:=hrel
  by_cases hlt:j<acts.length
  ·obtain⟨o,ho⟩:∃o,acts[j]? = some o:=⟨acts[j],List.getElem?_eq_getElem hlt⟩
   obtain⟨bl,sz,v,hT,hL⟩:=H.out
   obtain⟨g,go,ba,bc,rfl,hg,g0,g1,hrow⟩:=HO.out.2 j o ho
   have hdo:=hd o (List.mem_of_getElem? ho)
   have gk:wr.heap[g]? = W.heap[g]? := bl.block g (by omega)
   obtain⟨kd,hkd⟩:∃kd,o.kind=kd:=⟨_,rfl⟩
   rw[hkd]at g0
   have g0':wr.cell? ⟨g,go+j*2,none⟩=some (.int .i64 kd):=by rw[Nat.mul_comm j 2];exact(bE gk).trans g0
   have g1':wr.cell? ⟨g,go+j*2+1,none⟩=some (.slice ba o.data.length bc):=by rw[Nat.mul_comm j 2];exact(bE gk).trans g1
   obtain⟨Y,hY⟩:∃Y,wr.heap.size=Y:=⟨_,rfl⟩
   obtain⟨W1,hW1⟩:∃W1,wr.alloc (.cells #[.int .i64 kd,.slice ba o.data.length bc] 67)=W1:=⟨_,rfl⟩
   have b1:Below Y wr W1:=by rw[←hW1,←hY];exact(Below.refl _ _).alloc (Nat.le_refl _) _
   have r1:W1.heap[Y]? = some (.cells #[.int .i64 kd,.slice ba o.data.length bc] 67):=by rw[←hW1,←hY];exact aZ _ _
   have k0:W1.cell? ⟨Y,0,none⟩=some (.int .i64 kd):=by simp[World.cell?,r1]
   have k1:W1.cell? ⟨Y,1,none⟩=some (.slice ba o.data.length bc):=by simp[World.cell?,r1]
   have hT1:W1.heap[X+1]? = some (.cells (yY l v t0) 89):=(b1.block (X+1) (by omega)).trans hT
   obtain⟨ps0,Qz,hown0,NW⟩:=hL.ex
   obtain⟨ca,cc,rfl⟩:=lC hown0
   have vv:(acts.take j).length=j:=by rw[List.length_take];omega
   rw[vv]at hown0 hL hT hT1 NW
   have kK:=hT1
   unfold yY at kK
   obtain⟨f0,f1,f2,f3,f4,f5,f6,f7,f8,f9,f10,f11,f12,f13,f14,z0,z3,Pz,-⟩:=eH kK
   have cC:∀V',Below W1.heap.size W1 V'→Calls Tryz.prog 28 #[.slice ba o.data.length bc] V' fun e w'=>∃pa pc,e =.returned (.slice pa o.data.length pc)∧Below Y wr w'∧Below W1.heap.size W1 w'∧RowK w' [] bI (fun k=>Y≤k) pa o.data:=fun V' hV'=>by
    have b2:Below Y wr V':=b1.trans (hV'.mono b1.size |>.mono (by have:=b1.size;omega))
    refine(OT ba bc o.data hdo.2 hdo.1 V' fun i x hx => ?_).mono ?_
    ·obtain⟨bb,bo,e,_,hk,hc⟩:=hrow i x hx
     exact⟨bb,bo,e,(bE ((b2.block bb (by omega)).trans (bl.block bb (by omega)))).trans hc⟩
    ·rintro e w' ⟨pa,pc,rfl,_,hb,hr⟩
     have hs2:=b2.size
     have hs3:=hV'.size
     have hs4:=hb.size
     exact⟨pa,pc,rfl,b2.trans (hb.mono (by omega)),hV'.trans (hb.mono (by omega)),hr.move (fun _ _=>rfl) fun k hk=>by omega⟩
   have HB:=aC (aR hT1 r1)
   have HW:=aC hown0
   have HQ:=aC NW
   clear NW
   have HR:=aC (aR bl (aR sz (aR hT (aR hL b1))))
   clear bl sz hT hL hT1 hown0 kK hrow g0 g1 gk r1 b1
   have q1:=arT hlen hj
   have q2:=arU hlt
   go_wp2_with (fail)
   refine EZ ?_
   refine Qg TV Qt Qs Qr hX hY hlt hj hlen ho hkd Qz vv cC HB HW HQ (aC ⟨HR.out.1,HR.out.2.1,HR.out.2.2.1⟩) _ ?_
   intro x25 x26 x27 x28 x29 x30 x31 x32 x33 x34 x35 x36 x37 x38 x39 w' hLS
   have HN:=aC hLS
   have hj2:=arE hlt
   have hms:=arN hlen hlt
   clear hLS cC HB HW HQ HR HO Qz vv hd f0 f1 f2 f3 f4 f5 f6 f7 f8 f9 f10 f11 f12 f13 f14 z0 z3 Pz k0 k1 ho hkd g0' g1' hW1 hY hdo
   have q9:IntKind.i64.wrap ((j:Int)+1)=(j:Int)+1:=aax hlen hj
   go_step
   go_wp2
   go_roundw
   case measure =>
    simp only[intOf]
    exact hms
   case rel=>exact⟨j+1,by simp,hj2,HN⟩
  ·obtain rfl:j=acts.length:=by omega
   obtain⟨bl,sz,v,hT,hL⟩:=H.out
   rw[List.take_length]at hL
   obtain⟨g1,g2⟩:=R8 hT
   obtain⟨V,hV⟩:∃V,(wr.setCell ⟨X+1,1,none⟩ (.func (.func 29) #[.pointer (some ⟨X+1,0,none⟩)] #[])).setCell ⟨X+1,2,none⟩ (.func (.func 30) #[.pointer (some ⟨X+1,0,none⟩)] #[])=V:=⟨_,rfl⟩
   have o1:Only (X+1) wr V:=by rw[←hV];exact(Only.set _ _ _).trans (Only.set _ _ _)
   have Vo:V.heap[X+1]? = some (.cells (ji (X+1) .nilIface false l v t0 0 (.slice none 0 0)) 89):=by rw[←hV];exact gW (gW hT 1 _) 2 _
   have hsz:X+2≤V.heap.size:=Nat.le_trans sz o1.size
   have hLV:=hL.move (w':=V) fun k h1 h2=>o1.block k h2 (by omega)
   have hWI:WI l V (X+1) (fun k=>X+1≤k∧k<V.heap.size) false .nilIface acts t0 0 [] :=
    ⟨fun k hk=>hk.2,⟨Nat.le_refl _,by omega⟩,v,.slice none 0 0,Vo,⟨hLV.ops fun k h1 h2=>⟨⟨by omega,h2⟩,by omega,id,by simp[Value.ownBlock]⟩,World.ownsRow_nil _ _ _ _,fun k hk=>by simp[Value.ownBlock]at hk⟩⟩
   have hR:Rest l (fq (aP l) (t0.toNat+acts.length) acts t0 1 []) (t0.toNat+acts.length) q acts t0 0 [] (t0.toNat+acts.length+1) :=
    ⟨hd,by simp;omega,h00,⟨by omega,by omega⟩,hq,Nat.le_refl _,by omega,rfl⟩
   have cS:=Gd hw hWI hR
   have kK:=hT
   unfold yY at kK
   obtain⟨f0,f1,f2,f3,f4,f5,f6,f7,f8,f9,f10,f11,f12,f13,f14,z0,z3,Pz,-⟩:=eH kK
   have HE:=aC (aR bl (aR o1 hsz))
   have hst:∀(a:Addr) (g:FuncId) (u v:Array Value) (m:Mode) (w:World),(store a (.func (.func g) u v) m).run Tryz.prog w=stored Tryz.prog w a (.func (.func g) u v) m:=fun a g u v m w=>run_store Tryz.prog w a _ m rfl
   clear kK hT hL bl sz o1 Vo hsz hLV hWI hR HO hd H
   go_wp2_with (fail)
   refine cS.mono ?_
   clear cS
   rintro e w' ⟨K',rfl,hk,hr⟩
   have HK:=aC (aR hk hr)
   clear hk hr
   go_wp2
   refine bodyPost_ret (v :=.pointer (some ⟨X+1,0,none⟩)) (by simp[results,Tryz.results7,go_sem]) rfl ⟨X+1,K',rfl,?_,?_,HK.out.2⟩
   ·have h1:=HE.out.1
    have h2:=HE.out.2.1
    have h3:=HK.out.1.jL
    rw[hX]
    exact⟨h3.os.trans (h2.os.trans h1.os),h3.tape.trans (h2.tape.trans h1.tape),h3.output.trans (h2.output.trans h1.output),Nat.le_trans h1.size (Nat.le_trans h2.size h3.size),fun b hb=>(h3.block b (by have:=h1.size;have:=h2.size;omega) (fun hh=>by omega)).trans ((h2.block b (by have:=h1.size;omega) (by omega)).trans (h1.block b hb))⟩
   ·intro k hk
    rcases HK.out.1.new k hk with h|h
    ·omega
    ·have:=HE.out.2.2;omega
end
section
variable {l:Lg} {q:Nat} {W:World} {b:Nat} {K:Nat→Prop} {p:Pr An Ot} {ops:List gz} {tries n:Int} {out:List ng} {x:An}
theorem Gc {now left dn:Value} (hT:W.heap[b]? = some (.cells (ji b now false l left tries n dn) 89)) {xa:Option Addr} {xn xc:Nat} :
 Calls Tryz.prog 35 #[.pointer (some ⟨b,0,none⟩),BD x xa xn xc] W fun e w'=>e =.returned (.tuple #[])∧Below W.heap.size W w':=by
 obtain⟨V,hV1⟩:∃V,W.alloc (.cells #[.int .u64 x.v,.bool x.dn,.slice xa xn xc] 51)=V:=⟨_,rfl⟩
 have bV:Below W.heap.size W V:=by rw[←hV1];exact(Below.refl _ _).alloc (Nat.le_refl _) _
 have rV:V.heap[W.heap.size]? = some (.cells #[.int .u64 x.v,.bool x.dn,.slice xa xn xc] 51):=by rw[←hV1];exact aZ _ _
 have a0:V.cell? ⟨W.heap.size,0,none⟩=some (.int .u64 x.v):=by simp[World.cell?,rV]
 have a1:V.cell? ⟨W.heap.size,1,none⟩=some (.bool x.dn):=by simp[World.cell?,rV]
 have a2:V.cell? ⟨W.heap.size,2,none⟩=some (.slice xa xn xc):=by simp[World.cell?,rV]
 have htl:=(Array.getElem?_eq_some_iff.1 hT).1
 have kK:V.heap[b]? = _:=(bV.block b htl).trans hT
 unfold ji at kK
 obtain⟨c0,c1,c2,c3,-⟩:=eH kK
 clear kK
 obtain⟨X,hX⟩:∃X,W.heap.size=X:=⟨_,rfl⟩
 have HX:=aC bV
 clear hT bV rV htl
 rw[hX]at a0 a1 a2
 go_enter Tryz.func35,Tryz.ntmps35
 go_wp2
 go_returns
 exact⟨rfl,HX.out⟩
theorem ME (h:WX l q W b K false p ops tries n out) {xa:Option Addr} {xn xc:Nat} :
 Calls Tryz.prog 14 #[.pointer (some ⟨b,0,none⟩),BD x xa xn xc] W fun e w'=>e =.returned (.tuple #[])∧WK K W w' K∧WX l q w' b K false p ops tries n out:=by
 obtain⟨V,hV1⟩:∃V,W.alloc (.cells #[.int .u64 x.v,.bool x.dn,.slice xa xn xc] 51)=V:=⟨_,rfl⟩
 have bV:Below W.heap.size W V:=by rw[←hV1];exact(Below.refl _ _).alloc (Nat.le_refl _) _
 have rV:V.heap[W.heap.size]? = some (.cells #[.int .u64 x.v,.bool x.dn,.slice xa xn xc] 51):=by rw[←hV1];exact aZ _ _
 have a0:V.cell? ⟨W.heap.size,0,none⟩=some (.int .u64 x.v):=by simp[World.cell?,rV]
 have a1:V.cell? ⟨W.heap.size,1,none⟩=some (.bool x.dn):=by simp[World.cell?,rV]
 have a2:V.cell? ⟨W.heap.size,2,none⟩=some (.slice xa xn xc):=by simp[World.cell?,rV]
 obtain⟨X,hX⟩:∃X,W.heap.size=X:=⟨_,rfl⟩
 have cT:∀V',Below V.heap.size V V'→Calls Tryz.prog 35 #[.pointer (some ⟨b,0,none⟩),BD x xa xn xc] V' fun e w'=>e =.returned (.tuple #[])∧Below V'.heap.size V' w':=fun V' hV'=>by
  have b2:Below W.heap.size W V':=bV.trans (hV'.mono bV.size)
  obtain⟨lt,kb,now,left,dn,OA,hT,-⟩:=h
  exact Gc ((b2.block b (lt b kb)).trans hT)
 unfold BD at cT ⊢
 have HX:=aC (aR bV h)
 clear bV rV h
 rw[hX]at a0 a1 a2
 go_enter Tryz.func14,Tryz.ntmps14
 go_wp2_with (fail)
 go_region_with
  (go_at_call 35
   refine(cT _ (Below.drew (Below.refl _ _))).mono ?_
   clear cT
   rintro e w1 ⟨rfl,hk1⟩
   have H1:=aC hk1
   clear hk1)
 all_goals go_wp2
 all_goals go_returns
 all_goals
  obtain⟨bV,h⟩:=HX.out
  have b1:=H1.out
  have b2:Below W.heap.size W w1:=bV.trans (Below.mono ((Below.drew (Below.refl _ _)).trans b1) bV.size)
  exact⟨rfl,WK.below b2,h.move b2.size fun k hk=>b2.block k (h.lt k hk)⟩
end
section
variable {l:Lg} {q:Nat} {W:World} {b:Nat} {K:Nat→Prop} {T:Pr An rD} {x:An}
theorem Qj {O:Type} (p:Pr An O) (x:An):wB p x=p.run [x]:=by
 cases p with
 | done o=>exact(Pr.gL _ _).symm
 | ask o a k=>exact(Pr.CX _).symm
theorem PG (hw:l.wf) (h:WR l T (q+1) W b K) (hV:0≤x.v∧x.v<18446744073709551616) {xa:Option Addr} {xn xc:Nat} :
 Calls Tryz.prog 14 #[.pointer (some ⟨b,0,none⟩),BD x xa xn xc] W fun e w'=>∃K',e =.returned (.tuple #[])∧WK K W w' K'∧WR l (T.run [x]) q w' b K':=by
 cases T with
 | ask o a k=>rw[←Qj];exact PD hw h trivial hV
 | done o =>
   obtain⟨g,p,ops,tries,n,out,f,hwx,hB,hTr,hg⟩:=h
   cases g with
   | true =>
     obtain⟨po,pa,pk,_,_,e⟩:=qR (l:=l) hB (hg rfl)
     rw[e]at hTr
     cases hTr
   | false =>
     refine(ME hwx (x:=x)).mono ?_
     rintro e w' ⟨rfl,hk,hx⟩
     obtain⟨lt,kb,now,left,dn,OA,hT,hA,hO,hr⟩:=hx
     refine⟨K,rfl,hk,false,p,ops,tries,n,out,f,⟨lt,kb,now,left,dn,OA,hT,fun h=>(by cases h),hO,hr⟩,⟨hB.data,hB.len,hB.tr,⟨hB.n0.1,by have:=hB.n0;omega⟩,by have:=hB.qb;omega,hB.some_,hB.fuel,fun h=>(by cases h)⟩,hTr,fun h=>(by cases h)⟩
end
