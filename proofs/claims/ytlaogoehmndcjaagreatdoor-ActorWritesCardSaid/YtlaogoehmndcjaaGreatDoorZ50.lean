import Derived.Test.YtlaogoehmndcjaaGreatDoorZ49
import Derived.Test.YtlaogoehmndcjaaGreatDoorZ15
import Derived.Test.YtlaogoehmndcjaaGreatDoorZ16
import Derived.Test.YtlaogoehmndcjaaGreatDoorZ29
import Derived.Test.YtlaogoehmndcjaaGreatDoorZ28
set_option linter.unusedVariables false
set_option maxHeartbeats 6400000
set_option maxRecDepth 10000000
set_option linter.unusedSectionVars false
set_option linter.unusedSimpArgs false
namespace Go.Proofs.YtlaogoehmndcjaaGreatDoor.Sy
open Go RowKit Lib AS Base Pr Ba
def Ml (W':World) (Y A S1 S2 n:Nat) (ak aa am av au sp st so sz:Int) (ea ba:Option Addr) (ec bc:Nat) (en:Bool):Prop:=W'.cell? ⟨Y,2,none⟩=some (.int .i64 ak)∧W'.cell? ⟨Y,3,none⟩=some (.int .i64 aa)∧W'.cell? ⟨Y,4,none⟩=some (.int .i64 am)∧W'.cell? ⟨Y,5,none⟩=some (.int .u64 av)∧W'.cell? ⟨Y,6,none⟩=some (.int .u64 au)∧W'.cell? ⟨Y,7,none⟩=some (.slice ea n ec)∧W'.cell? ⟨Y,8,none⟩=some (.bool en)∧W'.cell? ⟨A,0,none⟩=some (.int .i64 ak)∧W'.cell? ⟨A,1,none⟩=some (.int .i64 aa)∧W'.cell? ⟨A,2,none⟩=some (.int .i64 am)∧W'.cell? ⟨A,3,none⟩=some (.int .u64 av)∧W'.cell? ⟨A,4,none⟩=some (.int .u64 au)∧W'.cell? ⟨A,5,none⟩=some (.slice ba n bc)∧W'.cell? ⟨S1,0,none⟩=some (.int .i64 sp)∧W'.cell? ⟨S1,1,none⟩=some (.int .i32 st)∧W'.cell? ⟨S1,2,none⟩=some (.int .i64 so)∧W'.cell? ⟨S1,3,none⟩=some (.int .i64 sz)∧W'.cell? ⟨S2,0,none⟩=some (.int .i64 sp)∧W'.cell? ⟨S2,1,none⟩=some (.int .i32 st)∧W'.cell? ⟨S2,2,none⟩=some (.int .i64 so)∧W'.cell? ⟨S2,3,none⟩=some (.int .i64 sz)
theorem Ml.below {W W':World} {Y A S1 S2 n:Nat} {ak aa am av au sp st so sz:Int} {ea ba:Option Addr} {ec bc:Nat} {en:Bool} (h:Ml W Y A S1 S2 n ak aa am av au sp st so sz ea ba ec bc en) (hb:Below W.heap.size W W'):Ml W' Y A S1 S2 n ak aa am av au sp st so sz ea ba ec bc en:=by
 have up:∀{a:Addr} {v:Value},W.cell? a=some v→W'.cell? a=some v:=fun h=>(hb.cell (World.block_lt_of_cell? W _ h)).trans h
 obtain⟨h0,h1,h2,h3,h4,h5,h6,h7,h8,h9,h10,h11,h12,h13,h14,h15,h16,h17,h18,h19,h20⟩:=h
 exact⟨up h0,up h1,up h2,up h3,up h4,up h5,up h6,up h7,up h8,up h9,up h10,up h11,up h12,up h13,up h14,up h15,up h16,up h17,up h18,up h19,up h20⟩
theorem Qf {W0:World} {b Y A S1 S2 n:Nat} {ak aa am av au sp st so sz:Int} {ea ba:Option Addr} {ec bc:Nat} {en has:Bool} {v0 v1 v2 v3 v4 v5 v6 v7 v8 v10 v12 v19 v20 v21 v22 v23 v24 v25 v26 v27 v28 v29 v30 v31 v32 v33 v34 v35 v36 v37 v38 v39 v40 v41 v42 v43 v44 v45 v46 v47 v48 v49 v50 v51 v52 v53 v54 v55 v56 v57 v58 v59 v60 v61 v62 v63 v64 v65 v66 v67 v68 v69 v70 v71 v72 v73 v74 v75 v76 v77 v78 v79 v80 v81 v82 v83 v84 v85 v86 v87 v88 v89 v90 v91 v92 v93 v94 v95 v96 v97 v98 v99 VK VJ VI VH GU:Value}
 (c11:∀V',Below W0.heap.size W0 V'→Calls Tryz.prog 11 #[.agg #[.int .i64 ak,.int .i64 aa,.int .i64 am,.int .u64 av,.int .u64 au,.slice ba n bc],.agg #[.int .i64 ak,.int .i64 aa,.int .i64 am,.int .u64 av,.int .u64 au,.slice ea n ec]] V' fun e w'=>e =.returned (.bool true)∧Below V'.heap.size V' w')
 (c13:∀V',Below W0.heap.size W0 V'→Calls Tryz.prog 13 #[.pointer (some ⟨b,0,none⟩)] V' fun e w'=>∃x,e =.returned x∧Below V'.heap.size V' w'∧∀W',Below w'.heap.size w' W'→Calls Tryz.prog 12 #[x,v12] W' fun e w''=>e =.returned (.bool true)∧Below W'.heap.size W' w'')
 (HC:Hid (Ml W0 Y A S1 S2 n ak aa am av au sp st so sz ea ba ec bc en))
 (K:Act→World→Prop) (hK:∀x90 w',Below W0.heap.size W0 w'→K { tmps:=List.toArray (v0::v1::v2::v3::v4::v5::v6::v7::v8::(.pointer (some ⟨b,0,none⟩))::v10::(.pointer (some ⟨Y,0,none⟩))::v12::(.pointer (some ⟨S1,0,none⟩))::(.bool has)::(.pointer (some ⟨A,0,none⟩))::(.bool en)::(.pointer (some ⟨S2,0,none⟩))::(.bool has)::v19::v20::v21::v22::v23::v24::v25::v26::v27::v28::v29::v30::v31::v32::v33::v34::v35::v36::v37::v38::v39::v40::v41::v42::v43::v44::v45::v46::v47::v48::v49::v50::v51::v52::v53::v54::v55::v56::v57::v58::v59::v60::v61::v62::(.bool en)::(.pointer (some ⟨Y,0,none⟩))::(.pointer (some ⟨Y,0,none⟩))::(.pointer (some ⟨Y,8,none⟩))::(.bool en)::(.bool false)::(.bool false)::(.agg #[.int .i64 ak,.int .i64 aa,.int .i64 am,.int .u64 av,.int .u64 au,.slice ba n bc])::(.pointer (some ⟨Y,0,none⟩))::(.pointer (some ⟨Y,0,none⟩))::(.pointer (some ⟨Y,2,none⟩))::(.agg #[.int .i64 ak,.int .i64 aa,.int .i64 am,.int .u64 av,.int .u64 au,.slice ea n ec])::(.bool true)::(.bool false)::(.bool false)::(.bool false)::(.agg #[.int .i64 sp,.int .i32 st,.int .i64 so,.int .i64 sz])::(.agg #[.int .i64 sp,.int .i32 st,.int .i64 so,.int .i64 sz])::(.bool false)::(.bool false)::(.bool false)::(.bool has)::(.bool has)::(.bool false)::(.bool false)::(.bool false)::(.pointer (some ⟨b,0,none⟩))::x90::v12::(.bool true)::(.bool false)::(.bool false)::v95::v96::v97::v98::v99::VK::VJ::VI::VH::GU::[]),defers:=[] } w') :
 (Code.region 13 (List.toArray ({ dst:=some 63,op:=Op.move (Operand.tmp 16),type:=4,pos := "law.go:62",after :=#[],guard:=none }::{ dst:=some 64,op:=Op.move (Operand.tmp 11),type:=30,pos := "law.go:62",after :=#[],guard:=none }::{ dst:=some 65,op:=Op.nilCheck (Operand.tmp 64),type:=0,pos := "law.go:62",after :=#[{ on:=1,ground:=Ground.data }],guard:=none }::{ dst:=some 66,op:=Op.fieldAddr 36 (Operand.tmp 65) 3,type:=0,pos := "law.go:62",after :=#[{ on:=2,ground:=Ground.data }],guard:=none }::{ dst:=some 67,op:=Op.load 4 (Operand.tmp 66),type:=4,pos := "law.go:62",after :=#[{ on:=3,ground:=Ground.data }],guard:=none }::{ dst:=some 68,op:=Op.binOp BinOp.neq 4 (Operand.tmp 63) (Operand.tmp 67) 4,type:=4,pos := "law.go:62",after :=#[{ on:=0,ground:=Ground.data },{ on:=4,ground:=Ground.data }],guard:=none }::{ dst:=some 69,op:=Op.move (Operand.tmp 68),type:=4,pos := "law.go:62",after :=#[{ on:=5,ground:=Ground.data }],guard:=none }::{ dst:=some 70,op:=Op.load 34 (Operand.tmp 15),type:=34,pos := "law.go:62",after :=#[{ on:=6,ground:=Ground.guard }],guard:=some (6,false) }::{ dst:=some 71,op:=Op.move (Operand.tmp 11),type:=30,pos := "law.go:62",after :=#[{ on:=6,ground:=Ground.guard }],guard:=some (6,false) }::{ dst:=some 72,op:=Op.nilCheck (Operand.tmp 71),type:=0,pos := "law.go:62",after :=#[{ on:=8,ground:=Ground.data },{ on:=6,ground:=Ground.guard }],guard:=some (6,false) }::{ dst:=some 73,op:=Op.fieldAddr 36 (Operand.tmp 72) 2,type:=0,pos := "law.go:62",after :=#[{ on:=9,ground:=Ground.data },{ on:=6,ground:=Ground.guard }],guard:=some (6,false) }::{ dst:=some 74,op:=Op.load 34 (Operand.tmp 73),type:=34,pos := "law.go:62",after :=#[{ on:=10,ground:=Ground.data },{ on:=6,ground:=Ground.guard }],guard:=some (6,false) }::{ dst:=some 75,op:=Op.call { callee:=Callee.value (Operand.func 11),args :=#[Operand.tmp 70,Operand.tmp 74],argTypes :=#[34,34] },type:=4,pos := "law.go:62",after :=#[{ on:=7,ground:=Ground.data },{ on:=11,ground:=Ground.data },{ on:=6,ground:=Ground.chain },{ on:=6,ground:=Ground.guard }],guard:=some (6,false) }::{ dst:=some 76,op:=Op.unOp UnOp.not 4 (Operand.tmp 75),type:=4,pos := "law.go:62",after :=#[{ on:=12,ground:=Ground.data },{ on:=6,ground:=Ground.guard }],guard:=some (6,false) }::{ dst:=some 77,op:=Op.pick (Operand.tmp 69) (Operand.const (Value.bool true)) (Operand.tmp 76),type:=4,pos := "law.go:62",after :=#[{ on:=6,ground:=Ground.data },{ on:=13,ground:=Ground.data }],guard:=none }::{ dst:=some 78,op:=Op.move (Operand.tmp 77),type:=4,pos := "law.go:62",after :=#[{ on:=14,ground:=Ground.data },{ on:=12,ground:=Ground.chain }],guard:=none }::{ dst:=some 79,op:=Op.load 39 (Operand.tmp 17),type:=39,pos := "law.go:62",after :=#[{ on:=15,ground:=Ground.guard }],guard:=some (15,false) }::{ dst:=some 80,op:=Op.load 39 (Operand.tmp 13),type:=39,pos := "law.go:62",after :=#[{ on:=15,ground:=Ground.guard }],guard:=some (15,false) }::{ dst:=some 81,op:=Op.binOp BinOp.neq 39 (Operand.tmp 79) (Operand.tmp 80) 39,type:=4,pos := "law.go:62",after :=#[{ on:=16,ground:=Ground.data },{ on:=17,ground:=Ground.data },{ on:=15,ground:=Ground.guard }],guard:=some (15,false) }::{ dst:=some 82,op:=Op.pick (Operand.tmp 78) (Operand.const (Value.bool true)) (Operand.tmp 81),type:=4,pos := "law.go:62",after :=#[{ on:=15,ground:=Ground.data },{ on:=18,ground:=Ground.data }],guard:=none }::{ dst:=some 83,op:=Op.move (Operand.tmp 82),type:=4,pos := "law.go:62",after :=#[{ on:=19,ground:=Ground.data },{ on:=15,ground:=Ground.chain }],guard:=none }::{ dst:=some 84,op:=Op.move (Operand.tmp 18),type:=4,pos := "law.go:62",after :=#[{ on:=20,ground:=Ground.guard }],guard:=some (20,false) }::{ dst:=some 85,op:=Op.move (Operand.tmp 14),type:=4,pos := "law.go:62",after :=#[{ on:=20,ground:=Ground.guard }],guard:=some (20,false) }::{ dst:=some 86,op:=Op.binOp BinOp.neq 4 (Operand.tmp 84) (Operand.tmp 85) 4,type:=4,pos := "law.go:62",after :=#[{ on:=21,ground:=Ground.data },{ on:=22,ground:=Ground.data },{ on:=20,ground:=Ground.guard }],guard:=some (20,false) }::{ dst:=some 87,op:=Op.pick (Operand.tmp 83) (Operand.const (Value.bool true)) (Operand.tmp 86),type:=4,pos := "law.go:62",after :=#[{ on:=20,ground:=Ground.data },{ on:=23,ground:=Ground.data }],guard:=none }::{ dst:=some 88,op:=Op.move (Operand.tmp 87),type:=4,pos := "law.go:62",after :=#[{ on:=24,ground:=Ground.data },{ on:=20,ground:=Ground.chain }],guard:=none }::{ dst:=some 89,op:=Op.move (Operand.tmp 9),type:=28,pos := "law.go:62",after :=#[{ on:=25,ground:=Ground.guard }],guard:=some (25,false) }::{ dst:=some 90,op:=Op.call { callee:=Callee.value (Operand.func 13),args :=#[Operand.tmp 89],argTypes :=#[28] },type:=37,pos := "law.go:62",after :=#[{ on:=26,ground:=Ground.data },{ on:=25,ground:=Ground.chain },{ on:=25,ground:=Ground.guard }],guard:=some (25,false) }::{ dst:=some 91,op:=Op.move (Operand.tmp 12),type:=37,pos := "law.go:62",after :=#[{ on:=25,ground:=Ground.guard }],guard:=some (25,false) }::{ dst:=some 92,op:=Op.call { callee:=Callee.value (Operand.func 12),args :=#[Operand.tmp 90,Operand.tmp 91],argTypes :=#[37,37] },type:=4,pos := "law.go:62",after :=#[{ on:=27,ground:=Ground.data },{ on:=28,ground:=Ground.data },{ on:=27,ground:=Ground.chain },{ on:=25,ground:=Ground.guard }],guard:=some (25,false) }::{ dst:=some 93,op:=Op.unOp UnOp.not 4 (Operand.tmp 92),type:=4,pos := "law.go:62",after :=#[{ on:=29,ground:=Ground.data },{ on:=25,ground:=Ground.guard }],guard:=some (25,false) }::{ dst:=some 94,op:=Op.pick (Operand.tmp 88) (Operand.const (Value.bool true)) (Operand.tmp 93),type:=4,pos := "law.go:62",after :=#[{ on:=25,ground:=Ground.data },{ on:=30,ground:=Ground.data }],guard:=none }::[])) true).wp Tryz.prog (Pq K) { tmps:=List.toArray (v0::v1::v2::v3::v4::v5::v6::v7::v8::(.pointer (some ⟨b,0,none⟩))::v10::(.pointer (some ⟨Y,0,none⟩))::v12::(.pointer (some ⟨S1,0,none⟩))::(.bool has)::(.pointer (some ⟨A,0,none⟩))::(.bool en)::(.pointer (some ⟨S2,0,none⟩))::(.bool has)::v19::v20::v21::v22::v23::v24::v25::v26::v27::v28::v29::v30::v31::v32::v33::v34::v35::v36::v37::v38::v39::v40::v41::v42::v43::v44::v45::v46::v47::v48::v49::v50::v51::v52::v53::v54::v55::v56::v57::v58::v59::v60::v61::v62::v63::v64::v65::v66::v67::v68::v69::v70::v71::v72::v73::v74::v75::v76::v77::v78::v79::v80::v81::v82::v83::v84::v85::v86::v87::v88::v89::v90::v91::v92::v93::v94::v95::v96::v97::v98::v99::VK::VJ::VI::VH::GU::[]),defers:=[] } W0:=by
 first|(go_region_held (fun W'=>W'.cell? ⟨Y,2,none⟩=some (.int .i64 ak)∧W'.cell? ⟨Y,3,none⟩=some (.int .i64 aa)∧W'.cell? ⟨Y,4,none⟩=some (.int .i64 am)∧W'.cell? ⟨Y,5,none⟩=some (.int .u64 av)∧W'.cell? ⟨Y,6,none⟩=some (.int .u64 au)∧W'.cell? ⟨Y,7,none⟩=some (.slice ea n ec)∧W'.cell? ⟨Y,8,none⟩=some (.bool en)∧W'.cell? ⟨A,0,none⟩=some (.int .i64 ak)∧W'.cell? ⟨A,1,none⟩=some (.int .i64 aa)∧W'.cell? ⟨A,2,none⟩=some (.int .i64 am)∧W'.cell? ⟨A,3,none⟩=some (.int .u64 av)∧W'.cell? ⟨A,4,none⟩=some (.int .u64 au)∧W'.cell? ⟨A,5,none⟩=some (.slice ba n bc)∧W'.cell? ⟨S1,0,none⟩=some (.int .i64 sp)∧W'.cell? ⟨S1,1,none⟩=some (.int .i32 st)∧W'.cell? ⟨S1,2,none⟩=some (.int .i64 so)∧W'.cell? ⟨S1,3,none⟩=some (.int .i64 sz)∧W'.cell? ⟨S2,0,none⟩=some (.int .i64 sp)∧W'.cell? ⟨S2,1,none⟩=some (.int .i32 st)∧W'.cell? ⟨S2,2,none⟩=some (.int .i64 so)∧W'.cell? ⟨S2,3,none⟩=some (.int .i64 sz))
  (first|exact(HC.out.below HB3.out)|exact(HC.out.below HB2.out)|exact(HC.out.below HB1.out)|exact(HC.out.below (Below.drew (Below.refl _ _))))
  (first
  | (go_at_call 11;refine(c11 _ (Below.drew (Below.refl _ _))).mono ?_;rintro e v11 ⟨rfl,hB⟩;have HB1:=aC (show Below W0.heap.size W0 v11 from(Below.drew (Below.refl _ _)).trans (hB.mono (by simp)));clear hB)
  | (go_at_call 13;refine(c13 _ HB1.out).mono ?_;rintro e v13 ⟨x,rfl,hB,c12⟩;have HB2:=aC (show Below W0.heap.size W0 v13 from HB1.out.trans (hB.mono HB1.out.size));clear hB)
  | (go_at_call 12;refine(c12 _ (Below.refl _ _)).mono ?_;clear c12;rintro e v14 ⟨rfl,hB⟩;have HB3:=aC (show Below W0.heap.size W0 v14 from HB2.out.trans (hB.mono HB2.out.size));clear hB)))|fail
 all_goals
  refine(congrArg (fun a=>K a v14) ?_).mpr (hK x v14 HB3.out)
  kernel_rfl
end Go.Proofs.YtlaogoehmndcjaaGreatDoor.Sy
namespace Go.Proofs.YtlaogoehmndcjaaGreatDoor.Sy
open Go AS RowKit Ba
theorem PT (w:World):Calls Tryz.prog 231 #[.int .u64 0] w fun e w'=>e =.returned (.int .i64 64)∧w'=w:=by
 go_enter Tryz.func231,Tryz.ntmps231
 go_wp2
 go_ret
 exact⟨rfl,rfl⟩
theorem Sa (x:Nat) (hx:x<18446744073709551616) (w:World) (hT:TabAt 0 Lib.deBruijn64tab w) :
 Calls Tryz.prog 231 #[.int .u64 x] w fun e w'=>e =.returned (.int .i64 (Lib.ctz 64 x))∧w'=w:=by
 by_cases hx0:x=0
 ·subst hx0
  exact PT w
 ·exact tz x hx0 hx w hT
def Zu:qM:=fun f args m=>match Nat.beq f 231,args with
 | true,[.int .u64 (.ofNat n)]=>cond (Nat.blt n 18446744073709551616) (some [(.int .i64 (Lib.ctz 64 n),m)]) none
 | _,_=>none
section
variable [bH]
theorem PR {σ:Sg} {v:Value} {args':Array Value} (h:cZ σ [v] args'.toList):∃v',args' =#[v']∧VR σ v v':=by
 obtain⟨h1,h2⟩:=h
 obtain⟨l⟩:=args'
 match l,h1 with
 | [v'],_=>exact⟨v',rfl,by simpa using h2 0 (by simp)⟩
theorem Sc {fs ts:List Nat} {Tw:World→Prop} (w0:World) (hT:TabAt 0 Lib.deBruijn64tab w0):KO (dz Tryz.prog fs ts [] Tw) Tryz.prog w0 Zu:=by
 intro f args m l h hne σ w args' hargs hM
 unfold Zu at h
 split at h
 ·rename_i n hf
  obtain rfl:f=231:=Nat.eq_of_beq_eq_true hf
  cases hn:Nat.blt n 18446744073709551616 with
  | false=>rw[hn]at h;cases h
  | true =>
    rw[hn]at h
    cases h
    obtain⟨v',rfl,hv⟩:=PR hargs
    obtain rfl:=hv.aB rfl
    have hlt:n<18446744073709551616:=by simpa [Nat.blt_eq]using hn
    have hT':TabAt 0 Lib.deBruijn64tab w:=fun j hj=>((show Kept (fun _=>False) w0 w from hM.below).below.cell (p:=⟨0,j,none⟩) (World.block_lt_of_cell? w0 _ (hT j hj))).trans (hT j hj)
    refine(Sa n hlt w hT').mono ?_
    rintro e w' ⟨rfl,rfl⟩
    exact⟨_,List.mem_singleton.2 rfl,σ,_,rfl,FG.refl _ _ _,.refl rfl,hM⟩
 ·cases h
end
def Sb:World→Prop:=fun W=>TabAt 0 Lib.deBruijn64tab W
def Uk:Lg:=⟨0,256,32,1,0,0,0⟩
def QM:om:=[(36,[.agg #[.int .i64 0,.int .i64 256,.int .i64 32,.int .i64 1,.int .i32 0,.int .i32 0,.int .i32 0]],.int .i64 0)]
theorem QN:Uk.ok:=by decide
def Uj:qM:=fun f args m=>match jD QM f args m with
 | some r=>some r
 | none=>Zu f args m
theorem QL:letI:bH:=⟨fun _ => .bool true⟩; ∀p∈QM,ni Tryz.prog Sb p :=
 letI:bH:=⟨fun _ => .bool true⟩
 Cw (VX (D:=fun _ => .bool true) (n:=0) rfl (by kernel_rfl) (args :=#[Uk.val]) (by kernel_rfl) (r :=.int .i64 0) (by kernel_rfl) fun W _=>eT Uk QN W) AR
theorem QK [bH] (hP:∀p∈QM,ni Tryz.prog Sb p) {fs ts:List Nat} (w0:World) (hT:∀w',Kept (fun _=>False) w0 w'→Sb w'):KO (dz Tryz.prog fs ts [] Sb) Tryz.prog w0 Uj:=by
 intro f args m l h
 unfold Uj at h
 cases hp:jD QM f args m with
 | none=>rw[hp]at h;exact Sc w0 (hT w0 (Kept.refl _ _)) f args m l h
 | some r =>
   rw[hp]at h
   cases h
   exact nD (Tw:=Sb) (fun σ m w hM=>hT w hM.below) hP f args m l hp
theorem aaq:zx 0 (eB (dz Tryz.prog (List.range 296) (List.range 310) [] Sb) Uj (nat_lit 20000) (nat_lit 60) (.fn (nat_lit 5)) [] (kI [])) []=[(.bool true,true,[])]:=by kernel_rfl
theorem fixed (w:World) (hT:TabAt 0 Lib.deBruijn64tab w):Calls Tryz.prog 5 #[] w fun e w'=>e =.returned (.bool true)∧Below w.heap.size w w' :=
 EO (Tw:=Sb) (n:=0) mixed (fun _ => .bool true) rfl (letI:bH:=⟨fun _ => .bool true⟩;og) (letI:bH:=⟨fun _ => .bool true⟩;fun w0 h=>QK QL w0 h) rfl rfl aaq rfl rfl w (fun w' hb=>fun j hj=>(hb.cell (p:=⟨0,j,none⟩) (World.block_lt_of_cell? w _ (hT j hj))).trans (hT j hj))
end Go.Proofs.YtlaogoehmndcjaaGreatDoor.Sy
namespace Go.Proofs.YtlaogoehmndcjaaGreatDoor.Sy
open Go RowKit Lib AS Base Pr Ba
variable [Zn]
theorem Ut {w4 w5:World} {Y:Nat} {ga:Option Addr} {cap:Nat} {L:List An} {T:Pr An rD} {o:rD} (hE:YT w4 w5 Y ga cap L T o) :
 ∃(a:Int) (c:Acc) (en:Bool) (ea:Option Addr) (ec:Nat),w5.heap[Y]? = some (.cells (uC (.slice ga L.length cap) a c.k c.at_ c.n c.v c.w (.slice ea c.b.length ec) en) 36)∧gu w5 Y ea c.b.length c.b∧∀w9 K' nv,WV (T.run L) w9 K' nv→∃(ba:Option Addr) (bc:Nat),nv =.tuple #[Jo c ba bc,.bool en]∧BytesIn w9 ba c.b:=by
 rcases hE with⟨a',h⟩|h
 ·have hT:T.run L =.done o:=by have:=h.go.1;rwa [List.drop_zero,Pr.gL]at this
  exact⟨a',⟨0,0,0,0,0,[]⟩,false,none,0,h.mg.bare,⟨rfl,fun j x hj=>by cases hj⟩,fun w9 K' nv hv=>by rw[hT]at hv;exact⟨none,0,hv,fun j x hj=>by cases hj⟩⟩
 ·obtain⟨c,K,h1,-,NU⟩:=h.ex
  rw[List.drop_zero]at h1
  obtain⟨ea,en,ec,hk,hw⟩:=NU.1.blk
  obtain⟨rfl,hw⟩:=hw
  refine⟨L.length,c,true,ea,ec,hk,⟨rfl,hw⟩,fun w9 K' nv hv => ?_⟩
  rw[h1]at hv
  obtain⟨ba,bc,rfl,hb⟩:=hv
  refine⟨ba,bc,rfl,fun j x hj => ?_⟩
  obtain⟨bb,bo,e,_,_,hc⟩:=hb (fun e=>by rw[e]at hj;cases hj) j x hj
  exact⟨bb,bo,e,hc⟩
theorem TA {w4 w5:World} {Y:Nat} {ga:Option Addr} {cap:Nat} {L:List An} {T:Pr An rD} {o:rD} (hE:YT w4 w5 Y ga cap L T o):(T.run L).obs=o:=by
 rcases hE with⟨a',h⟩|h
 ·have hT:T.run L =.done o:=by have:=h.go.1;rwa [List.drop_zero,Pr.gL]at this
  rw[hT];rfl
 ·obtain⟨c,K,h1,-,-⟩:=h.ex
  rw[List.drop_zero]at h1
  rw[h1];rfl
theorem YT.only {w4 w5:World} {Y:Nat} {ga:Option Addr} {cap:Nat} {L:List An} {T:Pr An rD} {o:rD} (hE:YT w4 w5 Y ga cap L T o):Only Y w4 w5:=by
 rcases hE with⟨a',h⟩|h
 ·exact h.ta.2
 ·obtain⟨c,K,-,-,NU⟩:=h.ex;exact NU.2
theorem Si {w wr:World} {s:Nat} {ga:Option Addr} {cap i:Nat} {L:List An} (hA:Mm w s ga L) (hb:Below w.heap.size w wr) (hi:i≤L.length) (hL:i≤1000):iE (wr.alloc (.cells (eG (.slice ga i cap) 0 0 0 0 0 0 false) 36)) wr.heap.size ga cap (L.take i) 0 none:=by
 have hl:(L.take i).length=i:=by rw[List.length_take];omega
 have hb2:Below w.heap.size w (wr.alloc (.cells (eG (.slice ga i cap) 0 0 0 0 0 0 false) 36)):=hb.alloc hb.size _
 refine⟨⟨none,0,0,by rw[hl];exact aZ _ _,trivial⟩,fun j x hj => ?_,by omega⟩
 have hj2:L[j]? = some x:=by
  rw[List.getElem?_take]at hj
  split at hj
  ·exact hj
  ·cases hj
 obtain⟨hv,gb,go,ba,bn,bc,e,_,h0,h1,h2⟩:=hA j x hj2
 have up:∀{a:Addr} {v:Value},w.cell? a=some v→(wr.alloc (.cells (eG (.slice ga i cap) 0 0 0 0 0 0 false) 36)).cell? a=some v:=fun h=>(hb2.cell (World.block_lt_of_cell? w _ h)).trans h
 have hlt:gb<w.heap.size:=World.block_lt_of_cell? w _ h0
 exact⟨hv,gb,go,ba,bn,bc,e,by have:=hb.size;omega,up h0,up h1,up h2⟩
