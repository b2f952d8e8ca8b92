/- ActorWrites: for whatever log, acts, tries and answers the law returns true, and the arguments read as they did. The library's table of trailing zeros is as its text lays it (tied). -/
import Derived.Test.YtlaogoehmndcjaaGreatDoorRows
import Derived.Test.YtlaogoehmndcjaaGreatDoorTie
import Derived.Test.YtlaogoehmndcjaaGreatDoorCards
import Derived.Test.YtlaogoehmndcjaaGreatDoorZ52
import Derived.ProofKit
import Derived.LaidMore
import Derived.OpenShut
import Derived.Stop.Joined
import Derived.Lib.LaidTab
import Derived.Lib.SmallJoins
import Derived.SevenTiedAt
import Derived.Deep.Slices
import Derived.Deep.Fields
namespace Go.Proofs.YtlaogoehmndcjaaGreatDoor
open Go Go.ChangeShapes Go.WideShapes Go.ChangeAt Go.RowKit Go.Joins Go.Deep Go.Base
open Go.Proofs.YtlaogoehmndcjaaGreatDoor.Ba
set_option linter.unusedVariables false
theorem own:ownKnob Tryz.prog.godebug=none:=by kernel_rfl
theorem laidOut:laidOutB Tryz.prog=true:=by kernel_rfl
def JC:String:=(Rows.actorWritesRow.laid.head?.map (·.1)).getD default
theorem XN:Tryz.prog.globalNamed JC=some 0:=by kernel_rfl
theorem Zx:(Tryz.prog.globals[0]?).map (·.type)=some 305:=by kernel_rfl
theorem OE (os:Os) (args:Array Value):laidMetH Tryz.prog Rows.actorWritesRow.laid ((World.doorLaid Tryz.prog 400 os).forCall (fun _ _=>0) ⟨#[],args,[]⟩).memory :=
 laidMetH_of_parts3 (fuel:=8) (laidMet_of_run' 8 (by kernel_rfl) (by kernel_rfl)) (by kernel_rfl) (by kernel_rfl)
theorem Qi {W:World} (h:laidMetH Tryz.prog Rows.actorWritesRow.laid W):TabAt 0 Lib.deBruijn64tab W:=by
 rw[MakeChecks.laidMetH_plain _ _ _ (by kernel_rfl)]at h
 have h2:=Lib.tabIs_of_head (name:=JC) (k :=.u8) (zs:=Lib.deBruijn64tab.map Int.ofNat) (rest:=[]) XN Zx Tryz.underlying305 Tryz.underlying5 (by kernel_rfl) (by kernel_rfl) h
 intro j hj
 have h3:=h2.cell XN j (by simpa using hj)
 rw[h3]
 simp[List.getD,hj]
theorem EH {H:Type} {enc:TypeId×Value→H} {P:Program} {w:World} {base:Nat} {spare:Nat→Bool} {held:Bool} {fuel:Nat} {t e:TypeId} {v:Value} {x:DataW H×List MemPlace} (ht:P.underlying t=some (.slice e)) (h:DataW.trod enc P w base spare held fuel t [v]=some x):∃a n c,v =.slice a n c:=by
 cases fuel with
 | zero=>simp[DataW.trod]at h
 | succ n =>
   unfold DataW.trod at h
   rw[ht]at h
   cases v with
   | slice a n c=>exact⟨a,n,c,rfl⟩
   | _=>simp at h
theorem KX {n:Int} (h:(Lit.int .u8 n).wf=true):0≤n∧n<256:=by
 have e1:IntKind.u8.min=0:=by decide
 have e2:IntKind.u8.max=255:=by decide
 simp[Lit.wf]at h
 rw[e1,e2]at h
 omega
theorem GX {n:Int} (h:(Lit.int .u64 n).wf=true):0≤n∧n<18446744073709551616:=by
 have e1:IntKind.u64.min=0:=by decide
 have e2:IntKind.u64.max=18446744073709551615:=by decide
 simp[Lit.wf]at h
 rw[e1,e2]at h
 omega
theorem tK {n:Int} (h:(Lit.int .i32 n).wf=true) : -2147483648≤n∧n<2147483648:=by
 have e1:IntKind.i32.min = -2147483648:=by decide
 have e2:IntKind.i32.max=2147483647:=by decide
 simp[Lit.wf]at h
 rw[e1,e2]at h
 omega
theorem lS {n:Int} (h:(Lit.int .i64 n).wf=true) : -9223372036854775808≤n∧n≤9223372036854775807:=by
 simp[Lit.wf]at h
 exact h
theorem get_some {α:Type} {l:List α} {n j:Nat} (h:l.length=n) (hj:j<n):∃y,l[j]? = some y:=⟨l[j]'(by omega),List.getElem?_eq_getElem (by omega)⟩
theorem Dy {α:Type} {n:Nat} {p:Nat→α→Prop} (h:∀i,i<n→∃z,p i z):∃L:List α,L.length=n∧∀j x,L[j]? = some x→p j x:=by
 refine⟨(List.finRange n).map fun i=>Classical.choose (h i.1 i.2),by simp,fun j x hj => ?_⟩
 rw[List.getElem?_map]at hj
 cases hf:(List.finRange n)[j]? with
 | none=>rw[hf]at hj;cases hj
 | some i =>
   rw[hf]at hj
   obtain rfl:Classical.choose (h i.1 i.2)=x:=by simpa using hj
   have hi:i.1=j:=by
    obtain⟨hl,he⟩:=List.getElem?_eq_some_iff.1 hf
    rw[←he];simp
   subst hi
   exact Classical.choose_spec (h i.1 i.2)
set_option maxRecDepth 100000 in
theorem Li {H:Type} {enc:TypeId×Value→H} {w:World} {base:Nat} {spare:Nat→Bool} {held:Bool} {a:Option Addr} {n cap fuel:Nat} {x:DataW H×List MemPlace}
 (h:DataW.trod enc Tryz.prog w base spare held fuel 25 [.slice a n cap]=some x):n≤cap∧n≤9223372036854775807∧∃L:List An,L.length=n∧∀(j:Nat) (x:An),L[j]? = some x→(0≤x.v∧x.v<18446744073709551616)∧∃gb go ba bn bc,a=some ⟨gb,go,none⟩∧w.cell? ⟨gb,go+j*3,none⟩=some (.int .u64 x.v)∧w.cell? ⟨gb,go+j*3+1,none⟩=some (.bool x.dn)∧w.cell? ⟨gb,go+j*3+2,none⟩=some (.slice ba bn bc):=by
 rcases Go.Deep.open_slice Tryz.underlying25 h with⟨hcs,_⟩|⟨y,len,c,m,nn,D,Pl,hcs,hb,hl,hm,hmm,hx,hi⟩
 ·simp at hcs
  obtain⟨-,rfl,rfl⟩:=hcs
  exact⟨Nat.le_refl _,by omega,[],rfl,fun j x hj=>by cases hj⟩
 ·simp only[List.cons.injEq,Value.slice.injEq,and_true]at hcs
  obtain⟨rfl,rfl,rfl⟩:=hcs
  obtain⟨b,off,spot⟩:=y
  have hsp:0<n→spot=none:=by
   intro h0
   obtain⟨cs',hc,-⟩:=hi 0 (by rw[hmm];split<;>omega)
   rw[show Tryz.prog.cellsOf 51=3 by kernel_rfl]at hc
   obtain⟨_,hcl,hat⟩:=World.cells?_some hc
   have c0:=hat 0 (by decide)
   rw[List.getElem?_eq_getElem (by omega)]at c0
   simpa [Addr.add]using World.cell?_spot c0
  have key:∀i,i<n→∃z:An,(0≤z.v∧z.v<18446744073709551616)∧∃gb go ba bn bc,some (⟨b,off,spot⟩:Addr)=some ⟨gb,go,none⟩∧w.cell? ⟨gb,go+i*3,none⟩=some (.int .u64 z.v)∧w.cell? ⟨gb,go+i*3+1,none⟩=some (.bool z.dn)∧w.cell? ⟨gb,go+i*3+2,none⟩=some (.slice ba bn bc):=by
   intro i hin
   have QB:i<m:=by rw[hmm];split<;>omega
   obtain⟨cs',hc,ht'⟩:=hi i QB
   rw[show Tryz.prog.cellsOf 51=3 by kernel_rfl]at hc
   obtain⟨ys,n',_,_,hlen,hyl,hf⟩:=DataW.trod_struct Tryz.underlying51 ht'
   obtain⟨_,hcl,hat⟩:=World.cells?_some hc
   match cs',hcl with
   | [x0,x1,x2],_ =>
     have k0:=hf 0 _ rfl
     have k1:=hf 1 _ rfl
     have k2:=hf 2 _ rfl
     obtain⟨y0,e0⟩:=get_some (j:=0) hyl (by decide)
     obtain⟨y1,e1⟩:=get_some (j:=1) hyl (by decide)
     obtain⟨y2,e2⟩:=get_some (j:=2) hyl (by decide)
     rw[e0]at k0
     rw[e1]at k1
     rw[e2]at k2
     have g0:DataW.trod enc Tryz.prog w base spare held n' 31 [x0]=some y0:=k0
     have g1:DataW.trod enc Tryz.prog w base spare held n' 4 [x1]=some y1:=k1
     have g2:DataW.trod enc Tryz.prog w base spare held n' 32 [x2]=some y2:=k2
     obtain⟨V,q0,_,b0⟩:=DataW.trod_int Tryz.underlying31 g0
     obtain⟨dn,q1,_⟩:=DataW.trod_bool Tryz.underlying4 g1
     obtain⟨ba,bn,bc,rfl⟩:=EH Tryz.underlying32 g2
     simp only[List.cons.injEq,and_true]at q0 q1
     subst q0 q1
     have c0:=hat 0 (by decide)
     have c1:=hat 1 (by decide)
     have c2:=hat 2 (by decide)
     obtain rfl:=hsp (by omega)
     rw[Go.WideShapes.add_plain,Go.WideShapes.add_plain]at c0 c1 c2
     exact⟨⟨V,dn⟩,GX b0,b,off,ba,bn,bc,rfl,c0,c1,c2⟩
  obtain⟨L,hL,hL2⟩:=Dy key
  exact⟨hl,Nat.le_trans hl hm,L,hL,hL2⟩
set_option maxRecDepth 100000 in
theorem Hu {H:Type} {enc:TypeId×Value→H} {w:World} {base:Nat} {held:Bool} {a:Option Addr} {n cap fuel:Nat} {x:DataW H×List MemPlace}
 (h:DataW.trod enc Tryz.prog w base (fun _=>true) held fuel 32 [.slice a n cap]=some x):∃B:List Nat,B.length=n∧Sy.BytesIn w a B∧(∀x∈B,x<256)∧n≤9223372036854775807∧((∃eb eo,a=some ⟨eb,eo,none⟩∧B.length≤cap∧cap≤9223372036854775807)∨(B=[]∧cap=0)):=by
 rcases Go.Deep.open_slice1 Tryz.underlying32 (by kernel_rfl) h with⟨hcs,_⟩|⟨y,len,c,m,nn,V,D,Pl,hcs,hb,hl,hm,hmm,hx,hi⟩
 ·simp at hcs
  obtain⟨-,rfl,rfl⟩:=hcs
  exact⟨[],rfl,fun j x hj=>(by cases hj),fun x hx=>(by cases hx),by omega,.inr ⟨rfl,rfl⟩⟩
 ·simp only[List.cons.injEq,Value.slice.injEq,and_true]at hcs
  obtain⟨rfl,rfl,rfl⟩:=hcs
  obtain⟨b,off,spot⟩:=y
  have hsp:0<cap→spot=none:=fun h0=>by simpa [Addr.add]using World.cell?_spot (hi 0 (by rw[hmm];simp;omega)).1
  have key:∀i,i<n→∃z:Nat,z<256∧∃bb bo,some (⟨b,off,spot⟩:Addr)=some ⟨bb,bo,none⟩∧w.cell? ⟨bb,bo+i,none⟩=some (.int .u8 (z:Int)):=by
   intro i hin
   have QB:i<m:=by rw[hmm];split<;>omega
   obtain⟨h1,h2⟩:=hi i QB
   obtain⟨k,hk,_,hw⟩:=DataW.trod_int Tryz.underlying5 h2
   simp only[List.cons.injEq,and_true]at hk
   have hz:=KX hw
   rw[hk]at h1
   obtain rfl:=hsp (by omega)
   rw[Go.WideShapes.add_plain]at h1
   exact⟨k.toNat,by omega,b,off,rfl,by rw[h1,Int.toNat_of_nonneg hz.1]⟩
  obtain⟨B,hB,hB2⟩:=Dy key
  refine⟨B,hB,fun j x hj=>(hB2 j x hj).2,fun x hx => ?_,Nat.le_trans hl hm,?_⟩
  ·obtain⟨j,hj⟩:=List.mem_iff_getElem?.1 hx
   exact(hB2 j x hj).1
  ·by_cases h0:0<cap
   ·obtain rfl:=hsp h0
    exact .inl ⟨b,off,rfl,by omega,hm⟩
   ·exact .inr ⟨List.eq_nil_of_length_eq_zero (by omega),by omega⟩
set_option maxRecDepth 100000 in
theorem Ni {H:Type} {enc:TypeId×Value→H} {w:World} {base:Nat} {held:Bool} {a:Option Addr} {n cap fuel:Nat} {x:DataW H×List MemPlace}
 (h:DataW.trod enc Tryz.prog w base (fun _=>true) held fuel 24 [.slice a n cap]=some x):n≤cap∧n≤9223372036854775807∧∃L:List gz,L.length=n∧∀(j:Nat) (o:gz),L[j]? = some o→o.data.length≤9223372036854775807∧Sy.oq w a j o:=by
 rcases Go.Deep.open_slice Tryz.underlying24 h with⟨hcs,_⟩|⟨y,len,c,m,nn,D,Pl,hcs,hb,hl,hm,hmm,hx,hi⟩
 ·simp at hcs
  obtain⟨-,rfl,rfl⟩:=hcs
  exact⟨Nat.le_refl _,by omega,[],rfl,fun j x hj=>by cases hj⟩
 ·simp only[List.cons.injEq,Value.slice.injEq,and_true]at hcs
  obtain⟨rfl,rfl,rfl⟩:=hcs
  obtain⟨b,off,spot⟩:=y
  have hsp:0<n→spot=none:=by
   intro h0
   obtain⟨cs',hc,-⟩:=hi 0 (by rw[hmm];split<;>omega)
   rw[show Tryz.prog.cellsOf 67=2 by kernel_rfl]at hc
   obtain⟨_,hcl,hat⟩:=World.cells?_some hc
   have c0:=hat 0 (by decide)
   rw[List.getElem?_eq_getElem (by omega)]at c0
   simpa [Addr.add]using World.cell?_spot c0
  have key:∀i,i<n→∃o:gz,o.data.length≤9223372036854775807∧Sy.oq w (some ⟨b,off,spot⟩) i o:=by
   intro i hin
   have QB:i<m:=by rw[hmm];split<;>omega
   obtain⟨cs',hc,ht'⟩:=hi i QB
   rw[show Tryz.prog.cellsOf 67=2 by kernel_rfl]at hc
   obtain⟨ys,n',_,_,hlen,hyl,hf⟩:=DataW.trod_struct Tryz.underlying67 ht'
   obtain⟨_,hcl,hat⟩:=World.cells?_some hc
   match cs',hcl with
   | [x0,x1],_ =>
     have k0:=hf 0 _ rfl
     have k1:=hf 1 _ rfl
     obtain⟨y0,e0⟩:=get_some (j:=0) hyl (by decide)
     obtain⟨y1,e1⟩:=get_some (j:=1) hyl (by decide)
     rw[e0]at k0
     rw[e1]at k1
     have g0:DataW.trod enc Tryz.prog w base (fun _=>true) held n' 3 [x0]=some y0:=k0
     have g1:DataW.trod enc Tryz.prog w base (fun _=>true) held n' 32 [x1]=some y1:=k1
     obtain⟨V,q0,_,b0⟩:=DataW.trod_int Tryz.underlying3 g0
     obtain⟨ba,bn,bc,rfl⟩:=EH Tryz.underlying32 g1
     simp only[List.cons.injEq,and_true]at q0
     subst q0
     obtain⟨B,rfl,hB1,hB2,hB3,hB4⟩:=Hu g1
     have c0:=hat 0 (by decide)
     have c1:=hat 1 (by decide)
     obtain rfl:=hsp (by omega)
     rw[Go.WideShapes.add_plain,Go.WideShapes.add_plain]at c0 c1
     rw[Nat.mul_comm]at c0 c1
     exact⟨⟨V,B⟩,hB3,b,off,ba,bc,rfl,c0,c1,hB1,hB2,hB4⟩
  obtain⟨L,hL,hL2⟩:=Dy key
  exact⟨hl,Nat.le_trans hl hm,L,hL,hL2⟩
set_option maxRecDepth 100000 in
theorem Nj {H:Type} {enc:TypeId×Value→H} {w:World} {base:Nat} {spare:Nat→Bool} {held:Bool} {cs:Array Value} {fuel:Nat} {x:DataW H×List MemPlace} (hs:cs.size=7)
 (h:DataW.trod enc Tryz.prog w base spare held fuel 23 cs.toList=some x):∃l:Lg,l.wf∧Sy.o8 l∧Value.agg cs=l.val:=by
 obtain⟨x0,x1,x2,x3,x4,x5,x6,hcs⟩:∃x0 x1 x2 x3 x4 x5 x6,cs.toList=[x0,x1,x2,x3,x4,x5,x6]:=by
  match hl:cs.toList,(show cs.toList.length=7 by simpa using hs)with
  | [x0,x1,x2,x3,x4,x5,x6],_=>exact⟨x0,x1,x2,x3,x4,x5,x6,rfl⟩
 rw[hcs]at h
 have e:cs =#[x0,x1,x2,x3,x4,x5,x6]:=Array.ext' (by rw[hcs])
 obtain⟨ys,n',_,_,hlen,hyl,hf⟩:=DataW.trod_struct Tryz.underlying23 h
 have k0:=hf 0 _ rfl
 obtain⟨y0,e0⟩:=get_some (j:=0) hyl (by decide)
 rw[e0]at k0
 have g0:DataW.trod enc Tryz.prog w base spare held n' 3 [x0]=some y0:=k0
 obtain⟨n0,q0,_,b0⟩:=DataW.trod_int Tryz.underlying3 g0
 have k1:=hf 1 _ rfl
 obtain⟨y1,e1⟩:=get_some (j:=1) hyl (by decide)
 rw[e1]at k1
 have g1:DataW.trod enc Tryz.prog w base spare held n' 3 [x1]=some y1:=k1
 obtain⟨n1,q1,_,b1⟩:=DataW.trod_int Tryz.underlying3 g1
 have k2:=hf 2 _ rfl
 obtain⟨y2,e2⟩:=get_some (j:=2) hyl (by decide)
 rw[e2]at k2
 have g2:DataW.trod enc Tryz.prog w base spare held n' 3 [x2]=some y2:=k2
 obtain⟨n2,q2,_,b2⟩:=DataW.trod_int Tryz.underlying3 g2
 have k3:=hf 3 _ rfl
 obtain⟨y3,e3⟩:=get_some (j:=3) hyl (by decide)
 rw[e3]at k3
 have g3:DataW.trod enc Tryz.prog w base spare held n' 3 [x3]=some y3:=k3
 obtain⟨n3,q3,_,b3⟩:=DataW.trod_int Tryz.underlying3 g3
 have k4:=hf 4 _ rfl
 obtain⟨y4,e4⟩:=get_some (j:=4) hyl (by decide)
 rw[e4]at k4
 have g4:DataW.trod enc Tryz.prog w base spare held n' 21 [x4]=some y4:=k4
 obtain⟨n4,q4,_,b4⟩:=DataW.trod_int Tryz.underlying21 g4
 have k5:=hf 5 _ rfl
 obtain⟨y5,e5⟩:=get_some (j:=5) hyl (by decide)
 rw[e5]at k5
 have g5:DataW.trod enc Tryz.prog w base spare held n' 21 [x5]=some y5:=k5
 obtain⟨n5,q5,_,b5⟩:=DataW.trod_int Tryz.underlying21 g5
 have k6:=hf 6 _ rfl
 obtain⟨y6,e6⟩:=get_some (j:=6) hyl (by decide)
 rw[e6]at k6
 have g6:DataW.trod enc Tryz.prog w base spare held n' 21 [x6]=some y6:=k6
 obtain⟨n6,q6,_,b6⟩:=DataW.trod_int Tryz.underlying21 g6
 simp only[List.cons.injEq,and_true]at q0 q1 q2 q3 q4 q5 q6
 subst q0 q1 q2 q3 q4 q5 q6
 have r0:=lS b0
 have r1:=lS b1
 have r2:=lS b2
 have r3:=lS b3
 have r4:=tK b4
 have r5:=tK b5
 have r6:=tK b6
 exact⟨⟨n0,n1,n2,n3,n4,n5,n6⟩,⟨r0.1,r0.2,r1.1,r1.2,r2.1,r2.2,r3.1,r3.2⟩,⟨r4,r5,r6⟩,by rw[e];rfl⟩
set_option maxRecDepth 100000 in
theorem lifted (os:Os) (started:os.Started) (H:Type) (enc:TypeId×Value→H) :
 ReturnsInHanded {} Tryz.checked os 3 .any (fun w args=>(Rows.actorWritesSpec.pre enc Tryz.prog Tryz.f3 [] false w args∧laidMetH Tryz.prog Rows.actorWritesRow.laid w)∧sizedMet enc Tryz.prog Tryz.f3 (OpenSpec.ofChange Rows.actorWritesSpec) false w args)
  (Rows.actorWritesSpec.post enc Tryz.prog Tryz.f3 false true false false):=by
 refine returnsInHanded_of_change_and (C:=Tryz.checked) (X:=fun w _=>laidMetH Tryz.prog Rows.actorWritesRow.laid w) (fun _ _ _ hh h=>h.of_heap hh) own started (by kernel_rfl) Tryz.func3
  (ChangeSpec.witness_shaped (enc:=enc) (C:=Tryz.checked) (os:=os) (X:=fun w _=>laidMetH Tryz.prog Rows.actorWritesRow.laid w) false (World.doorLaid Tryz.prog 400 os) #[.agg #[.int .i64 0,.int .i64 0,.int .i64 0,.int .i64 0,.int .i32 0,.int .i32 0,.int .i32 0],.slice none 0 0,.int .i64 0,.slice none 0 0] 8 rfl (World.shaped_of_RefB (by kernel_rfl) (by kernel_rfl)) (by kernel_rfl) (by kernel_rfl) (by kernel_rfl) (OE os _)) ?_
 intro W base args ds gs before hval0 hW _ _ hL _
 have hval:∀(j:Nat) t v,Tryz.f3.params[j]? = some t→args[j]? = some v→Value.okWide Tryz.prog W .any base t v:=hval0
 have hW':=hW
 obtain⟨p,q,RI,hV,rfl,hfz,hnd⟩:=hW
 have hA:DataW.TrodAll enc Tryz.prog W 0 (fun _=>true) true Tryz.f3.params.toList args.toList ds p:=RI
 rw[Tryz.params3]at hA hval
 obtain⟨v0,vs0,d0,ds0,p0,q0,hargs,rfl,rfl,h0,r0⟩:=trodAll_cons hA
 obtain⟨v1,vs1,d1,ds1,p1,q1,rfl,rfl,rfl,h1,r1⟩:=trodAll_cons r0
 obtain⟨v2,vs2,d2,ds2,p2,q2,rfl,rfl,rfl,h2,r2⟩:=trodAll_cons r1
 obtain⟨v3,vs3,d3,ds3,p3,q3,rfl,rfl,rfl,h3,r3⟩:=trodAll_cons r2
 obtain⟨rfl,rfl,rfl⟩:=trodAll_nil r3
 obtain rfl:args =#[v0,v1,v2,v3]:=by cases args;simp_all
 obtain⟨rfl,rfl⟩:=trodVars_none hV
 obtain⟨cs,rfl,hcs⟩:=okWide_struct Tryz.underlying23 (hval 0 23 v0 rfl rfl)
 obtain⟨la,lN,lc,rfl⟩:=okWide_slice Tryz.underlying24 (hval 1 24 v1 rfl rfl)
 obtain⟨a,n,c,rfl⟩:=okWide_slice Tryz.underlying25 (hval 3 25 v3 rfl rfl)
 have k0:=h0
 have k1:=h1
 have k2:=h2
 have k3:=h3
 have lt0:∀x∈p0,x.block<W.heap.size:=by obtain⟨m,hm⟩:=k0;exact DataW.trod_lt m _ _ _ hm
 have lt1:∀x∈p1,x.block<W.heap.size:=by obtain⟨m,hm⟩:=k1;exact DataW.trod_lt m _ _ _ hm
 have Y2:∀x∈p2,x.block<W.heap.size:=by obtain⟨m,hm⟩:=k2;exact DataW.trod_lt m _ _ _ hm
 have lt3:∀x∈p3,x.block<W.heap.size:=by obtain⟨m,hm⟩:=k3;exact DataW.trod_lt m _ _ _ hm
 obtain⟨l,hlw,hli,hle⟩:∃l:Lg,l.wf∧Sy.o8 l∧Value.agg cs=l.val:=by obtain⟨fuel,hf⟩:=h0;exact Nj (hcs.trans (by kernel_rfl)) hf
 obtain⟨hlc,hln,acts,rfl,RD⟩:lN≤lc∧lN≤9223372036854775807∧∃L:List gz,L.length=lN∧∀(j:Nat) (o:gz),L[j]? = some o→o.data.length≤9223372036854775807∧Sy.oq W la j o:=by obtain⟨fuel,hf⟩:=h1;exact Ni hf
 obtain⟨tries,rfl,rfl,rfl,bt⟩:=open_int Tryz.underlying3 (hval 2 3 v2 rfl rfl) h2
 obtain⟨hcap,hn,L,rfl,XH⟩:n≤c∧n≤9223372036854775807∧∃L:List An,L.length=n∧∀(j:Nat) (x:An),L[j]? = some x→(0≤x.v∧x.v<18446744073709551616)∧∃gb go ba bn bc,a=some ⟨gb,go,none⟩∧W.cell? ⟨gb,go+j*3,none⟩=some (.int .u64 x.v)∧W.cell? ⟨gb,go+j*3+1,none⟩=some (.bool x.dn)∧W.cell? ⟨gb,go+j*3+2,none⟩=some (.slice ba bn bc):=by obtain⟨fuel,hf⟩:=h3;exact Li hf
 have hT:=Qi hL
 clear RI hval0
 have btr:=lS bt
 have hwk:=Sy.WQ l hlw hli acts la lc hlc hln (fun o ho=>by obtain⟨j,hj⟩:=List.mem_iff_getElem?.1 ho;exact(RD j o hj).1) tries ⟨btr.1,by omega⟩ L a c hcap hn W hT XH (fun j o hj=>(RD j o hj).2)
 rw[←hle]at hwk
 refine hwk.mono fun e W' ⟨he,YN⟩ => ?_
 subst he
 exact⟨_,rfl,_,_,_,[],_,[],hW',trodAll_mk1 (shut_bool Tryz.underlying4 _),(trodAll_cons_mk (Below.trod laidOut (by kernel_rfl) (of_decide_eq_true (by kernel_rfl)) k0 YN lt0) (trodAll_cons_mk (Below.trod laidOut (by kernel_rfl) (of_decide_eq_true (by kernel_rfl)) k1 YN lt1) (trodAll_cons_mk (Below.trod laidOut (by kernel_rfl) (of_decide_eq_true (by kernel_rfl)) k2 YN Y2) (trodAll_cons_mk (Below.trod laidOut (by kernel_rfl) (of_decide_eq_true (by kernel_rfl)) k3 YN lt3) trodAll_mk0)))),rfl,YN.frame _,fun h=>by cases h⟩
theorem Ld:Rows.ActorWritesSaid :=
 OpenClaim.holds_of_wide 3 Tryz.f3 rfl rfl rfl rfl rfl rfl rfl ⟨rfl,rfl,rfl,rfl,rfl⟩ rfl rfl rfl rfl rfl (by kernel_rfl) Tryz.func3 (by kernel_rfl)
  (of_decide_eq_true (by kernel_rfl)) (by unfold Func.isWrapper;first|(rw[if_pos (by decide +kernel)];kernel_rfl)|(rw[if_neg (by decide +kernel)];exact⟨rfl,rfl⟩))
  (fun os started H enc _=>lifted os started H enc)
theorem card_holds:Rows.ActorWritesCardSaid :=
 Claim7.holds_tied_plain_at .later [] [.data] true (true,"6a624df83af275de2ef75d617e2127c8a292f35b59b0a59de13038a5647b5647") true
  Ld (fun _ h=>by cases h) (by kernel_rfl) (fun _ h=>by cases h) actorWrites_row_tie rfl ⟨rfl,rfl⟩ (by kernel_rfl) rfl
  (fun f fn hf hfn=>by
    obtain rfl:f=3:=Option.some.inj ((show Tryz.prog.funcNamed Rows.actorWritesRow.func=some 3 by kernel_rfl).symm.trans hf) |>.symm
    obtain rfl:fn=Tryz.f3:=(Option.some.inj (Tryz.func3.symm.trans hfn)).symm
    exact⟨by kernel_rfl,fun j t ht=>by
     rw[Tryz.params3]at ht
     have hm:t∈[23,24,3,25]:=by simpa using Array.mem_of_getElem? ht
     have hall:([23,24,3,25].all fun u => !Tryz.prog.wantsStandIn u)=true:=by kernel_rfl
     exact(show Tryz.prog.wantsStandIn t=false by simpa using List.all_eq_true.1 hall t hm)⟩)
  (by kernel_rfl)
#print axioms card_holds
end Go.Proofs.YtlaogoehmndcjaaGreatDoor
