import Derived.Test.YtlaogoehmndcjaaGreatDoorZ31
import Derived.Test.YtlaogoehmndcjaaGreatDoorZ18
import Derived.Test.YtlaogoehmndcjaaGreatDoorZ19
set_option maxRecDepth 100000
set_option linter.unusedVariables false
set_option linter.unusedSectionVars false
set_option linter.unusedSimpArgs false
namespace Go.Proofs.YtlaogoehmndcjaaGreatDoor.Sy
open Go RowKit Lib AS Base Ba
noncomputable section
theorem uu {n:Int} (h0 : -2147483648≤n:=by omega) (h1:n≤2147483647:=by omega):IntKind.i32.wrap n=n:=by rw[IntKind.wrap_i32];omega
theorem ED {n:Int} (h0:0≤n:=by omega) (h1:n<4294967296:=by omega):IntKind.u32.wrap n=n:=by rw[IntKind.wrap_u32];omega
theorem wu64 {n:Int} (h0:0≤n:=by omega) (h1:n<18446744073709551616:=by omega):IntKind.u64.wrap n=n:=by rw[IntKind.wrap_u64];omega
theorem sG {n:Int}:IntKind.i64.wrap n=iK n:=by rw[IntKind.wrap_i64];rfl
theorem xN {n:Int}:IntKind.i32.wrap n=bF n:=by rw[IntKind.wrap_i32];rfl
theorem VE {n:Int}:IntKind.u32.wrap n=u32 n:=IntKind.wrap_u32 _
theorem GR {n:Int} (h0 : -2147483647≤n:=by omega) (h1:n≤2147483647:=by omega):IntKind.i32.wrap (0-n) = -n:=by rw[IntKind.wrap_i32];omega
theorem VO {x:Int} (h0:0≤x) (h1:x<65536):IntKind.u64.wrap (x*2 ^ (min (48:Int).toNat 64))=281474976710656*x:=by rw[IntKind.wrap_u64,show min (48:Int).toNat 64=48 by decide];omega
theorem VP {x:Int} (h0:0≤x) (h1:x<256):IntKind.u64.wrap (x*2 ^ (min (40:Int).toNat 64))=1099511627776*x:=by rw[IntKind.wrap_u64,show min (40:Int).toNat 64=40 by decide];omega
theorem Ht (k x y:Nat) (hy:y<2 ^ k) (hx:2 ^ k*x+y<18446744073709551616):bits .or .u64 ((2 ^ k*x:Nat):Int) (y:Int)=((2 ^ k*x+y:Nat):Int):=by
 show IntKind.u64.wrap ((BitVec.ofInt 64 ((2 ^ k*x:Nat):Int) ||| BitVec.ofInt 64 (y:Int)).toNat:Int)=_
 rw[BitVec.toNat_or,ofInt_u64 (2 ^ k*x) (by omega),ofInt_u64 y (by omega)]
 have h:=Nat.two_pow_add_eq_or_of_lt hy x
 rw[←h,IntKind.wrap_u64]
 omega
theorem ZC {t f:Int} (h0:0≤t) (h1:t<65536) (h2:0≤f) (h3:f<256):bits .or .u64 (281474976710656*t) (1099511627776*f)=(281474976710656*t)+(1099511627776*f):=by
 obtain⟨x,rfl⟩:=Int.eq_ofNat_of_zero_le h0
 obtain⟨y,rfl⟩:=Int.eq_ofNat_of_zero_le h2
 have:=Ht 48 x (1099511627776*y) (by omega) (by omega)
 rw[show((2 ^ 48*x:Nat):Int)=281474976710656*(x:Int) by omega,show((1099511627776*y:Nat):Int)=1099511627776*(y:Int) by omega]at this
 rw[this];omega
theorem ZE (n:Int) {t f:Int} (h0:0≤t∧t<65536) (h2:0≤f∧f<256):bits .or .u64 ((281474976710656*t)+(1099511627776*f)) (u32 n)=((281474976710656*t)+(1099511627776*f))+u32 n:=by
 obtain⟨x,rfl⟩:=Int.eq_ofNat_of_zero_le h0.1
 obtain⟨y,rfl⟩:=Int.eq_ofNat_of_zero_le h2.1
 obtain⟨z,hz⟩:=Int.eq_ofNat_of_zero_le (bQ n).1
 have hz2:=(bQ n).2
 rw[hz]at hz2 ⊢
 have:=Ht 32 (65536*x+256*y) z (by omega) (by omega)
 rw[show((2 ^ 32*(65536*x+256*y):Nat):Int)=281474976710656*(x:Int)+1099511627776*(y:Int) by omega]at this
 rw[this];omega
theorem VZ (n:Int) {x:Int} (hx:∃t f:Int,x=(281474976710656*t)+(1099511627776*f)∧(0≤t∧t<65536)∧(0≤f∧f<256)):bits .or .u64 x (u32 n)=x+u32 n:=by
 obtain⟨t,f,rfl,h1,h2⟩:=hx
 exact ZE n h1 h2
theorem orz {x:Int} (h0:0≤x) (h1:x<18446744073709551616):bits .or .u64 x 0=x:=by
 obtain⟨y,rfl⟩:=Int.eq_ofNat_of_zero_le h0
 have:=Ht 64 0 0 (by decide) (by decide)
 show IntKind.u64.wrap ((BitVec.ofInt 64 (y:Int) ||| BitVec.ofInt 64 0).toNat:Int)=_
 rw[BitVec.toNat_or,ofInt_u64 y (by omega),IntKind.wrap_u64]
 simp
 omega
theorem jA {l:Lg} (h:l.ok):32≤l.aV∧l.aV≤1024∧l.aV≤l.term/8:=by
 have hb:=h.bounds
 obtain⟨_,_,_,_⟩:=h
 omega
theorem nH {l:Lg} (h:l.ok) {x:Int} (h0:0≤x) (h1:x<4294967296):0≤x*l.term∧x*l.term≤35184372088832:=by
 have hb:=h.bounds
 obtain⟨a,rfl⟩:=Int.eq_ofNat_of_zero_le h0
 obtain⟨b,hb'⟩:=Int.eq_ofNat_of_zero_le (show 0≤l.term by omega)
 rw[hb']at hb ⊢
 have h2:a*b≤4294967296*8192:=Nat.mul_le_mul (by omega) (by omega)
 have h3:((a*b:Nat):Int)=(a:Int)*(b:Int):=by push_cast;rfl
 omega
theorem zn {D:Nat→Value} {n:Nat} {R:List fE} {pl:om} {fr:List Fr} {Tw:World→Prop} (fs ts:List Nat) {f:FuncId} (args:List Value) (v:Value) (hD : @dG ⟨D⟩ n=true) (hR : @dN ⟨D⟩ Tw R) (hP : @gY ⟨D⟩ Tw pl) (hF : @xM ⟨D⟩ fs ts R Tw (fun _=>False) fr []) {w:World} (hT:∀w',Below w.heap.size w w'→Tw w') {args':Array Value} {v':Value}
 (hrun:xR 0 (eB (dz Tryz.prog fs ts R Tw) (jf fr (jD pl)) 60 40 (.fn f) args (kI [])) [] []=[(v,true,[],[])]:=by kernel_rfl)
 (h1:(args.all (within n 0 DP)&&lI DP v)=true:=by kernel_rfl) (ha:(args.map (im D (fun _=>(0,0)))).toArray=args':=by kernel_rfl) (hv:∀V bf,im (dx D V) bf v=v':=by intro _ _;kernel_rfl) :
 Calls Tryz.prog f args' w fun e w'=>e =.returned v'∧Below w.heap.size w w':=by
 letI:bH:=⟨D⟩
 simp only[Bool.and_eq_true]at h1
 have key:=CY mixed (own:=fun _=>False) D (n:=n) hD hR (fun _ _ h=>by cases h) (S:=jf fr (jD pl)) (fun w0 h0=>rq (fun σ m w hM=>h0 w hM.below) hF (nD (fun σ m w hM=>h0 w hM.below) hP)) (A:=[]) (by rfl) h1.1 (by rfl) h1.2 (qs:=[]) hrun (by rfl) (by rfl) (by rfl) (w:=w) (τ:=fun _=>(0,0)) (fun w' hk=>hT w' hk.below) (fun i hi=>absurd hi (Nat.not_lt_zero _)) ⟨fun i p h=>by simp at h,fun i j h=>absurd h (Nat.not_lt_zero _),fun i h=>absurd h (Nat.not_lt_zero _)⟩
 rw[ha]at key
 refine key.mono ?_
 rintro e w' ⟨bf,V,rfl,h,-⟩
 exact⟨by rw[hv],h.left.1,h.left.2.1,h.left.2.2.1,h.left.2.2.2,fun b hb=>h.block b hb (fun i hi=>absurd hi (Nat.not_lt_zero _))⟩
theorem PK (n o s st t fl ty:Int) (hf:0≤fl∧fl<256) (ht:0≤ty∧ty<65536) (w:World):Calls Tryz.prog 198 #[.agg #[.int .i32 n,.int .u8 0,.int .u8 fl,.int .u16 ty,.int .i32 o,.int .i32 s,.int .i32 st,.int .i32 t,.int .u64 0]] w fun e w'=>e =.returned (.agg #[.int .u64 (((281474976710656*ty)+(1099511627776*fl))+(u32 n)),.int .u64 (u32 o+4294967296*u32 s),.int .u64 (u32 st+4294967296*u32 t),.int .u64 0])∧Below w.heap.size w w':=by
 letI:bH:=⟨dl [.int .i32 n,.int .i32 o,.int .i32 s,.int .i32 st,.int .i32 t,.int .u8 fl,.int .u16 ty,.int .u64 ty,.int .u64 (281474976710656*ty),.int .u64 fl,.int .u64 (1099511627776*fl),.int .u64 ((281474976710656*ty)+(1099511627776*fl)),.int .u32 (u32 n),.int .u64 (u32 n),.int .u64 (((281474976710656*ty)+(1099511627776*fl))+(u32 n)),.int .u64 (u32 o+4294967296*u32 s),.int .u64 (u32 st+4294967296*u32 t)]⟩
 have hn:=bQ n
 have hD:dG 17=true:=by kernel_rfl
 have hR:dN (fun _=>True) [⟨(1,158,31),[sym 6],sym 7⟩,⟨(18,31,233),[sym 7,.int .u64 48],sym 8⟩,⟨(1,5,31),[sym 5],sym 9⟩,⟨(18,31,233),[sym 9,.int .u64 40],sym 10⟩,⟨(16,31,31),[sym 8,sym 10],sym 11⟩,⟨(16,31,31),[sym 11,.int .u64 0],sym 11⟩,⟨(1,21,155),[sym 0],sym 12⟩,⟨(1,155,31),[sym 12],sym 13⟩,⟨(16,31,31),[sym 11,sym 13],sym 14⟩]:=rc .u16 .u64 ty ty (wu64) (ri .shl .u64 .u64 ty 48 (.int .u64 (281474976710656*ty)) (KJ (by decide) (VO (by omega) (by omega))) (rc .u8 .u64 fl fl (wu64) (ri .shl .u64 .u64 fl 40 (.int .u64 (1099511627776*fl)) (KJ (by decide) (VP (by omega) (by omega))) (ri .or .u64 .u64 (281474976710656*ty) (1099511627776*fl) (.int .u64 ((281474976710656*ty)+(1099511627776*fl))) (Jf (ZC (by omega) (by omega) (by omega) (by omega))) (ri .or .u64 .u64 ((281474976710656*ty)+(1099511627776*fl)) 0 (.int .u64 ((281474976710656*ty)+(1099511627776*fl))) (Jf (orz (by omega) (by omega))) (rc .i32 .u32 n (u32 n) (IntKind.wrap_u32 _) (rc .u32 .u64 (u32 n) (u32 n) (PO _) (ri .or .u64 .u64 ((281474976710656*ty)+(1099511627776*fl)) (u32 n) (.int .u64 (((281474976710656*ty)+(1099511627776*fl))+(u32 n))) (Jf (VZ _ ⟨ty,fl,rfl,ht,hf⟩)) (gn)))))))))
 have hP:gY (fun _=>True) [(228,[sym 1,sym 2],sym 15),(228,[sym 3,sym 4],sym 16)]:=pq hD (fun W hW=>JH o s W) (pq hD (fun W hW=>JH st t W) (qn))
 have hF:xM [198,228] [5,21,31,158,160,162] [⟨(1,158,31),[sym 6],sym 7⟩,⟨(18,31,233),[sym 7,.int .u64 48],sym 8⟩,⟨(1,5,31),[sym 5],sym 9⟩,⟨(18,31,233),[sym 9,.int .u64 40],sym 10⟩,⟨(16,31,31),[sym 8,sym 10],sym 11⟩,⟨(16,31,31),[sym 11,.int .u64 0],sym 11⟩,⟨(1,21,155),[sym 0],sym 12⟩,⟨(1,155,31),[sym 12],sym 13⟩,⟨(16,31,31),[sym 11,sym 13],sym 14⟩] (fun _=>True) (fun _=>False) []:=fn0
 exact zn (D:=dl [.int .i32 n,.int .i32 o,.int .i32 s,.int .i32 st,.int .i32 t,.int .u8 fl,.int .u16 ty,.int .u64 ty,.int .u64 (281474976710656*ty),.int .u64 fl,.int .u64 (1099511627776*fl),.int .u64 ((281474976710656*ty)+(1099511627776*fl)),.int .u32 (u32 n),.int .u64 (u32 n),.int .u64 (((281474976710656*ty)+(1099511627776*fl))+(u32 n)),.int .u64 (u32 o+4294967296*u32 s),.int .u64 (u32 st+4294967296*u32 t)]) [198,228] [5,21,31,158,160,162] [.agg #[sym 0,.int .u8 0,sym 5,sym 6,sym 1,sym 2,sym 3,sym 4,.int .u64 0]] (.agg #[sym 14,sym 15,sym 16,.int .u64 0]) hD hR hP hF (fun _ _=>trivial)
theorem QJ (n:Int) (h0:0≤n) (h1:n≤131072) (w:World):Calls Tryz.prog 100 #[.int .i64 n] w fun e w'=>e =.returned (.tuple #[.int .i64 (Re (n+32)),.int .i64 0])∧Below w.heap.size w w':=by
 letI:bH:=⟨dl [.int .i64 n,.int .i64 (n+32),.int .i64 (Re (n+32))]⟩
 have hD:dG 3=true:=by kernel_rfl
 have hR:dN (fun _=>True) [⟨(23,3,3),[sym 0,.int .i64 0],.bool false⟩,⟨(25,3,3),[sym 0,.int .i64 131072],.bool false⟩,⟨(10,3,3),[sym 0,.int .i64 32],sym 1⟩]:=r6 .lss n 0 (.bool false) (iG (decide_eq_false (by omega))) (r6 .gtr n 131072 (.bool false) (jZ (decide_eq_false (by omega))) (r6 .add n 32 (.int .i64 (n+32)) (aJ (jP (by omega) (by omega))) (gn)))
 have hP:gY (fun _=>True) [(178,[sym 1,.int .i64 32],.tuple #[sym 2,.int .i64 0])]:=pq hD (fun W hW=>Md (n+32) (by omega) (by omega) W) (qn)
 have hF:xM [100,153,178] [] [⟨(23,3,3),[sym 0,.int .i64 0],.bool false⟩,⟨(25,3,3),[sym 0,.int .i64 131072],.bool false⟩,⟨(10,3,3),[sym 0,.int .i64 32],sym 1⟩] (fun _=>True) (fun _=>False) []:=fn0
 exact zn (D:=dl [.int .i64 n,.int .i64 (n+32),.int .i64 (Re (n+32))]) [100,153,178] [] [sym 0] (.tuple #[sym 2,.int .i64 0]) hD hR hP hF (fun _ _=>trivial)
theorem qp (n:Int) (h0:0≤n) (h1:n≤131072) (w:World):Calls Tryz.prog 100 #[.int .i64 n] w fun e w'=>e =.returned (.tuple #[.int .i64 (aU n),.int .i64 0])∧Below w.heap.size w w':=QJ n h0 h1 w
theorem pW (n o s st t fl ty:Int) (hf:0≤fl∧fl<256) (ht:0≤ty∧ty<65536) (w:World):Calls Tryz.prog 198 #[.agg #[.int .i32 n,.int .u8 0,.int .u8 fl,.int .u16 ty,.int .i32 o,.int .i32 s,.int .i32 st,.int .i32 t,.int .u64 0]] w fun e w'=>e =.returned (.agg #[.int .u64 (qZ n fl ty),.int .u64 (u32 o+4294967296*u32 s),.int .u64 (u32 st+4294967296*u32 t),.int .u64 0])∧Below w.heap.size w w':=by
 have h:=PK n o s st t fl ty hf ht w
 rw[show((281474976710656*ty)+(1099511627776*fl))+(u32 n)=qZ n fl ty by unfold qZ;omega]at h
 exact h
theorem Rn (t o:Int) (h0:0≤o) (h1:o<4294967296) (w:World):Calls Tryz.prog 79 #[.int .i32 t,.int .u32 o] w fun e w'=>e =.returned (.int .u64 (pack t o))∧Below w.heap.size w w':=by
 refine(Ba.Ng t o h0 h1 w).mono ?_
 rintro e w' ⟨rfl,rfl⟩
 exact⟨by rw[show pack t o=o+4294967296*u32 t by unfold pack;omega],Below.refl _ _⟩
theorem Qp (l:Lg) (h:l.ok) (w:World):Calls Tryz.prog 183 #[.int .i64 l.term] w fun e w'=>e =.returned (.int .i64 (l.term*2147483648))∧Below w.heap.size w w':=by
 refine(Ba.Il l.term h.1 w).mono ?_
 rintro e w' ⟨rfl,rfl⟩
 exact⟨rfl,Below.refl _ _⟩
theorem qo {n:Int} (h0:0≤n) (h1:n≤131072):32≤aU n∧aU n≤131136:=by unfold aU;omega
theorem lD (l:cO) (hm:32≤l.aV∧l.aV≤1024):∀(f:Nat) (n:Int),f≤100→0≤n→n≤2000→0≤bB l f n∧bB l f n≤5000+2000*f
 | 0,n,_,h0,h1=>by unfold bB aU;omega
 | f+1,n,hf,h0,h1=>by
   unfold bB
   split
   ·have:=lD l hm f (n-l.aV) (by omega) (by omega) (by omega)
    unfold aU at *
    omega
   ·unfold aU;omega
theorem BZ (l:cO) (hm:32≤l.aV):∀(f:Nat) (n:Int),0≤n→n≤32*f→bB l f n=(max (n-1) 0)/l.aV*aU l.aV+aU (n-(max (n-1) 0)/l.aV*l.aV)
 | 0,n,h0,h1=>by
   obtain rfl:n=0:=by omega
   have:(max ((0:Int)-1) 0)/l.aV=0:=by rw[show max ((0:Int)-1) 0=0 by omega];exact Int.zero_ediv _
   rw[this];simp[bB]
 | f+1,n,h0,h1=>by
   unfold bB
   split
   ·rename_i h
    rw[BZ l hm f (n-l.aV) (by omega) (by omega)]
    have e1:max (n-l.aV-1) 0=n-l.aV-1:=by omega
    have e2:max (n-1) 0=(n-l.aV-1)+l.aV:=by omega
    have e3:(n-l.aV-1+l.aV)/l.aV=(n-l.aV-1)/l.aV+1:=by
     have:=Int.add_mul_ediv_right (n-l.aV-1) 1 (show l.aV≠0 by omega)
     rw[Int.one_mul]at this
     exact this
    rw[e1,e2,e3,Int.add_mul,Int.add_mul,Int.one_mul,Int.one_mul]
    have e4:n-l.aV-(n-l.aV-1)/l.aV*l.aV=n-((n-l.aV-1)/l.aV*l.aV+l.aV):=by omega
    rw[e4]
    omega
   ·rename_i h
    have:(max (n-1) 0)/l.aV=0:=Int.ediv_eq_zero_of_lt (by omega) (by omega)
    rw[this];simp
theorem ZA {x m:Int} (h0:0≤x) (h1:0<m) (h2:x≤1000000):IntKind.i64.wrap (x.tdiv m)=x/m:=by
 have h3:x/m≤x:=Int.ediv_le_self _ h0
 have h4:0≤x/m:=Int.ediv_nonneg h0 (by omega)
 rw[Int.tdiv_eq_ediv_of_nonneg h0,IntKind.wrap_i64];omega
theorem rmx [bH] {Tw:World→Prop} (k:IntKind) (x y:Int) {t u:TypeId} {a b r:Value} {l:List fE} (hl:dN Tw l) (h0:(okB a&&okB b&&okB r)=true:=by kernel_rfl) (hca:bR a =.int k x:=by kernel_rfl) (hcb:bR b =.int k y:=by kernel_rfl) (hcr:bR r =.int k (max x y):=by kernel_rfl):dN Tw (⟨(7,t,u),[a,b],r⟩::l) :=
 dZ (rmm true h0 hca hcb hcr (by show(if y>x then y else x)=max x y;rw[Int.max_def];split<;>split<;>omega)) hl
theorem TD (l:Lg) (hl:l.ok) (k:Nat) (n:Int) (hn:n=(k:Int)) (hk:(k:Int)≤l.term/8) (w:World):Calls Tryz.prog 94 #[.agg #[.int .i64 l.base,.int .i64 l.term,.int .i64 l.aV,.int .i64 l.subs,.int .i32 l.bG,.int .i32 l.dQ,.int .i32 l.str],.int .i64 n] w fun e w'=>e =.returned (.tuple #[.int .i64 ((((max (n-1) 0)/l.aV)*(aU l.aV))+(aU (n-(((max (n-1) 0)/l.aV)*l.aV)))),.int .i64 0])∧Below w.heap.size w w':=by
 letI:bH:=⟨dl [.int .i64 l.base,.int .i64 l.term,.int .i64 l.aV,.int .i64 l.subs,.int .i32 l.bG,.int .i32 l.dQ,.int .i32 l.str,.int .i64 n,.int .i64 (aU l.aV),.int .i64 (n-1),.int .i64 (max (n-1) 0),.int .i64 ((max (n-1) 0)/l.aV),.int .i64 (((max (n-1) 0)/l.aV)*l.aV),.int .i64 (n-(((max (n-1) 0)/l.aV)*l.aV)),.int .i64 (aU (n-(((max (n-1) 0)/l.aV)*l.aV))),.int .i64 (((max (n-1) 0)/l.aV)*(aU l.aV)),.int .i64 ((((max (n-1) 0)/l.aV)*(aU l.aV))+(aU (n-(((max (n-1) 0)/l.aV)*l.aV))))]⟩
 have hlb:=hl.bounds
 have hm:=jA hl
 have b0:0≤(max (n-1) 0)/l.aV:=Int.ediv_nonneg (by omega) (by omega)
 have b1:(max (n-1) 0)/l.aV≤1024:=Int.le_trans (Int.ediv_le_self _ (by omega)) (by omega)
 have b2:(max (n-1) 0)/l.aV*l.aV≤max (n-1) 0:=Int.ediv_mul_le _ (by omega)
 have b3:0≤(max (n-1) 0)/l.aV*l.aV:=Int.mul_nonneg b0 (by omega)
 have b4:=qo (n:=l.aV) (by omega) (by omega)
 have b5:0≤(max (n-1) 0)/l.aV*aU l.aV:=Int.mul_nonneg b0 (by omega)
 have b6:(max (n-1) 0)/l.aV*aU l.aV≤1024*131136:=Int.mul_le_mul b1 b4.2 (by omega) (by omega)
 have b7:=qo (n:=n-(max (n-1) 0)/l.aV*l.aV) (by omega) (by omega)
 have hD:dG 17=true:=by kernel_rfl
 have hR:dN (fun _=>True) [⟨(11,3,3),[sym 7,.int .i64 1],sym 9⟩,⟨(7,3,3),[sym 9,.int .i64 0],sym 10⟩,⟨(13,3,3),[sym 10,sym 2],sym 11⟩,⟨(12,3,3),[sym 11,sym 2],sym 12⟩,⟨(11,3,3),[sym 7,sym 12],sym 13⟩,⟨(12,2,2),[sym 11,sym 8],sym 15⟩,⟨(10,2,2),[sym 15,sym 14],sym 16⟩]:=r6 .sub n 1 (.int .i64 (n-1)) (gq (jP (by omega) (by omega))) (rmx .i64 (n-1) 0 (r6 .quo (max (n-1) 0) l.aV (.int .i64 ((max (n-1) 0)/l.aV)) (dW (by omega) (ZA (by omega) (by omega) (by omega))) (r6 .mul ((max (n-1) 0)/l.aV) l.aV (.int .i64 (((max (n-1) 0)/l.aV)*l.aV)) (gJ (jP (by omega) (by omega))) (r6 .sub n (((max (n-1) 0)/l.aV)*l.aV) (.int .i64 (n-(((max (n-1) 0)/l.aV)*l.aV))) (gq (jP (by omega) (by omega))) (r6 .mul ((max (n-1) 0)/l.aV) (aU l.aV) (.int .i64 (((max (n-1) 0)/l.aV)*(aU l.aV))) (gJ (jP (by omega) (by omega))) (r6 .add (((max (n-1) 0)/l.aV)*(aU l.aV)) (aU (n-(((max (n-1) 0)/l.aV)*l.aV))) (.int .i64 ((((max (n-1) 0)/l.aV)*(aU l.aV))+(aU (n-(((max (n-1) 0)/l.aV)*l.aV))))) (aJ (jP (by omega) (by omega))) (gn)))))))
 have hP:gY (fun _=>True) [(100,[sym 2],.tuple #[sym 8,.int .i64 0]),(100,[sym 13],.tuple #[sym 14,.int .i64 0])]:=pq hD (fun W hW=>qp l.aV (by omega) (by omega) W) (pq hD (fun W hW=>qp (n-(((max (n-1) 0)/l.aV)*l.aV)) (by omega) (by omega) W) (qn))
 have hF:xM [94,100,137] [3,23] [⟨(11,3,3),[sym 7,.int .i64 1],sym 9⟩,⟨(7,3,3),[sym 9,.int .i64 0],sym 10⟩,⟨(13,3,3),[sym 10,sym 2],sym 11⟩,⟨(12,3,3),[sym 11,sym 2],sym 12⟩,⟨(11,3,3),[sym 7,sym 12],sym 13⟩,⟨(12,2,2),[sym 11,sym 8],sym 15⟩,⟨(10,2,2),[sym 15,sym 14],sym 16⟩] (fun _=>True) (fun _=>False) [⟨137,[.agg #[sym 0,sym 1,sym 2,sym 3,sym 4,sym 5,sym 6],sym 7],.dyn (qI (dH l.aV 40 k)),fun i => .tuple #[.complex .f32 31 i,.int .i64 0]⟩]:=Oy hD l hl ⟨hm.1,hm.2.1⟩ k hk fn0 (hb:=by rw[←hn];kernel_rfl)
 exact zn (D:=dl [.int .i64 l.base,.int .i64 l.term,.int .i64 l.aV,.int .i64 l.subs,.int .i32 l.bG,.int .i32 l.dQ,.int .i32 l.str,.int .i64 n,.int .i64 (aU l.aV),.int .i64 (n-1),.int .i64 (max (n-1) 0),.int .i64 ((max (n-1) 0)/l.aV),.int .i64 (((max (n-1) 0)/l.aV)*l.aV),.int .i64 (n-(((max (n-1) 0)/l.aV)*l.aV)),.int .i64 (aU (n-(((max (n-1) 0)/l.aV)*l.aV))),.int .i64 (((max (n-1) 0)/l.aV)*(aU l.aV)),.int .i64 ((((max (n-1) 0)/l.aV)*(aU l.aV))+(aU (n-(((max (n-1) 0)/l.aV)*l.aV))))]) [94,100,137] [3,23] [.agg #[sym 0,sym 1,sym 2,sym 3,sym 4,sym 5,sym 6],sym 7] (.tuple #[sym 16,.int .i64 0]) hD hR hP hF (fun _ _=>trivial)
theorem J6 (l:Lg) (hl:l.ok) (k:Nat) (hk:(k:Int)≤l.term/8) (w:World):Calls Tryz.prog 94 #[l.val,.int .i64 (k:Int)] w fun e w'=>e =.returned (.tuple #[.int .i64 (bB (aP l) 40 (k:Int)),.int .i64 0])∧Below w.heap.size w w':=by
 have h:=TD l hl k k rfl hk w
 have hb:=hl.bounds
 have e:=BZ (aP l) (jA hl).1 40 (k:Int) (by omega) (by omega)
 rw[e]
 exact h
end
end Go.Proofs.YtlaogoehmndcjaaGreatDoor.Sy
namespace Go.Proofs.YtlaogoehmndcjaaGreatDoor.Sy
open Go RowKit Lib AS Base Pr Ba
structure jB (O:Nat→Prop) (w w':World):Prop where
 os:w'.os=w.os
 tape:w'.tape=w.tape
 output:w'.output=w.output
 size:w.heap.size≤w'.heap.size
 block:∀b,b<w.heap.size→¬O b→w'.heap[b]? = w.heap[b]?
def Grow (O:Nat→Prop) (w w':World) (b:Nat):Prop:=O b∨(w.heap.size≤b∧b<w'.heap.size)
structure Own (A:dU) (τ:Nat→Nat×Nat) (rt:Nat×Nat) (O:Nat→Prop):Prop where
 r:τ 0=rt
 o:∀i,i<A.length→O (τ i).1
section
variable {A A':dU} {τ bf:Nat→Nat×Nat} {rt:Nat×Nat} {O:Nat→Prop} {w w':World} {D:Nat→Value}
theorem Own.step (h:Own A τ rt O) (hm:bK A τ w A' bf w') (h0:bf 0=τ 0) (hS:ah w' D A' bf):Own A' bf rt (Grow O w w') :=
 ⟨h0.trans h.r,fun i hi=>by
   rcases hm.new i hi with⟨j,hj,e⟩|h1
   ·exact .inl (by rw[e];exact h.o j hj)
   ·exact .inr ⟨h1,hS.lt hi⟩⟩
theorem Own.jL (h:Own A τ rt O) (hm:bK A τ w A' bf w'):jB O w w' :=
 ⟨hm.os,hm.tape,hm.output,hm.size,fun b hb hn=>hm.block b hb fun i hi e=>hn (e▸h.o i hi)⟩
theorem bE {b o:Nat} (h:w'.heap[b]? = w.heap[b]?):w'.cell? ⟨b,o,none⟩=w.cell? ⟨b,o,none⟩:=by
 simp only[World.cell?,h]
def RowK (W:World) (A:dU) (τ:Nat→Nat×Nat) (O:Nat→Prop) (ba:Option Addr) (B:List Nat):Prop:=∀(j x:Nat),B[j]? = some x→∃bb bo,ba=some ⟨bb,bo,none⟩∧(∀i,i<A.length→(τ i).1≠bb)∧O bb∧W.cell? ⟨bb,bo+j,none⟩=some (.int .u8 (x:Int))
def A9 (W:World) (A:dU) (τ:Nat→Nat×Nat) (O:Nat→Prop) (cb co:Nat) (xs:List Value):Prop:=∀(j:Nat) (v:Value),xs[j]? = some v→(∀i,i<A.length→(τ i).1≠cb)∧O cb∧W.cell? ⟨cb,co+j,none⟩=some v
theorem beside {b o:Nat} {v:Value} (hm:bK A τ w A' bf w') (hn:∀i,i<A.length→(τ i).1≠b) (hO:O b) (hc:w.cell? ⟨b,o,none⟩=some v):(∀i,i<A'.length→(bf i).1≠b)∧Grow O w w' b∧w'.cell? ⟨b,o,none⟩=some v:=by
 have hlt:b<w.heap.size:=World.block_lt_of_cell? w _ hc
 refine⟨fun i hi e => ?_,.inl hO,(bE (hm.block b hlt hn)).trans hc⟩
 rcases hm.new i hi with⟨j,hj,e2⟩|h1
 ·exact hn j hj (e2.symm.trans e)
 ·omega
theorem RowK.step {ba:Option Addr} {B:List Nat} (h:RowK w A τ O ba B) (hm:bK A τ w A' bf w'):RowK w' A' bf (Grow O w w') ba B:=fun j x hx=>by
 obtain⟨bb,bo,e,hn,hO,hc⟩:=h j x hx
 obtain⟨h1,h2,h3⟩:=beside hm hn hO hc
 exact⟨bb,bo,e,h1,h2,h3⟩
theorem A9.step {cb co:Nat} {xs:List Value} (h:A9 w A τ O cb co xs) (hm:bK A τ w A' bf w'):A9 w' A' bf (Grow O w w') cb co xs:=fun j v hv=>by
 obtain⟨hn,hO,hc⟩:=h j v hv
 exact beside hm hn hO hc
theorem RowK.take {ba:Option Addr} {B:List Nat} (h:RowK w A τ O ba B) (k:Nat):RowK w A τ O ba (B.take k):=fun j x hx=>by
 rw[List.getElem?_take]at hx
 split at hx
 ·exact h j x hx
 ·cases hx
theorem RowK.drop {ba:Option Addr} {B:List Nat} (h:RowK w A τ O ba B) {k c:Nat} (hc:B.length≤c):RowK w A τ O (sD ba c k) (B.drop k):=fun j x hx=>by
 rw[List.getElem?_drop]at hx
 have hl:=(List.getElem?_eq_some_iff.1 hx).1
 obtain⟨bb,bo,rfl,hn,hO,hcl⟩:=h (k+j) x hx
 refine⟨bb,bo+k,?_,hn,hO,by rw[Nat.add_assoc];exact hcl⟩
 unfold sD
 rw[if_neg (by omega)]
 simp[Addr.add_mid]
theorem RowK.nil {ba:Option Addr}:RowK w A τ O ba []:=fun j x hx=>by cases hx
theorem RowK.kept {ba:Option Addr} {B:List Nat} (h:RowK w A τ O ba B) {W:World} (hk:Kept (ownB A τ) w W):fK W ba B:=fun j x hx=>by
 obtain⟨bb,bo,e,hn,hO,hc⟩:=h j x hx
 exact⟨bb,bo,e,(bE (hk.block bb (World.block_lt_of_cell? w _ hc) (fun⟨i,hi,e⟩=>hn i hi e))).trans hc⟩
theorem A9.kept {cb co:Nat} {xs:List Value} (h:A9 w A τ O cb co xs) {j:Nat} {v:Value} (hv:xs[j]? = some v) {W:World} (hk:Kept (ownB A τ) w W):W.cell? ⟨cb,co+j,none⟩=some v:=by
 obtain⟨hn,hO,hc⟩:=h j v hv
 exact(bE (hk.block cb (World.block_lt_of_cell? w _ hc) (fun⟨i,hi,e⟩=>hn i hi e))).trans hc
theorem mV.row {n:Nat} {B:List Nat} {v:Value} (h:mV A' bf w w' (qB n B) v):∃g cap,v =.slice (some ⟨g,0,none⟩) n cap∧n≤cap∧RowK w' A' bf (Grow O w w') (some ⟨g,0,none⟩) B:=by
 obtain⟨b,ob,h1,⟨cap,C,rfl,h2,rfl,h3⟩,h4,h5⟩:=h
 refine⟨b,cap,rfl,h2,fun j x hx=>⟨b,0,rfl,h5,.inr ⟨h4,(Array.getElem?_eq_some_iff.1 h1).1⟩,?_⟩⟩
 simp[World.cell?,h1,h3 j x hx]
theorem mV.cut {xs:List Value} {v:Value} (h:mV A' bf w w' (qI xs) v):∃g cap,v =.slice (some ⟨g,0,none⟩) xs.length cap∧A9 w' A' bf (Grow O w w') g 0 xs:=by
 obtain⟨b,ob,h1,⟨cap,C,rfl,h2,rfl,h3⟩,h4,h5⟩:=h
 refine⟨b,cap,rfl,fun j x hx=>⟨h5,.inr ⟨h4,(Array.getElem?_eq_some_iff.1 h1).1⟩,?_⟩⟩
 simp[World.cell?,h1,h3 j x hx]
end
theorem rz (m:Int) (f:Nat) (n:Int):0<(dH m f n).length:=by
 cases f with
 | zero=>simp[dH]
 | succ f=>unfold dH;split<;>simp
theorem Aj (m:Int):∀(f:Nat) (n:Int),(dH m f n).length≤f+1
 | 0,n=>by simp[dH]
 | f+1,n=>by
   unfold dH
   split
   ·have:=Aj m f (n-m);simp;omega
   ·simp
theorem O3 {l:Lg} (hl:l.ok) (s:jU) {C:List Value} {F i:Nat} (first:Bool) (off:Int) {b:List Nat} (hd:C.drop i=dH l.aV (F+1) b.length) (hF:b.length≤32*(F+1)) (hb:b.length≤1000) :
 ∃(c:Nat) (last:Bool) (k:Pr An Ot),C[i]? = some (.int .i64 (c:Int))∧c≤b.length∧c≤1000∧(b.take c).length=c∧i+1≤C.length∧(last=true↔i+1=C.length)∧framesT (aP l) s (F+1) first off b=Cg (aP l) s off first last (b.take c) k ∧
  ((i+1=C.length∧k =.done ⟨s,true,fI (aP l) s,0⟩)∨(∃F',i+1<C.length∧k=framesT (aP l) s (F'+1) false (off+aU c) (b.drop c)∧C.drop (i+1)=dH l.aV (F'+1) (b.drop c).length∧(b.drop c).length≤32*(F'+1))):=by
 have hm:=jA hl
 have hlen:C.length=i+(dH l.aV (F+1) b.length).length:=by
  have h1:=congrArg List.length hd
  rw[List.length_drop]at h1
  have:=rz l.aV (F+1) b.length
  omega
 have hhead:C[i]? =(dH l.aV (F+1) b.length)[0]? := by rw[←hd,List.getElem?_drop];rfl
 by_cases h:(b.length:Int)≤l.aV
 ·rw[xE (by omega)]at hhead hlen
  refine⟨b.length,true,.done ⟨s,true,fI (aP l) s,0⟩,hhead,Nat.le_refl _,hb,by simp,by simp at hlen;omega,by simp at hlen;simp;omega,?_,.inl ⟨by simp at hlen;omega,rfl⟩⟩
  rw[List.take_length]
  exact DV (aP l) s F first off b h
 ·rw[tT (by omega)]at hhead hlen
  obtain⟨m,hmm⟩:=Int.eq_ofNat_of_zero_le (show 0≤l.aV by omega)
  obtain⟨F',rfl⟩:∃F',F=F'+1:=⟨F-1,by omega⟩
  have hp:=rz l.aV (F'+1) ((b.length:Int)-l.aV)
  simp only[List.length_cons]at hlen
  have hdl:(((b.drop m).length:Nat):Int)=(b.length:Int)-l.aV:=by rw[List.length_drop];omega
  refine⟨m,false,framesT (aP l) s (F'+1) false (off+aU m) (b.drop m),by rw[hhead,hmm];rfl,by omega,by omega,by rw[List.length_take];omega,by omega,by simp;omega,?_,.inr ⟨F',by omega,rfl,?_,by rw[List.length_drop];omega⟩⟩
  ·have:=DU (aP l) s (F'+1) first off b (by simpa [aP]using h) (by show 0≤l.aV;omega)
   rw[show(aP l).aV.toNat=m by show l.aV.toNat=m;omega,show(aP l).aV=(m:Int)from hmm]at this
   exact this
  ·rw[←List.drop_drop,hd,tT (by omega),hdl]
   rfl
