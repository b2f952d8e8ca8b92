import Derived.Test.YtlaogoehmndcjaaGreatDoorZ20
import Derived.Test.YtlaogoehmndcjaaGreatDoorProg
import Derived.WalkKit
import Derived.WalkSpells
import Derived.Lib.Hide
import Derived.WalkSmall
import Derived.Laws.DeepBits32
import Derived.Deep.QuietTactic
import Derived.BigQuiet
import Derived.Test.YtlaogoehmndcjaaGreatDoorZ19
import Derived.Test.YtlaogoehmndcjaaGreatDoorZ16
set_option maxHeartbeats 3200000
set_option maxRecDepth 1000000
set_option linter.unusedSectionVars false
set_option linter.unusedVariables false
set_option linter.unusedSimpArgs false
namespace Go.Proofs.YtlaogoehmndcjaaGreatDoor.Ba
open Go RowKit Lib Base
def AZ (w:World) (b off n:Nat) (B:Nat→Nat):Prop:=∀j,j<n→w.cell? ⟨b,off+j,none⟩=some (.int .u8 (B j:Nat))
theorem AZ.below {w w':World} {b off n s:Nat} {B:Nat→Nat} (h:AZ w b off n B) (hl:b<s) (hb:Below s w w'):AZ w' b off n B :=
 fun j hj=>(hb.cell (p:=⟨b,off+j,none⟩) hl).trans (h j hj)
theorem Dj (b off n cap:Nat) (B:Nat→Nat) (hB:∀j,B j<256) (m:Nat) (hm:m=min n 8) (hb:n<4611686018427387904) (w:World) (hr:AZ w b off n B) :
 Calls Tryz.prog 120 #[.slice (some ⟨b,off,none⟩) n cap] w fun e w'=>e =.returned (.int .u64 (sU B 0 m:Nat))∧w'=w:=by
 have hm8:m≤8:=by omega
 have hmn:m≤n:=by omega
 have key:∀k:Nat,k<m→sU B k (m-k)=B k+256*sU B (k+1) (m-(k+1))∧sU B (k+1) (m-(k+1))<72057594037927936∧B k<256:=by
  intro k hk
  refine⟨by rw[show m-k=(m-(k+1))+1 by omega,sU],?_,hB k⟩
  have l1:=J4 hB (m-(k+1)) (k+1)
  have l3:256 ^ (m-(k+1))≤256 ^ 7:=Nat.pow_le_pow_right (by omega) (by omega)
  have l5:(256:Nat) ^ 7=72057594037927936:=by decide
  omega
 have hkz:sU B m (m-m)=0:=by rw[Nat.sub_self];rfl
 rcases Nat.lt_or_ge 8 n with h|h
 ·obtain rfl:m=8:=by omega
  have h8':¬(n:Int)≤8:=by omega
  clear hm hm8 hmn
  go_enter Tryz.func120,Tryz.ntmps120
  go_wp2
  go_loopw [3,4] (fun s t wr=>∃k:Nat,k≤8∧t =.int .i64 ((k:Int)-1)∧s =.int .u64 (sU B k (8-k):Nat)∧wr=w) (fun _ t _=>(intOf t+1).toNat)
  case atStart=>exact⟨8,by omega,rfl,by rw[hkz];rfl,rfl⟩
  case round =>
   obtain⟨k,hk,rfl,rfl,rfl⟩:=hrel
   by_cases hlt:0<k
   ·obtain⟨q,rfl⟩:∃q,k=q+1:=⟨k-1,by omega⟩
    obtain⟨e1,e2,e3⟩:=key q (by omega)
    have c0:=hr q (by omega)
    have HK:=aC (aR e1 hkz)
    clear e1 hkz key
    obtain⟨x,hx⟩:∃x,sU B (q+1) (8-(q+1))=x:=⟨_,rfl⟩
    rw[hx]at e2 ⊢
    have hq:(((q+1:Nat):Int)-1)=(q:Int):=by omega
    rw[hq]
    have h0:(q:Int)≥0:=by omega
    have h1:(q:Int)<(n:Int):=by omega
    go_wp2
    refine⟨⟨q,by omega,rfl,?_,trivial⟩,by simp[intOf]⟩
    rw[HK.out.1,hx]
    congr 1
    push_cast
    omega
   ·obtain rfl:k=0:=by omega
    have h0:¬(((0:Nat):Int)-1)≥0:=by omega
    go_wp2
    go_ret
    exact⟨rfl,rfl⟩
 ·obtain rfl:m=n:=by omega
  have h8':(m:Int)≤8:=by omega
  clear hm hmn
  go_enter Tryz.func120,Tryz.ntmps120
  go_wp2
  go_loopw [3,4] (fun s t wr=>∃k:Nat,k≤m∧t =.int .i64 ((k:Int)-1)∧s =.int .u64 (sU B k (m-k):Nat)∧wr=w) (fun _ t _=>(intOf t+1).toNat)
  case atStart=>exact⟨m,by omega,rfl,by rw[hkz];rfl,rfl⟩
  case round =>
   obtain⟨k,hk,rfl,rfl,rfl⟩:=hrel
   by_cases hlt:0<k
   ·obtain⟨q,rfl⟩:∃q,k=q+1:=⟨k-1,by omega⟩
    obtain⟨e1,e2,e3⟩:=key q (by omega)
    have c0:=hr q (by omega)
    have HK:=aC (aR e1 hkz)
    clear e1 hkz key
    obtain⟨x,hx⟩:∃x,sU B (q+1) (m-(q+1))=x:=⟨_,rfl⟩
    rw[hx]at e2 ⊢
    have hq:(((q+1:Nat):Int)-1)=(q:Int):=by omega
    rw[hq]
    have h0:(q:Int)≥0:=by omega
    have h1:(q:Int)<(m:Int):=by omega
    go_wp2
    refine⟨⟨q,by omega,rfl,?_,trivial⟩,by simp[intOf]⟩
    rw[HK.out.1,hx]
    congr 1
    push_cast
    omega
   ·obtain rfl:k=0:=by omega
    have h0:¬(((0:Nat):Int)-1)≥0:=by omega
    go_wp2
    go_ret
    exact⟨rfl,rfl⟩
end Go.Proofs.YtlaogoehmndcjaaGreatDoor.Ba
namespace Go.Proofs.YtlaogoehmndcjaaGreatDoor.Sy
open Go RowKit AS Base Ba
noncomputable section
theorem iM {X Y:Int} (h0:0≤X) (h1:X<18446744073709551616) (h:X/256=Y):IntKind.u64.wrap (X.tdiv 256)=Y:=by
 rw[IntKind.wrap_u64,Int.tdiv_eq_ediv_of_nonneg h0];omega
theorem Bc {X:Int} (h0:0≤X) (h1:X<256):IntKind.u8.wrap X=X:=by rw[IntKind.wrap_u8];omega
theorem M9 {bb oo:Nat} {W:World} {l:List Int} (hl:∀x∈l,0≤x) (hr:W.rangeAt bb oo (l.map fun x => .int .u8 x)):AZ W bb oo l.length (fun j=>(l.getD j 0).toNat):=by
 intro j hj
 have hx:l[j]? = some l[j]:=List.getElem?_eq_getElem hj
 rw[hr j (.int .u8 l[j]) (by rw[List.getElem?_map,hx];rfl)]
 have:0≤l[j]:=hl _ (List.getElem_mem hj)
 congr 2
 simp only[List.getD,hx,Option.getD_some]
 omega
theorem yF (x0 x1 x2 x3 x4 x5 x6 x7:Int) (bb oo cap:Nat) (W:World) (v:Int) (h0:0≤x0∧x0<256) (h1:0≤x1∧x1<256) (h2:0≤x2∧x2<256) (h3:0≤x3∧x3<256) (h4:0≤x4∧x4<256) (h5:0≤x5∧x5<256) (h6:0≤x6∧x6<256) (h7:0≤x7∧x7<256)
 (hv:x0+256*x1+65536*x2+16777216*x3+4294967296*x4+1099511627776*x5+281474976710656*x6+72057594037927936*x7=v)
 (hr:W.rangeAt bb oo [.int .u8 x0,.int .u8 x1,.int .u8 x2,.int .u8 x3,.int .u8 x4,.int .u8 x5,.int .u8 x6,.int .u8 x7]):Calls Tryz.prog 120 #[.slice (some ⟨bb,oo,none⟩) 8 cap] W fun e w'=>e =.returned (.int .u64 v)∧Below W.heap.size W w':=by
 have hR:=M9 (l:=[x0,x1,x2,x3,x4,x5,x6,x7]) (by intro x hx;simp only[List.mem_cons,List.not_mem_nil,or_false]at hx;rcases hx with rfl|rfl|rfl|rfl|rfl|rfl|rfl|rfl<;>first|exact h0.1|exact h1.1|exact h2.1|exact h3.1|exact h4.1|exact h5.1|exact h6.1|exact h7.1) hr
 have hx:sU (fun j=>([x0,x1,x2,x3,x4,x5,x6,x7].getD j 0).toNat) 0 8=v.toNat:=by
  obtain⟨y0,rfl⟩:=Int.eq_ofNat_of_zero_le h0.1
  obtain⟨y1,rfl⟩:=Int.eq_ofNat_of_zero_le h1.1
  obtain⟨y2,rfl⟩:=Int.eq_ofNat_of_zero_le h2.1
  obtain⟨y3,rfl⟩:=Int.eq_ofNat_of_zero_le h3.1
  obtain⟨y4,rfl⟩:=Int.eq_ofNat_of_zero_le h4.1
  obtain⟨y5,rfl⟩:=Int.eq_ofNat_of_zero_le h5.1
  obtain⟨y6,rfl⟩:=Int.eq_ofNat_of_zero_le h6.1
  obtain⟨y7,rfl⟩:=Int.eq_ofNat_of_zero_le h7.1
  show y0+256*(y1+256*(y2+256*(y3+256*(y4+256*(y5+256*(y6+256*(y7+256*0)))))))=v.toNat
  clear hr hR h0 h1 h2 h3 h4 h5 h6 h7
  omega
 have hB:∀j,(fun j=>([x0,x1,x2,x3,x4,x5,x6,x7].getD j 0).toNat) j<256:=fun j=>by
  have q:∀x:Int,0≤x∧x<256→x.toNat<256:=fun x h=>by omega
  match j with
  | 0=>exact q _ h0
  | 1=>exact q _ h1
  | 2=>exact q _ h2
  | 3=>exact q _ h3
  | 4=>exact q _ h4
  | 5=>exact q _ h5
  | 6=>exact q _ h6
  | 7=>exact q _ h7
  | j+8=>exact Nat.zero_lt_succ _
 have hv0:0≤v:=by omega
 have:=Dj bb oo 8 cap _ hB 8 rfl (by omega) W hR
 rw[hx]at this
 refine this.mono ?_
 rintro e w' ⟨rfl,rfl⟩
 rw[Int.toNat_of_nonneg hv0]
 exact⟨rfl,Below.refl _ _⟩
abbrev Zr (n o s st t g ty N O S ST TT:Int):List Value:=[iI n,iI o,iI s,iI st,iI t,iB g,iS ty,iL n,iW N,iW (N%256),iB (N%256),iW (N/256),iW (N/256%256),iB (N/256%256),iW (N/65536),iW (N/65536%256),iB (N/65536%256),iW (N/16777216),iW (N/16777216%256),iB (N/16777216%256),iW (N/4294967296),iL ty,iW ty,iW (ty%256),iB (ty%256),iW (ty/256),iW (ty/256%256),iB (ty/256%256),iW (ty/65536),iL o,iW O,iW (O%256),iB (O%256),iW (O/256),iW (O/256%256),iB (O/256%256),iW (O/65536),iW (O/65536%256),iB (O/65536%256),iW (O/16777216),iW (O/16777216%256),iB (O/16777216%256),iW (O/4294967296),iL s,iW S,iW (S%256),iB (S%256),iW (S/256),iW (S/256%256),iB (S/256%256),iW (S/65536),iW (S/65536%256),iB (S/65536%256),iW (S/16777216),iW (S/16777216%256),iB (S/16777216%256),iW (S/4294967296),iL st,iW ST,iW (ST%256),iB (ST%256),iW (ST/256),iW (ST/256%256),iB (ST/256%256),iW (ST/65536),iW (ST/65536%256),iB (ST/65536%256),iW (ST/16777216),iW (ST/16777216%256),iB (ST/16777216%256),iW (ST/4294967296),iL t,iW TT,iW (TT%256),iB (TT%256),iW (TT/256),iW (TT/256%256),iB (TT/256%256),iW (TT/65536),iW (TT/65536%256),iB (TT/65536%256),iW (TT/16777216),iW (TT/16777216%256),iB (TT/16777216%256),iW (TT/4294967296),iW (N%4294967296+4294967296*(256*g+65536*ty)),iW (O%4294967296+4294967296*(S%4294967296)),iW (ST%4294967296+4294967296*(TT%4294967296))]
abbrev wfR:List fE:=[⟨(1,21,2),[sym 0],sym 7⟩,⟨(1,2,31),[sym 7],sym 8⟩,⟨(14,31,31),[sym 8,.int .u64 256],sym 9⟩,⟨(1,31,5),[sym 9],sym 10⟩,⟨(13,31,31),[sym 8,.int .u64 256],sym 11⟩,⟨(14,31,31),[sym 11,.int .u64 256],sym 12⟩,⟨(1,31,5),[sym 12],sym 13⟩,⟨(13,31,31),[sym 11,.int .u64 256],sym 14⟩,⟨(14,31,31),[sym 14,.int .u64 256],sym 15⟩,⟨(1,31,5),[sym 15],sym 16⟩,⟨(13,31,31),[sym 14,.int .u64 256],sym 17⟩,⟨(14,31,31),[sym 17,.int .u64 256],sym 18⟩,⟨(1,31,5),[sym 18],sym 19⟩,⟨(13,31,31),[sym 17,.int .u64 256],sym 20⟩,⟨(1,158,2),[sym 6],sym 21⟩,⟨(1,2,31),[sym 21],sym 22⟩,⟨(14,31,31),[sym 22,.int .u64 256],sym 23⟩,⟨(1,31,5),[sym 23],sym 24⟩,⟨(13,31,31),[sym 22,.int .u64 256],sym 25⟩,⟨(14,31,31),[sym 25,.int .u64 256],sym 26⟩,⟨(1,31,5),[sym 26],sym 27⟩,⟨(13,31,31),[sym 25,.int .u64 256],sym 28⟩,⟨(1,21,2),[sym 1],sym 29⟩,⟨(1,2,31),[sym 29],sym 30⟩,⟨(14,31,31),[sym 30,.int .u64 256],sym 31⟩,⟨(1,31,5),[sym 31],sym 32⟩,⟨(13,31,31),[sym 30,.int .u64 256],sym 33⟩,⟨(14,31,31),[sym 33,.int .u64 256],sym 34⟩,⟨(1,31,5),[sym 34],sym 35⟩,⟨(13,31,31),[sym 33,.int .u64 256],sym 36⟩,⟨(14,31,31),[sym 36,.int .u64 256],sym 37⟩,⟨(1,31,5),[sym 37],sym 38⟩,⟨(13,31,31),[sym 36,.int .u64 256],sym 39⟩,⟨(14,31,31),[sym 39,.int .u64 256],sym 40⟩,⟨(1,31,5),[sym 40],sym 41⟩,⟨(13,31,31),[sym 39,.int .u64 256],sym 42⟩,⟨(1,21,2),[sym 2],sym 43⟩,⟨(1,2,31),[sym 43],sym 44⟩,⟨(14,31,31),[sym 44,.int .u64 256],sym 45⟩,⟨(1,31,5),[sym 45],sym 46⟩,⟨(13,31,31),[sym 44,.int .u64 256],sym 47⟩,⟨(14,31,31),[sym 47,.int .u64 256],sym 48⟩,⟨(1,31,5),[sym 48],sym 49⟩,⟨(13,31,31),[sym 47,.int .u64 256],sym 50⟩,⟨(14,31,31),[sym 50,.int .u64 256],sym 51⟩,⟨(1,31,5),[sym 51],sym 52⟩,⟨(13,31,31),[sym 50,.int .u64 256],sym 53⟩,⟨(14,31,31),[sym 53,.int .u64 256],sym 54⟩,⟨(1,31,5),[sym 54],sym 55⟩,⟨(13,31,31),[sym 53,.int .u64 256],sym 56⟩,⟨(1,21,2),[sym 3],sym 57⟩,⟨(1,2,31),[sym 57],sym 58⟩,⟨(14,31,31),[sym 58,.int .u64 256],sym 59⟩,⟨(1,31,5),[sym 59],sym 60⟩,⟨(13,31,31),[sym 58,.int .u64 256],sym 61⟩,⟨(14,31,31),[sym 61,.int .u64 256],sym 62⟩,⟨(1,31,5),[sym 62],sym 63⟩,⟨(13,31,31),[sym 61,.int .u64 256],sym 64⟩,⟨(14,31,31),[sym 64,.int .u64 256],sym 65⟩,⟨(1,31,5),[sym 65],sym 66⟩,⟨(13,31,31),[sym 64,.int .u64 256],sym 67⟩,⟨(14,31,31),[sym 67,.int .u64 256],sym 68⟩,⟨(1,31,5),[sym 68],sym 69⟩,⟨(13,31,31),[sym 67,.int .u64 256],sym 70⟩,⟨(1,21,2),[sym 4],sym 71⟩,⟨(1,2,31),[sym 71],sym 72⟩,⟨(14,31,31),[sym 72,.int .u64 256],sym 73⟩,⟨(1,31,5),[sym 73],sym 74⟩,⟨(13,31,31),[sym 72,.int .u64 256],sym 75⟩,⟨(14,31,31),[sym 75,.int .u64 256],sym 76⟩,⟨(1,31,5),[sym 76],sym 77⟩,⟨(13,31,31),[sym 75,.int .u64 256],sym 78⟩,⟨(14,31,31),[sym 78,.int .u64 256],sym 79⟩,⟨(1,31,5),[sym 79],sym 80⟩,⟨(13,31,31),[sym 78,.int .u64 256],sym 81⟩,⟨(14,31,31),[sym 81,.int .u64 256],sym 82⟩,⟨(1,31,5),[sym 82],sym 83⟩,⟨(13,31,31),[sym 81,.int .u64 256],sym 84⟩]
theorem GQ (Tw:World→Prop):zx 0 (eB (dz Tryz.prog [75,118,120,122,168] [5,21,31,32,158,160,162,263] wfR Tw) (Sw [⟨120,[.slice (some ⟨81,0,none⟩) 8 18446744073709551616],[(81,0,[sym 10,sym 13,sym 16,sym 19,.int .u8 0,sym 5,sym 24,sym 27])],sym 85⟩,⟨120,[.slice (some ⟨81,8,none⟩) 8 18446744073709551616],[(81,8,[sym 32,sym 35,sym 38,sym 41,sym 46,sym 49,sym 52,sym 55])],sym 86⟩,⟨120,[.slice (some ⟨81,16,none⟩) 8 18446744073709551616],[(81,16,[sym 60,sym 63,sym 66,sym 69,sym 74,sym 77,sym 80,sym 83])],sym 87⟩,⟨120,[.slice (some ⟨81,24,none⟩) 8 18446744073709551616],[(81,24,[.int .u8 0,.int .u8 0,.int .u8 0,.int .u8 0,.int .u8 0,.int .u8 0,.int .u8 0,.int .u8 0])],.int .u64 0⟩] (jD [])) 60 40 (.fn 75) [.agg #[sym 0,.int .u8 0,sym 5,sym 6,sym 1,sym 2,sym 3,sym 4,.int .u64 0]] (kI [])) []=[(.agg #[sym 85,sym 86,sym 87,.int .u64 0],true,[])]:=by kernel_rfl
theorem R9 (n o s st t g ty:Int) (hg:0≤g∧g<256) (hty:0≤ty∧ty<256) (hn : -2147483648≤n∧n<2147483648) (ho : -2147483648≤o∧o<2147483648) (hs : -2147483648≤s∧s<2147483648) (hst : -2147483648≤st∧st<2147483648) (ht : -2147483648≤t∧t<2147483648) {N:Int} (hN:IntKind.u64.wrap n=N) (bN:0≤N∧N<18446744073709551616) {O:Int} (hO:IntKind.u64.wrap o=O) (bO:0≤O∧O<18446744073709551616) {S:Int} (hS:IntKind.u64.wrap s=S) (bS:0≤S∧S<18446744073709551616) {ST:Int} (hST:IntKind.u64.wrap st=ST) (bST:0≤ST∧ST<18446744073709551616) {TT:Int} (Za:IntKind.u64.wrap t=TT) (bTT:0≤TT∧TT<18446744073709551616)   (w:World):Calls Tryz.prog 75 #[.agg #[.int .i32 n,.int .u8 0,.int .u8 g,.int .u16 ty,.int .i32 o,.int .i32 s,.int .i32 st,.int .i32 t,.int .u64 0]] w fun e w'=>e =.returned (.agg #[.int .u64 (N%4294967296+4294967296*(256*g+65536*ty)),.int .u64 (O%4294967296+4294967296*(S%4294967296)),.int .u64 (ST%4294967296+4294967296*(TT%4294967296)),.int .u64 0])∧Below w.heap.size w w':=by
 letI:bH:=⟨dl (Zr n o s st t g ty N O S ST TT)⟩
 have hD:((List.range 88).all fun i=>(dl (Zr n o s st t g ty N O S ST TT) i).oneCell')=true:=by kernel_rfl
 exact EO (Tw:=fun _=>True) mixed (dl (Zr n o s st t g ty N O S ST TT)) hD (rc .i32 .i64 n n ((by rw[IntKind.wrap_i64];omega)) (rc .i64 .u64 n N (hN) (ri .rem .u64 .u64 N 256 (.int .u64 (N%256)) (eF (by decide) (Int.tmod_eq_emod_of_nonneg (by omega))) (rc .u64 .u8 (N%256) (N%256) (Bc (by omega) (by omega)) (ri .quo .u64 .u64 N 256 (.int .u64 (N/256)) (dW (by decide) (iM (by omega) (by omega) (by omega))) (ri .rem .u64 .u64 (N/256) 256 (.int .u64 (N/256%256)) (eF (by decide) (Int.tmod_eq_emod_of_nonneg (by omega))) (rc .u64 .u8 (N/256%256) (N/256%256) (Bc (by omega) (by omega)) (ri .quo .u64 .u64 (N/256) 256 (.int .u64 (N/65536)) (dW (by decide) (iM (by omega) (by omega) (by omega))) (ri .rem .u64 .u64 (N/65536) 256 (.int .u64 (N/65536%256)) (eF (by decide) (Int.tmod_eq_emod_of_nonneg (by omega))) (rc .u64 .u8 (N/65536%256) (N/65536%256) (Bc (by omega) (by omega)) (ri .quo .u64 .u64 (N/65536) 256 (.int .u64 (N/16777216)) (dW (by decide) (iM (by omega) (by omega) (by omega))) (ri .rem .u64 .u64 (N/16777216) 256 (.int .u64 (N/16777216%256)) (eF (by decide) (Int.tmod_eq_emod_of_nonneg (by omega))) (rc .u64 .u8 (N/16777216%256) (N/16777216%256) (Bc (by omega) (by omega)) (ri .quo .u64 .u64 (N/16777216) 256 (.int .u64 (N/4294967296)) (dW (by decide) (iM (by omega) (by omega) (by omega))) (rc .u16 .i64 ty ty ((by rw[IntKind.wrap_i64];omega)) (rc .i64 .u64 ty ty ((by rw[IntKind.wrap_u64];omega)) (ri .rem .u64 .u64 ty 256 (.int .u64 (ty%256)) (eF (by decide) (Int.tmod_eq_emod_of_nonneg (by omega))) (rc .u64 .u8 (ty%256) (ty%256) (Bc (by omega) (by omega)) (ri .quo .u64 .u64 ty 256 (.int .u64 (ty/256)) (dW (by decide) (iM (by omega) (by omega) (by omega))) (ri .rem .u64 .u64 (ty/256) 256 (.int .u64 (ty/256%256)) (eF (by decide) (Int.tmod_eq_emod_of_nonneg (by omega))) (rc .u64 .u8 (ty/256%256) (ty/256%256) (Bc (by omega) (by omega)) (ri .quo .u64 .u64 (ty/256) 256 (.int .u64 (ty/65536)) (dW (by decide) (iM (by omega) (by omega) (by omega))) (rc .i32 .i64 o o ((by rw[IntKind.wrap_i64];omega)) (rc .i64 .u64 o O (hO) (ri .rem .u64 .u64 O 256 (.int .u64 (O%256)) (eF (by decide) (Int.tmod_eq_emod_of_nonneg (by omega))) (rc .u64 .u8 (O%256) (O%256) (Bc (by omega) (by omega)) (ri .quo .u64 .u64 O 256 (.int .u64 (O/256)) (dW (by decide) (iM (by omega) (by omega) (by omega))) (ri .rem .u64 .u64 (O/256) 256 (.int .u64 (O/256%256)) (eF (by decide) (Int.tmod_eq_emod_of_nonneg (by omega))) (rc .u64 .u8 (O/256%256) (O/256%256) (Bc (by omega) (by omega)) (ri .quo .u64 .u64 (O/256) 256 (.int .u64 (O/65536)) (dW (by decide) (iM (by omega) (by omega) (by omega))) (ri .rem .u64 .u64 (O/65536) 256 (.int .u64 (O/65536%256)) (eF (by decide) (Int.tmod_eq_emod_of_nonneg (by omega))) (rc .u64 .u8 (O/65536%256) (O/65536%256) (Bc (by omega) (by omega)) (ri .quo .u64 .u64 (O/65536) 256 (.int .u64 (O/16777216)) (dW (by decide) (iM (by omega) (by omega) (by omega))) (ri .rem .u64 .u64 (O/16777216) 256 (.int .u64 (O/16777216%256)) (eF (by decide) (Int.tmod_eq_emod_of_nonneg (by omega))) (rc .u64 .u8 (O/16777216%256) (O/16777216%256) (Bc (by omega) (by omega)) (ri .quo .u64 .u64 (O/16777216) 256 (.int .u64 (O/4294967296)) (dW (by decide) (iM (by omega) (by omega) (by omega))) (rc .i32 .i64 s s ((by rw[IntKind.wrap_i64];omega)) (rc .i64 .u64 s S (hS) (ri .rem .u64 .u64 S 256 (.int .u64 (S%256)) (eF (by decide) (Int.tmod_eq_emod_of_nonneg (by omega))) (rc .u64 .u8 (S%256) (S%256) (Bc (by omega) (by omega)) (ri .quo .u64 .u64 S 256 (.int .u64 (S/256)) (dW (by decide) (iM (by omega) (by omega) (by omega))) (ri .rem .u64 .u64 (S/256) 256 (.int .u64 (S/256%256)) (eF (by decide) (Int.tmod_eq_emod_of_nonneg (by omega))) (rc .u64 .u8 (S/256%256) (S/256%256) (Bc (by omega) (by omega)) (ri .quo .u64 .u64 (S/256) 256 (.int .u64 (S/65536)) (dW (by decide) (iM (by omega) (by omega) (by omega))) (ri .rem .u64 .u64 (S/65536) 256 (.int .u64 (S/65536%256)) (eF (by decide) (Int.tmod_eq_emod_of_nonneg (by omega))) (rc .u64 .u8 (S/65536%256) (S/65536%256) (Bc (by omega) (by omega)) (ri .quo .u64 .u64 (S/65536) 256 (.int .u64 (S/16777216)) (dW (by decide) (iM (by omega) (by omega) (by omega))) (ri .rem .u64 .u64 (S/16777216) 256 (.int .u64 (S/16777216%256)) (eF (by decide) (Int.tmod_eq_emod_of_nonneg (by omega))) (rc .u64 .u8 (S/16777216%256) (S/16777216%256) (Bc (by omega) (by omega)) (ri .quo .u64 .u64 (S/16777216) 256 (.int .u64 (S/4294967296)) (dW (by decide) (iM (by omega) (by omega) (by omega))) (rc .i32 .i64 st st ((by rw[IntKind.wrap_i64];omega)) (rc .i64 .u64 st ST (hST) (ri .rem .u64 .u64 ST 256 (.int .u64 (ST%256)) (eF (by decide) (Int.tmod_eq_emod_of_nonneg (by omega))) (rc .u64 .u8 (ST%256) (ST%256) (Bc (by omega) (by omega)) (ri .quo .u64 .u64 ST 256 (.int .u64 (ST/256)) (dW (by decide) (iM (by omega) (by omega) (by omega))) (ri .rem .u64 .u64 (ST/256) 256 (.int .u64 (ST/256%256)) (eF (by decide) (Int.tmod_eq_emod_of_nonneg (by omega))) (rc .u64 .u8 (ST/256%256) (ST/256%256) (Bc (by omega) (by omega)) (ri .quo .u64 .u64 (ST/256) 256 (.int .u64 (ST/65536)) (dW (by decide) (iM (by omega) (by omega) (by omega))) (ri .rem .u64 .u64 (ST/65536) 256 (.int .u64 (ST/65536%256)) (eF (by decide) (Int.tmod_eq_emod_of_nonneg (by omega))) (rc .u64 .u8 (ST/65536%256) (ST/65536%256) (Bc (by omega) (by omega)) (ri .quo .u64 .u64 (ST/65536) 256 (.int .u64 (ST/16777216)) (dW (by decide) (iM (by omega) (by omega) (by omega))) (ri .rem .u64 .u64 (ST/16777216) 256 (.int .u64 (ST/16777216%256)) (eF (by decide) (Int.tmod_eq_emod_of_nonneg (by omega))) (rc .u64 .u8 (ST/16777216%256) (ST/16777216%256) (Bc (by omega) (by omega)) (ri .quo .u64 .u64 (ST/16777216) 256 (.int .u64 (ST/4294967296)) (dW (by decide) (iM (by omega) (by omega) (by omega))) (rc .i32 .i64 t t ((by rw[IntKind.wrap_i64];omega)) (rc .i64 .u64 t TT (Za) (ri .rem .u64 .u64 TT 256 (.int .u64 (TT%256)) (eF (by decide) (Int.tmod_eq_emod_of_nonneg (by omega))) (rc .u64 .u8 (TT%256) (TT%256) (Bc (by omega) (by omega)) (ri .quo .u64 .u64 TT 256 (.int .u64 (TT/256)) (dW (by decide) (iM (by omega) (by omega) (by omega))) (ri .rem .u64 .u64 (TT/256) 256 (.int .u64 (TT/256%256)) (eF (by decide) (Int.tmod_eq_emod_of_nonneg (by omega))) (rc .u64 .u8 (TT/256%256) (TT/256%256) (Bc (by omega) (by omega)) (ri .quo .u64 .u64 (TT/256) 256 (.int .u64 (TT/65536)) (dW (by decide) (iM (by omega) (by omega) (by omega))) (ri .rem .u64 .u64 (TT/65536) 256 (.int .u64 (TT/65536%256)) (eF (by decide) (Int.tmod_eq_emod_of_nonneg (by omega))) (rc .u64 .u8 (TT/65536%256) (TT/65536%256) (Bc (by omega) (by omega)) (ri .quo .u64 .u64 (TT/65536) 256 (.int .u64 (TT/16777216)) (dW (by decide) (iM (by omega) (by omega) (by omega))) (ri .rem .u64 .u64 (TT/16777216) 256 (.int .u64 (TT/16777216%256)) (eF (by decide) (Int.tmod_eq_emod_of_nonneg (by omega))) (rc .u64 .u8 (TT/16777216%256) (TT/16777216%256) (Bc (by omega) (by omega)) (ri .quo .u64 .u64 (TT/16777216) 256 (.int .u64 (TT/4294967296)) (dW (by decide) (iM (by omega) (by omega) (by omega))) (og))))))))))))))))))))))))))))))))))))))))))))))))))))))))))))))))))))))))))))))) (fun w0 _=>PX (fun _ h=>h) (rA (uL (f:=120) (cells:=[sym 10,sym 13,sym 16,sym 19,.int .u8 0,sym 5,sym 24,sym 27]) (cells':=[.int .u8 (N%256),.int .u8 (N/256%256),.int .u8 (N/65536%256),.int .u8 (N/16777216%256),.int .u8 0,.int .u8 g,.int .u8 (ty%256),.int .u8 (ty/256%256)]) (v:=sym 85) (v' :=.int .u64 (N%4294967296+4294967296*(256*g+65536*ty))) (by kernel_rfl) (by kernel_rfl) (by kernel_rfl) (by kernel_rfl) (fun bb oo cap W hW hr=>yF (N%256) (N/256%256) (N/65536%256) (N/16777216%256) 0 g (ty%256) (ty/256%256) bb oo cap W (N%4294967296+4294967296*(256*g+65536*ty)) (by omega) (by omega) (by omega) (by omega) (by omega) (by omega) (by omega) (by omega) (by omega) hr)) (rA (uL (f:=120) (cells:=[sym 32,sym 35,sym 38,sym 41,sym 46,sym 49,sym 52,sym 55]) (cells':=[.int .u8 (O%256),.int .u8 (O/256%256),.int .u8 (O/65536%256),.int .u8 (O/16777216%256),.int .u8 (S%256),.int .u8 (S/256%256),.int .u8 (S/65536%256),.int .u8 (S/16777216%256)]) (v:=sym 86) (v' :=.int .u64 (O%4294967296+4294967296*(S%4294967296))) (by kernel_rfl) (by kernel_rfl) (by kernel_rfl) (by kernel_rfl) (fun bb oo cap W hW hr=>yF (O%256) (O/256%256) (O/65536%256) (O/16777216%256) (S%256) (S/256%256) (S/65536%256) (S/16777216%256) bb oo cap W (O%4294967296+4294967296*(S%4294967296)) (by omega) (by omega) (by omega) (by omega) (by omega) (by omega) (by omega) (by omega) (by omega) hr)) (rA (uL (f:=120) (cells:=[sym 60,sym 63,sym 66,sym 69,sym 74,sym 77,sym 80,sym 83]) (cells':=[.int .u8 (ST%256),.int .u8 (ST/256%256),.int .u8 (ST/65536%256),.int .u8 (ST/16777216%256),.int .u8 (TT%256),.int .u8 (TT/256%256),.int .u8 (TT/65536%256),.int .u8 (TT/16777216%256)]) (v:=sym 87) (v' :=.int .u64 (ST%4294967296+4294967296*(TT%4294967296))) (by kernel_rfl) (by kernel_rfl) (by kernel_rfl) (by kernel_rfl) (fun bb oo cap W hW hr=>yF (ST%256) (ST/256%256) (ST/65536%256) (ST/16777216%256) (TT%256) (TT/256%256) (TT/65536%256) (TT/16777216%256) bb oo cap W (ST%4294967296+4294967296*(TT%4294967296)) (by omega) (by omega) (by omega) (by omega) (by omega) (by omega) (by omega) (by omega) (by omega) hr)) (rA (uL (f:=120) (cells:=[.int .u8 0,.int .u8 0,.int .u8 0,.int .u8 0,.int .u8 0,.int .u8 0,.int .u8 0,.int .u8 0]) (cells':=[.int .u8 0,.int .u8 0,.int .u8 0,.int .u8 0,.int .u8 0,.int .u8 0,.int .u8 0,.int .u8 0]) (v :=.int .u64 0) (v' :=.int .u64 0) (by kernel_rfl) (by kernel_rfl) (by kernel_rfl) (by kernel_rfl) (fun bb oo cap W hW hr=>yF 0 0 0 0 0 0 0 0 bb oo cap W (0) (by omega) (by omega) (by omega) (by omega) (by omega) (by omega) (by omega) (by omega) (by omega) hr)) (O9))))) (AR) w0) (by kernel_rfl) (by kernel_rfl) (GQ _) (by kernel_rfl) (by kernel_rfl) w (fun _ _=>trivial)
end
end Go.Proofs.YtlaogoehmndcjaaGreatDoor.Sy
namespace Go.Proofs.YtlaogoehmndcjaaGreatDoor.Sy
open Go RowKit Lib Base Pr Ba
variable [Zn]
abbrev l9 (l:Lg) (len g ty off term:Int):Array Value :=#[.int .i32 len,.int .u8 0,.int .u8 g,.int .u16 ty,.int .i32 off,.int .i32 l.dQ,.int .i32 l.str,.int .i32 term,.int .u64 0]
theorem Be {w:World} {b:Nat} {t:TypeId} {v0 v1 v2 v3 v4 v5 v6 v7 v8:Value} (h:w.heap[b]? = some (.cells #[v0,v1,v2,v3,v4,v5,v6,v7,v8] t (0,0))):w.cell? ⟨b,0,none⟩=some v0∧w.cell? ⟨b,1,none⟩=some v1∧w.cell? ⟨b,2,none⟩=some v2∧w.cell? ⟨b,3,none⟩=some v3∧w.cell? ⟨b,4,none⟩=some v4∧w.cell? ⟨b,5,none⟩=some v5∧w.cell? ⟨b,6,none⟩=some v6∧w.cell? ⟨b,7,none⟩=some v7∧w.cell? ⟨b,8,none⟩=some v8:=by
 refine⟨?_,?_,?_,?_,?_,?_,?_,?_,?_⟩<;>simp[World.cell?,h]
structure o8 (l:Lg):Prop where
 bG : -2147483648≤l.bG∧l.bG<2147483648
 dQ : -2147483648≤l.dQ∧l.dQ<2147483648
 str : -2147483648≤l.str∧l.str<2147483648
theorem KU (l:Lg) (hw:o8 l) (n g ty off term:Int) (hg:0≤g∧g<256) (hty:0≤ty∧ty<256) (hn : -2147483648≤n∧n<2147483648) (ho : -2147483648≤off∧off<2147483648) (ht : -2147483648≤term∧term<2147483648) (w:World) :
 Calls Tryz.prog 75 #[.agg (l9 l n g ty off term)] w fun e w'=>e =.returned (.agg #[.int .u64 (qZ n g ty),.int .u64 (Ui (aP l) off),.int .u64 (Uh (aP l) term),.int .u64 0])∧Below w.heap.size w w':=by
 have hs:=hw.dQ
 have hst:=hw.str
 have c:=R9 n off l.dQ l.str term g ty hg hty hn ho hs hst ht (N:=n%18446744073709551616) (by rw[IntKind.wrap_u64]) (by omega) (O:=off%18446744073709551616) (by rw[IntKind.wrap_u64]) (by omega) (S:=l.dQ%18446744073709551616) (by rw[IntKind.wrap_u64]) (by omega) (ST:=l.str%18446744073709551616) (by rw[IntKind.wrap_u64]) (by omega) (TT:=term%18446744073709551616) (by rw[IntKind.wrap_u64]) (by omega) w
 have e1:∀x:Int,x%18446744073709551616%4294967296=u32 x:=by intro x;unfold u32;omega
 rw[e1,e1,e1,e1,e1]at c
 exact c
def Bo (w wr:World) (X:Nat) (B:List Obj) (tb:Nat) (ga:Option Addr) (cap:Nat) (L:List An) (a:Nat) (T K:Pr An Ot) (o:Ot) (b:Value):Prop :=
 (b =.bool true∧∃a',BS w wr X B tb ga cap L a T K a')∨(b =.bool false∧Off w wr tb ga cap L a T o)
def Kt (o:Ot) (at_ A0 A1 A2:Int) (k:Pr An Ot):Nat→Pr An Ot
 | 0=>W0 o at_ A0 A1 A2 k
 | 1=>W1 o at_ A1 A2 k
 | 2=>W2 o at_ A2 k
 | 3=>W3 o at_ k
 | _=>k
section
variable {tb:Nat} {ga:Option Addr} {cap:Nat} {L:List An} {a:Nat}
theorem headD (o:Ot) (k:Pr An Ot) (l:Lg) (hw:o8 l) (at_ len g ty off term:Int) (hat:0≤at_∧at_≤1000000) (hlen:0≤len∧len≤1000000) (hg:0≤g∧g<256) (hty:0≤ty∧ty<256) (ho : -2147483648≤off∧off<2147483648) (ht : -2147483648≤term∧term<2147483648) (w:World) (h:iE w tb ga cap L a none) (ha:a≤L.length) :
 Calls Tryz.prog 112 #[.pointer (some ⟨tb,0,none⟩),l.val,.int .i64 at_,.agg (l9 l len g ty off term)] w fun e w'=>(∃a',e =.returned (.bool true)∧On w w' tb ga cap L a (nM (aP l) o at_ len g ty off term k) k a')∨(e =.returned (.bool false)∧Off w w' tb ga cap L a (nM (aP l) o at_ len g ty off term k) o):=by
 have c75:=fun W=>KU l hw (-len) g ty off term hg hty (by omega) ho ht W
 have q0:IntKind.i32.wrap (-len) = -len:=by rw[IntKind.wrap_i32];omega
 have z1:IntKind.i64.wrap (at_+8)=at_+8:=by rw[IntKind.wrap_i64];omega
 have z2:IntKind.i64.wrap (at_+16)=at_+16:=by rw[IntKind.wrap_i64];omega
 have z3:IntKind.i64.wrap (at_+24)=at_+24:=by rw[IntKind.wrap_i64];omega
 obtain⟨A0,RI⟩:∃A,qZ (-len) g ty=A:=⟨_,rfl⟩
 obtain⟨A1,hA1⟩:∃A,Ui (aP l) off=A:=⟨_,rfl⟩
 obtain⟨A2,hA2⟩:∃A,Uh (aP l) term=A:=⟨_,rfl⟩
 rw[vE,RI,hA1,hA2]
 rw[RI,hA1,hA2]at c75
 obtain⟨T,hT⟩:∃T,W0 o at_ A0 A1 A2 k=T:=⟨_,rfl⟩
 rw[hT]
 obtain⟨X,hX⟩:∃X,w.heap.size=X:=⟨_,rfl⟩
 obtain⟨V1,hV1⟩:∃V,w.alloc (.cells (gm l) 23)=V:=⟨_,rfl⟩
 obtain⟨V2,hV2⟩:∃V,V1.alloc (.cells (l9 l len g ty off term) 160)=V:=⟨_,rfl⟩
 have s1:V1.heap.size=X+1:=by rw[←hV1,←hX];simp
 have s2:V2.heap.size=X+2:=by rw[←hV2];simp[s1]
 have HX:=aC (hV2▸(hV1▸(BS.fresh h ha hX T).new (by simp[hX]) (.cells (gm l) 23)).new (by simp[s1]) (.cells (l9 l len g ty off term) 160))
 obtain⟨m0,m1,m2,m3,m4,m5,m6,m7,m8⟩:=Be (HX.out.box 1 _ rfl)
 have mf:V2.frozen? ⟨X+1,0,none⟩=false:=by simp[World.frozen?,HX.out.box 1 _ rfl]
 unfold Lg.val
 clear h ha hw RI hA1 hA2
 go_enter Tryz.func112,Tryz.ntmps112
 go_wp2_with (fail)
 obtain⟨V3,IG⟩:∃V,V2.setCell ⟨X+1,0,none⟩ (.int .i32 (-len))=V:=⟨_,rfl⟩
 rw[IG]
 have H3:=aC (HX.out.put (i:=1) (B':=[.cells (gm l) 23,.cells (l9 l (-len) g ty off term) 160]) (IG▸Only.set V2 0 (.int .i32 (-len))) (IG▸iw (HX.out.box 1 _ rfl) 0 (.int .i32 (-len))) (fun j hj=>by rcases j with _|_|j<;>first|rfl|exact absurd rfl hj) rfl)
 refine(c75 _).mono ?_
 clear c75
 rintro e V ⟨rfl,hB⟩
 have HC:=aC (H3.out.below hB)
 clear hB HX H3 m0 m1 m2 m3 m4 m5 m6 m7 m8 mf hV1 hV2 IG s1 s2
 go_wp2_with (fail)
 go_loopw [9,18] (fun b y wr=>∃j:Nat,y =.int .i64 (j:Int)∧j≤4∧Bo w wr X [.cells (gm l) 23,.cells (l9 l (-len) g ty off term) 160] tb ga cap L a T (Kt o at_ A0 A1 A2 k j) o b) (fun _ y _=>(4-intOf y).toNat)
 case atStart=>exact⟨0,rfl,by omega,.inl ⟨rfl,a,HC.out.as hT.symm⟩⟩
 case round =>
  have i0:∀W,Sem.run Tryz.prog (Instr.index 162 (.agg #[.int .u64 A0,.int .u64 A1,.int .u64 A2,.int .u64 0]) (.int .i64 0)) W =.ok (.int .u64 A0) W:=fun W=>by kernel_rfl
  have i1:∀W,Sem.run Tryz.prog (Instr.index 162 (.agg #[.int .u64 A0,.int .u64 A1,.int .u64 A2,.int .u64 0]) (.int .i64 1)) W =.ok (.int .u64 A1) W:=fun W=>by kernel_rfl
  have i2:∀W,Sem.run Tryz.prog (Instr.index 162 (.agg #[.int .u64 A0,.int .u64 A1,.int .u64 A2,.int .u64 0]) (.int .i64 2)) W =.ok (.int .u64 A2) W:=fun W=>by kernel_rfl
  have i3:∀W,Sem.run Tryz.prog (Instr.index 162 (.agg #[.int .u64 A0,.int .u64 A1,.int .u64 A2,.int .u64 0]) (.int .i64 3)) W =.ok (.int .u64 0) W:=fun W=>by kernel_rfl
  obtain⟨j,rfl,hj,⟨rfl,a',H⟩|⟨rfl,H⟩⟩:=hrel
  ·have H:=aC H
   have hj5:j=0∨j=1∨j=2∨j=3∨j=4:=by omega
   rcases hj5 with rfl|rfl|rfl|rfl|rfl
   ·go_wp2_with (fail)
    refine(qK at_ 8 A0 H.out.mg H.out.on.le o (Kt o at_ A0 A1 A2 k 1)).mono ?_
    rintro e V (⟨rfl,hK⟩|⟨rfl,hK⟩)
    ·have HN:Bo w V X [.cells (gm l) 23,.cells (l9 l (-len) g ty off term) 160] tb ga cap L a T (Kt o at_ A0 A1 A2 k 1) o (.bool true) :=.inl ⟨rfl,_,H.out.step hK⟩
     clear hK H
     go_wp2
     go_roundw
     case measure=>simp[intOf]
     case rel=>exact⟨1,by simp,by omega,HN⟩
    ·have HN:Bo w V X [.cells (gm l) 23,.cells (l9 l (-len) g ty off term) 160] tb ga cap L a T (Kt o at_ A0 A1 A2 k 1) o (.bool false) :=.inr ⟨rfl,H.out.off hK⟩
     clear hK H
     go_wp2
     go_roundw
     case measure=>simp[intOf]
     case rel=>exact⟨1,by simp,by omega,HN⟩
   ·go_wp2_with (fail)
    refine(qK (at_+8) 8 A1 H.out.mg H.out.on.le o (Kt o at_ A0 A1 A2 k 2)).mono ?_
    rintro e V (⟨rfl,hK⟩|⟨rfl,hK⟩)
    ·have HN:Bo w V X [.cells (gm l) 23,.cells (l9 l (-len) g ty off term) 160] tb ga cap L a T (Kt o at_ A0 A1 A2 k 2) o (.bool true) :=.inl ⟨rfl,_,H.out.step hK⟩
     clear hK H
     go_wp2
     go_roundw
     case measure=>simp[intOf]
     case rel=>exact⟨2,by simp,by omega,HN⟩
    ·have HN:Bo w V X [.cells (gm l) 23,.cells (l9 l (-len) g ty off term) 160] tb ga cap L a T (Kt o at_ A0 A1 A2 k 2) o (.bool false) :=.inr ⟨rfl,H.out.off hK⟩
     clear hK H
     go_wp2
     go_roundw
     case measure=>simp[intOf]
     case rel=>exact⟨2,by simp,by omega,HN⟩
   ·go_wp2_with (fail)
    refine(qK (at_+16) 8 A2 H.out.mg H.out.on.le o (Kt o at_ A0 A1 A2 k 3)).mono ?_
    rintro e V (⟨rfl,hK⟩|⟨rfl,hK⟩)
    ·have HN:Bo w V X [.cells (gm l) 23,.cells (l9 l (-len) g ty off term) 160] tb ga cap L a T (Kt o at_ A0 A1 A2 k 3) o (.bool true) :=.inl ⟨rfl,_,H.out.step hK⟩
     clear hK H
     go_wp2
     go_roundw
     case measure=>simp[intOf]
     case rel=>exact⟨3,by simp,by omega,HN⟩
    ·have HN:Bo w V X [.cells (gm l) 23,.cells (l9 l (-len) g ty off term) 160] tb ga cap L a T (Kt o at_ A0 A1 A2 k 3) o (.bool false) :=.inr ⟨rfl,H.out.off hK⟩
     clear hK H
     go_wp2
     go_roundw
     case measure=>simp[intOf]
     case rel=>exact⟨3,by simp,by omega,HN⟩
   ·go_wp2_with (fail)
    refine(qK (at_+24) 8 0 H.out.mg H.out.on.le o (Kt o at_ A0 A1 A2 k 4)).mono ?_
    rintro e V (⟨rfl,hK⟩|⟨rfl,hK⟩)
    ·have HN:Bo w V X [.cells (gm l) 23,.cells (l9 l (-len) g ty off term) 160] tb ga cap L a T (Kt o at_ A0 A1 A2 k 4) o (.bool true) :=.inl ⟨rfl,_,H.out.step hK⟩
     clear hK H
     go_wp2
     go_roundw
     case measure=>simp[intOf]
     case rel=>exact⟨4,by simp,by omega,HN⟩
    ·have HN:Bo w V X [.cells (gm l) 23,.cells (l9 l (-len) g ty off term) 160] tb ga cap L a T (Kt o at_ A0 A1 A2 k 4) o (.bool false) :=.inr ⟨rfl,H.out.off hK⟩
     clear hK H
     go_wp2
     go_roundw
     case measure=>simp[intOf]
     case rel=>exact⟨4,by simp,by omega,HN⟩
   ·go_wp2
    exact bodyPost_ret (v :=.bool true) (by simp[results,Tryz.results112,go_sem]) rfl (.inl ⟨a',rfl,H.out.on⟩)
  ·have HO:=aC H
   clear H
   by_cases hlt:(j:Int)<4
   ·have ij:∃u,∀W,Sem.run Tryz.prog (Instr.index 162 (.agg #[.int .u64 A0,.int .u64 A1,.int .u64 A2,.int .u64 0]) (.int .i64 (j:Int))) W =.ok u W:=by
     have:j=0∨j=1∨j=2∨j=3:=by omega
     rcases this with rfl|rfl|rfl|rfl
     ·exact⟨_,i0⟩
     ·exact⟨_,i1⟩
     ·exact⟨_,i2⟩
     ·exact⟨_,i3⟩
    obtain⟨u,hu⟩:=ij
    have q1:IntKind.i64.wrap ((j:Int)+1)=(j:Int)+1:=by rw[IntKind.wrap_i64];omega
    have HN:Bo w wr X [.cells (gm l) 23,.cells (l9 l (-len) g ty off term) 160] tb ga cap L a T (Kt o at_ A0 A1 A2 k (j+1)) o (.bool false) :=.inr ⟨rfl,HO.out⟩
    go_wp2
    go_roundw
    case measure=>simp[intOf];omega
    case rel=>exact⟨j+1,by simp,by omega,HN⟩
   ·go_wp2
    exact bodyPost_ret (v :=.bool false) (by simp[results,Tryz.results112,go_sem]) rfl (.inr ⟨rfl,HO.out⟩)
end
