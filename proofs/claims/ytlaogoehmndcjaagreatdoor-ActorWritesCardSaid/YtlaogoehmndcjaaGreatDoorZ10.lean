import Derived.Test.YtlaogoehmndcjaaGreatDoorZ09
set_option linter.unusedSectionVars false
set_option linter.unusedVariables false
set_option linter.unusedSimpArgs false
namespace Go.AS
open Go.RowKit
variable [bH]
variable {E:Env} {P:Program} {w0:World}
theorem MR.sub {σ:Sg} {m m1:Mem} {w:World} (h:MR E w0 σ m w) (hn:m1.n=m.n) (hs:∀i o,m1.t.get i=some o→o.live=true→m.t.get i=some o):MR E w0 σ m1 w :=
 ⟨h.below,h.t0,fun i o hi ho=>h.obj i o (hs i o hi ho) ho,fun i j o o' x y hi ho hj ho'=>h.inj i j o o' x y (hs i o hi ho) ho (hs j o' hj ho') ho',fun i hi=>h.fresh i (hn▸hi)⟩
theorem dY.sub {σ:Sg} {m m1:Mem} {b:Nat} (hs:∀i o,m1.t.get i=some o→o.live=true→m.t.get i=some o) (h:dY σ m1 b):dY σ m b:=by
 obtain⟨i,o,x,h1,h2,h3,h4⟩:=h
 exact⟨i,o,x,hs i o h1 h2,h2,h3,h4⟩
theorem MR.JJ {σ:Sg} {m:Mem} {w:World} (h:MR E w0 σ m w) {id:Nat} {x:Inf} (hx:σ id=some x) {o:fA} {ob:Obj} (hB:Mine E w0 x.b) (hl:¬dY σ m x.b)
 (eu:w.heap[x.b]? = some ob) (hor:OR E σ x o ob):MR E w0 σ ⟨m.n,m.t.set id o⟩ w:=by
 refine⟨h.below,h.t0,?_,?_,h.fresh⟩
 ·intro j p hj hp
  by_cases e:id=j
  ·subst e
   rw[T.get_set_same]at hj
   cases hj
   exact⟨x,ob,hx,hB,eu,hor⟩
  ·rw[T.bC _ _ e]at hj
   exact h.obj j p hj hp
 ·intro j k p q z z' hj hp hk hq hz hz' e
  by_cases e1:id=j<;>by_cases e2:id=k
  ·omega
  ·subst e1
   rw[T.bC _ _ e2]at hk
   rw[hx]at hz;cases hz
   exact absurd ⟨k,q,z',hk,hq,hz',e.symm⟩ hl
  ·subst e2
   rw[T.bC _ _ e1]at hj
   rw[hx]at hz';cases hz'
   exact absurd ⟨j,p,z,hj,hp,hz,e⟩ hl
  ·rw[T.bC _ _ e1]at hj
   rw[T.bC _ _ e2]at hk
   exact h.inj j k p q z z' hj hp hk hq hz hz' e
section
variable {call:gM} {ops:Array Oper} {B:List Nat} {n N N0:Nat} {M0:Mem} {t0:T Value} {S:Nat→DS} {c:Nat→Cl}
open Classical in
noncomputable def W (c:Nat→Cl) (ops:Array Oper) (N N0:Nat) (t0:T Value) (D:Nat→Bool):Nat→Nat→Value
 | 0,τ=>tv t0 τ
 | k+1,τ=>if D k=true∧(∃o,ops.toList[k]? = some o∧o.dst=some τ)∧τ<N then(c k).val N0 k else W c ops N N0 t0 D k τ
open Classical in
noncomputable def PM (c:Nat→Cl) (B:List Nat) (n N0:Nat) (M0:Mem) (D:Nat→Bool):Nat→T fA
 | 0=>(chainOf c M0 D n).t
 | k+1=>match c k with
   | .alloc ob _=>if D k=true∧¬Mg c B n D k then(PM c B n N0 M0 D k).set (N0+k) ob else PM c B n N0 M0 D k
   | _=>PM c B n N0 M0 D k
theorem Sd (N:Nat) (t:T Value) (d:Option Tmp) (v:Value) (τ:Nat):tv (put N t d v) τ=if d=some τ∧τ<N then v else tv t τ:=by
 cases d with
 | none=>simp[AS.put]
 | some d =>
   simp only[AS.put]
   cases h:Nat.blt d N with
   | true =>
     have h':d<N:=Nat.le_of_ble_eq_true h
     simp only[tv,T.mO]
     by_cases e:d=τ
     ·subst e;simp[h']
     ·simp[e]
   | false =>
     have h':¬d<N:=fun h1=>by
      have h2:Nat.blt d N=true:=Nat.ble_eq_true_of_le h1
      rw[h2]at h;cases h
     by_cases e:d=τ
     ·subst e;simp[h']
     ·simp[e]
theorem O6 (S:DS) (i:Nat) (o:Oper) (b:Nat) (c:Cl):(oW N N0 S i o b c).t=put N S.t o.dst (c.val N0 i):=by cases c<;>rfl
theorem RV (R:KP E call ops B n N N0 M0 t0 S c):∀k,k≤ops.toList.length→∀τ,tv (S k).t τ=W c ops N N0 t0 (fun _=>true) k τ:=by
 intro k
 induction k with
 | zero=>intro _ τ;rw[R.start];rfl
 | succ k ih =>
   intro hk τ
   have ho:ops.toList[k]? = some (ops.toList[k]'(by omega)):=List.getElem?_eq_getElem (by omega)
   generalize ops.toList[k]'(by omega)=o at ho
   rw[R.step k o ho,O6,Sd,W]
   by_cases h:o.dst=some τ∧τ<N
   ·rw[if_pos h,if_pos ⟨rfl,⟨o,ho,h.1⟩,h.2⟩]
   ·rw[if_neg h,if_neg (fun⟨_,⟨p,hp,hd⟩,hN⟩=>h ⟨by rw[ho]at hp;cases hp;exact hd,hN⟩)]
    exact ih (by omega) τ
theorem Et {D D':Nat→Bool} {τ:Nat}:∀k,(∀i,i<k→(∃o,ops.toList[i]? = some o∧o.dst=some τ)→D i=D' i)→W c ops N N0 t0 D k τ=W c ops N N0 t0 D' k τ:=by
 intro k
 induction k with
 | zero=>intro _;rfl
 | succ k ih =>
   intro h
   simp only[W]
   rw[ih (fun i hi=>h i (by omega))]
   by_cases hw:∃o,ops.toList[k]? = some o∧o.dst=some τ
   ·rw[h k (by omega) hw]
   ·rw[if_neg (fun⟨_,h2,_⟩=>hw h2),if_neg (fun⟨_,h2,_⟩=>hw h2)]
theorem Pk {D:Nat→Bool} {τ i:Nat}:∀k,i≤k→(∀j,i≤j→j<k→(∃o,ops.toList[j]? = some o∧o.dst=some τ)→D j=false)→W c ops N N0 t0 D k τ=W c ops N N0 t0 D i τ:=by
 intro k
 induction k with
 | zero=>intro h _;obtain rfl:i=0:=by omega
         rfl
 | succ k ih =>
   intro h h2
   rcases Nat.lt_or_ge k i with h3|h3
   ·obtain rfl:i=k+1:=by omega
    rfl
   ·simp only[W]
    rw[if_neg (fun⟨h4,h5,_⟩=>by rw[h2 k h3 (by omega) h5]at h4;cases h4)]
    exact ih h3 (fun j hj hjk=>h2 j hj (by omega))
theorem xY {x y:Oper} {d:Tmp} (hx:x.dst=some d) (hy:d∈looks ops y):sw ops x y=true:=by
 simp[sw,hx,Fu.2 hy]
theorem xX {x y:Oper} {d:Tmp} (hy:y.dst=some d) (hx:d∈looks ops x):sw ops x y=true:=by
 simp[sw,hy,Fu.2 hx]
theorem Bz {x y:Oper} {d:Tmp} (hx:x.dst=some d) (hy:y.dst=some d):sw ops x y=true:=by
 simp[sw,hx,hy,Nat.beq_refl]
structure Stat (ops:Array Oper) (B:List Nat) (n:Nat):Prop where
 len:ops.toList.length=n
 back:∀(i:Nat) (o:Oper),ops.toList[i]? = some o→∀e∈o.after.toList,Region.binds .any e=true→e.on<i
 closed:∀{D:Nat→Bool},(∀(i:Nat) (o:Oper),ops.toList[i]? = some o→D i=true→∀e∈o.after.toList,Region.binds .any e=true→D e.on=true)→∀(i j:Nat),D i=true→(B.getD i 0).testBit j=true→D j=true
 tmps:∀(k i:Nat) (o p:Oper),ops.toList[k]? = some o→i<k→ops.toList[i]? = some p→sw ops p o=true→(B.getD k 0).testBit i=true
structure Ready (ops:Array Oper) (B:List Nat) (D:Nat→Bool) (i:Nat) (o:Oper):Prop where
 op:ops.toList[i]? = some o
 out:D i=false
 before:∀j,(B.getD i 0).testBit j=true→D j=true
def Down (ops:Array Oper) (D:Nat→Bool):Prop:=∀(i:Nat) (o:Oper),ops.toList[i]? = some o→D i=true→∀e∈o.after.toList,Region.binds .any e=true→D e.on=true
theorem jq {α:Type} {l:List α} {i:Nat} {x:α} (h:l[i]? = some x):i<l.length:=(List.getElem?_eq_some_iff.1 h).1
theorem Rf (T:Stat ops B n) {D:Nat→Bool} (hD:Down ops D) {i:Nat} {o:Oper} (r:Ready ops B D i o) (R:KP E call ops B n N N0 M0 t0 S c) {τ:Nat} (TG:τ∈looks ops o):W c ops N N0 t0 D n τ=tv (S i).t τ:=by
 have hi:=jq r.op
 rw[RV R i (by omega)]
 rw[Pk (i:=i) n (by rw[←T.len];omega) ?_]
 ·refine Et i (fun j hj ⟨p,hp,hd⟩ => ?_)
  exact r.before j (T.tmps i j o p r.op hj hp (xY hd TG))
 ·rintro j hj hjn ⟨p,hp,hd⟩
  by_cases e:i=j
  ·subst e;exact r.out
  ·cases hDj:D j with
   | false=>rfl
   | true =>
     have h1:=T.tmps j i p o hp (by omega) r.op (xX hd TG)
     have:=T.closed hD j i hDj h1
     rw[r.out]at this;cases this
def kR (D:Nat→Bool) (i:Nat):Nat→Bool:=fun j=>D j||Nat.beq i j
theorem eX {D:Nat→Bool} {i j:Nat}:kR D i j=true↔D j=true∨i=j:=by
 simp only[kR,Bool.or_eq_true]
 constructor
 ·rintro(h|h)
  ·exact .inl h
  ·exact .inr (Nat.eq_of_beq_eq_true h)
 ·rintro(h|rfl)
  ·exact .inl h
  ·exact .inr (Nat.beq_refl _)
theorem lq {D:Nat→Bool} {i j:Nat} (h:i≠j):kR D i j=D j:=by
 have:Nat.beq i j=false:=by
  cases hb:Nat.beq i j with
  | false=>rfl
  | true=>exact absurd (Nat.eq_of_beq_eq_true hb) h
 simp[kR,this]
theorem Pm (T:Stat ops B n) {D:Nat→Bool} (hD:Down ops D) {i:Nat} {o:Oper} (r:Ready ops B D i o) (τ:Nat):W c ops N N0 t0 (kR D i) n τ=if o.dst=some τ∧τ<N then(c i).val N0 i else W c ops N N0 t0 D n τ:=by
 have hi:i<n:=by rw[←T.len];exact jq r.op
 by_cases hd:o.dst=some τ
 ·have RB:∀j,i+1≤j→j<n→(∃p,ops.toList[j]? = some p∧p.dst=some τ)→D j=false:=by
   rintro j hj hjn ⟨p,hp,ZW⟩
   cases hDj:D j with
   | false=>rfl
   | true =>
     have h1:=T.tmps j i p o hp (by omega) r.op (Bz hd ZW)
     have:=T.closed hD j i hDj h1
     rw[r.out]at this;cases this
  rw[Pk (i:=i+1) n (by omega) (fun j hj hjn hw=>by rw[lq (by omega)];exact RB j hj hjn hw)]
  rw[Pk (D:=D) (i:=i+1) n (by omega) RB]
  simp only[W]
  have h2:W c ops N N0 t0 (kR D i) i τ=W c ops N N0 t0 D i τ:=Et i (fun j hj _=>lq (by omega))
  by_cases hN:τ<N
  ·rw[if_pos ⟨eX.2 (.inr rfl),⟨o,r.op,hd⟩,hN⟩,if_pos ⟨hd,hN⟩]
  ·rw[if_neg (fun h=>hN h.2.2),if_neg (fun h=>hN h.2),if_neg (fun h=>hN h.2.2),h2]
 ·rw[if_neg (fun h=>hd h.1)]
  refine Et n (fun j hj ⟨p,hp,ZW⟩=>lq ?_)
  rintro rfl
  rw[r.op]at hp;cases hp
  exact hd ZW
end
end Go.AS
namespace Go.AS
open Go.RowKit
variable [bH]
variable {E:Env} {P:Program} {w0:World}
section
variable {call:gM} {ops:Array Oper} {B:List Nat} {n N N0:Nat} {M0:Mem} {t0:T Value} {S:Nat→DS} {c:Nat→Cl}
theorem vK {S:Nat→DS} {i:Nat} {o:Oper} {b:Nat} {v:Value} {m:Mem} (hc:rJ E call ops n N0 M0 (S i) o b=some (.kM v m)):F3 E n N0 (S i) b m=true:=by
 unfold rJ at hc
 split at hc
 ·cases hc
 ·cases hc
 ·split at hc
  ·split at hc<;>cases hc
  ·split at hc
   ·split at hc<;>cases hc
   ·split at hc
    ·rename_i h;cases hc;exact h
    ·cases hc
   ·split at hc
    ·split at hc
     ·rename_i h;cases hc;exact h
     ·cases hc
    ·cases hc
   ·cases hc
theorem oO {S:DS} {b:Nat} {m:Mem} (h:F3 E n N0 S b m=true):(∀x∈S.kD,b.testBit x.1=true)∧(∀j,j<n→(S.mask ||| b).testBit j=true∨jF m.t (N0+j)=true)∧∀x∈S.reads,b.testBit x.1=true∨iX E x.2.1 x.2.2.1 x.2.2.2 m=true:=by
 unfold F3 at h
 cases h1:vS b S.kD with
 | false=>rw[h1]at h;cases h
 | true =>
   rw[h1]at h
   cases h2:qw N0 (S.mask ||| b) m.t n with
   | false=>rw[h2]at h;cases h
   | true =>
     rw[h2]at h
     exact⟨En h1,Bn h2,xZ h⟩
structure Ctx (E:Env) (call:gM) (ops:Array Oper) (B:List Nat) (n N N0:Nat) (M0:Mem) (t0:T Value) (S:Nat→DS) (c:Nat→Cl):Prop where
 run:KP E call ops B n N N0 M0 t0 S c
 stt:Stat ops B n
 M0n:M0.n=N0+n
 M0f:∀j,j<n→jF M0.t (N0+j)=true
theorem Ctx.lt (X:Ctx E call ops B n N N0 M0 t0 S c) {e:Nat} (he:e<n):∃o,ops.toList[e]? = some o:=⟨_,List.getElem?_eq_getElem (by rw[X.stt.len];exact he)⟩
theorem wE {c:Cl}:c.eP=true↔∃v m,c =.kM v m:=by cases c<;>simp[Cl.eP]
theorem FB {c:Cl}:c.jY=true↔∃o k,c =.alloc o k:=by cases c<;>simp[Cl.jY]
theorem Ctx.kD (X:Ctx E call ops B n N N0 M0 t0 S c) {e k:Nat} (hk:k<n) (hek:e<k) (h1:(c e).eP=true) (h2:(c k).eP=true):(B.getD k 0).testBit e=true:=by
 obtain⟨o,ho⟩:=X.lt hk
 obtain⟨v,m,hc⟩:=wE.1 h2
 obtain⟨v',m',hc'⟩:=wE.1 h1
 have h:=X.run.cls k o ho
 rw[hc]at h
 have:=(oO (vK h)).1 (e,m') (((recs X.run k (by rw[X.stt.len];omega)).kD e m').2 ⟨hek,v',hc'⟩)
 exact this
theorem Ctx.back (X:Ctx E call ops B n N N0 M0 t0 S c) {k j:Nat} (h:(B.getD k 0).testBit j=true):j≤k:=by
 have:=X.stt.closed (D:=fun x=>decide (x≤k)) (fun i o ho hi e he hb=>by
  have h1:=X.stt.back i o ho e he hb
  simp only[decide_eq_true_eq]at hi ⊢
  omega) k j (by simp) h
 simpa using this
theorem uf {D D':Nat→Bool}:∀k,(∀e,e<k→(c e).eP=true→D e=D' e)→chainOf c M0 D k=chainOf c M0 D' k:=by
 intro k
 induction k with
 | zero=>intro _;rfl
 | succ k ih =>
   intro h
   have ih':=ih (fun e he=>h e (by omega))
   simp only[chainOf]
   cases hc:c k with
   | kM v m =>
     have:=h k (by omega) (by rw[hc];rfl)
     rw[this]
     cases D' k
     ·exact ih'
     ·rfl
   | _=>cases D k<;>cases D' k<;>exact ih'
theorem Cu {D:Nat→Bool} {i:Nat}:∀k,i≤k→(∀e,i≤e→e<k→(c e).eP=true→D e=false)→chainOf c M0 D k=chainOf c M0 D i:=by
 intro k
 induction k with
 | zero=>intro h _;obtain rfl:i=0:=by omega
         rfl
 | succ k ih =>
   intro h h2
   rcases Nat.lt_or_ge k i with h3|h3
   ·obtain rfl:i=k+1:=by omega
    rfl
   ·rw[←ih h3 (fun e he hek=>h2 e he (by omega))]
    simp only[chainOf]
    cases hc:c k with
    | kM v m=>rw[h2 k h3 (by omega) (by rw[hc];rfl)]
    | _=>cases D k<;>rfl
theorem xH {D:Nat→Bool}:∀k,((∀e,e<k→D e=true→(c e).eP=false)∧chainOf c M0 D k=M0)∨∃e v m,e<k∧D e=true∧c e =.kM v m∧(∀e',e'<k→e<e'→D e'=true→(c e').eP=false)∧chainOf c M0 D k=m:=by
 intro k
 induction k with
 | zero=>exact .inl ⟨fun e he=>by omega,rfl⟩
 | succ k ih =>
   by_cases h:D k=true∧(c k).eP=true
   ·obtain⟨v,m,hc⟩:=wE.1 h.2
    exact .inr ⟨k,v,m,by omega,h.1,hc,fun e' he hk=>by omega,by simp only[chainOf,h.1,hc]⟩
   ·have hch:chainOf c M0 D (k+1)=chainOf c M0 D k:=by
     simp only[chainOf]
     cases hc:c k with
     | kM v m =>
       cases hd:D k with
       | false=>rfl
       | true=>exact absurd ⟨hd,by rw[hc];rfl⟩ h
     | _=>cases D k<;>rfl
    have hk:D k=true→(c k).eP=false:=fun hd=>by
     cases he:(c k).eP with
     | false=>rfl
     | true=>exact absurd ⟨hd,he⟩ h
    rcases ih with⟨h1,h2⟩|⟨e,v,m,h1,h2,h3,h4,h5⟩
    ·refine .inl ⟨fun e he hd => ?_,by rw[hch,h2]⟩
     rcases Nat.lt_or_ge e k with h6|h6
     ·exact h1 e h6 hd
     ·obtain rfl:e=k:=by omega
      exact hk hd
    ·refine .inr ⟨e,v,m,by omega,h2,h3,fun e' he hee hd => ?_,by rw[hch,h5]⟩
     rcases Nat.lt_or_ge e' k with h6|h6
     ·exact h4 e' h6 hee hd
     ·obtain rfl:e'=k:=by omega
      exact hk hd
theorem Ctx.ug (X:Ctx E call ops B n N N0 M0 t0 S c) {D:Nat→Bool} (hD:Down ops D) {j:Nat} (hj:j<n):Mg c B n D j∨jF (chainOf c M0 D n).t (N0+j)=true:=by
 rcases xH (c:=c) (M0:=M0) (D:=D) n with⟨_,h2⟩|⟨e,v,m,h1,h2,h3,_,h5⟩
 ·rw[h2];exact .inr (X.M0f j hj)
 ·rw[h5]
  obtain⟨o,ho⟩:=X.lt h1
  have hcl:=X.run.cls e o ho
  rw[h3]at hcl
  rcases(oO (vK hcl)).2.1 j hj with h6|h6
  ·rw[Nat.testBit_or,Bool.or_eq_true]at h6
   rcases h6 with h6|h6
   ·obtain⟨e',he',hef,hb⟩:=((recs X.run e (by rw[X.stt.len];omega)).mask j).1 h6
    have hDe:D e'=true:=X.stt.closed hD e e' h2 (X.kD h1 he' hef (by rw[h3];rfl))
    exact .inl ⟨e',by omega,hDe,hef,hb⟩
   ·exact .inl ⟨e,h1,h2,by rw[h3];rfl,h6⟩
  ·exact .inr h6
theorem Ey {D:Nat→Bool} {j:Nat} {ob:fA} {mk:Mk} (hc:c j =.alloc ob mk) (hd:D j=true) (hm:¬Mg c B n D j):∀k,j<k→(PM c B n N0 M0 D k).get (N0+j)=some ob:=by
 intro k
 induction k with
 | zero=>intro h;omega
 | succ k ih =>
   intro h
   rcases Nat.lt_or_ge j k with h1|h1
   ·have:=ih h1
    simp only[PM]
    split
    ·split
     ·rw[T.bC _ _ (by omega)];exact this
     ·exact this
    ·exact this
   ·obtain rfl:j=k:=by omega
    simp only[PM,hc]
    rw[if_pos ⟨hd,hm⟩,T.get_set_same]
theorem Jq {D:Nat→Bool} {id:Nat} {o:fA}:∀k,(PM c B n N0 M0 D k).get id=some o→(∃j mk,j<k∧id=N0+j∧c j =.alloc o mk∧D j=true∧¬Mg c B n D j) ∨
 ((chainOf c M0 D n).t.get id=some o∧∀j,j<k→id=N0+j→¬((c j).jY=true∧D j=true∧¬Mg c B n D j)):=by
 intro k
 induction k with
 | zero=>intro h;exact .inr ⟨h,fun j hj=>by omega⟩
 | succ k ih =>
   intro h
   simp only[PM]at h
   have more:(PM c B n N0 M0 D k).get id=some o→¬(id=N0+k∧(c k).jY=true∧D k=true∧¬Mg c B n D k)→(∃j mk,j<k+1∧id=N0+j∧c j =.alloc o mk∧D j=true∧¬Mg c B n D j) ∨
    ((chainOf c M0 D n).t.get id=some o∧∀j,j<k+1→id=N0+j→¬((c j).jY=true∧D j=true∧¬Mg c B n D j)):=by
    intro h1 h2
    rcases ih h1 with⟨j,mk,h3,h4⟩|⟨h3,h4⟩
    ·exact .inl ⟨j,mk,by omega,h4⟩
    ·refine .inr ⟨h3,fun j hj he hh => ?_⟩
     rcases Nat.lt_or_ge j k with h5|h5
     ·exact h4 j h5 he hh
     ·obtain rfl:j=k:=by omega
      exact h2 ⟨he,hh⟩
   split at h
   ·rename_i ob mk hc
    split at h
    ·rename_i hd
     by_cases e:N0+k=id
     ·subst e
      rw[T.get_set_same]at h;cases h
      exact .inl ⟨k,mk,by omega,rfl,hc,hd.1,hd.2⟩
     ·rw[T.bC _ _ e]at h
      exact more h (fun h2=>e h2.1.symm)
    ·rename_i hd
     exact more h (fun h2=>hd ⟨h2.2.2.1,h2.2.2.2⟩)
   ·rename_i hna
    refine more h (fun h2 => ?_)
    obtain⟨ob,mk,hc⟩:=FB.1 h2.2.1
    exact hna ob mk hc
theorem Ew {D:Nat→Bool} {id:Nat}:∀k,(∀j,j<k→id=N0+j→¬((c j).jY=true∧D j=true∧¬Mg c B n D j))→(PM c B n N0 M0 D k).get id=(chainOf c M0 D n).t.get id:=by
 intro k
 induction k with
 | zero=>intro _;rfl
 | succ k ih =>
   intro h
   have ih':=ih (fun j hj=>h j (by omega))
   simp only[PM]
   split
   ·rename_i ob mk hc
    split
    ·rename_i hd
     rw[T.bC _ _ (fun e=>h k (by omega) e.symm ⟨by rw[hc];rfl,hd.1,hd.2⟩)]
     exact ih'
    ·exact ih'
   ·exact ih'
theorem sF {b:Nat} {id:Nat} {o:fA} {t:T fA}:∀{l:List (Nat×fA)},(eZ N0 b l t).get id=some o→(∃j,(j,o)∈l∧id=N0+j∧b.testBit j=true)∨t.get id=some o:=by
 intro l
 induction l with
 | nil=>intro h;exact .inr h
 | cons x l ih =>
   intro h
   obtain⟨j,ob⟩:=x
   simp only[eZ]at h
   cases hb:Nat.testBit b j with
   | true =>
     rw[hb]at h
     simp only[cond]at h
     by_cases e:N0+j=id
     ·subst e
      rw[T.get_set_same]at h;cases h
      exact .inl ⟨j,by simp,rfl,hb⟩
     ·rw[T.bC _ _ e]at h
      rcases ih h with⟨k,h1,h2⟩|h1
      ·exact .inl ⟨k,by simp[h1],h2⟩
      ·exact .inr h1
   | false =>
     rw[hb]at h
     rcases ih h with⟨k,h1,h2⟩|h1
     ·exact .inl ⟨k,by simp[h1],h2⟩
     ·exact .inr h1
theorem zl {N:Nat} {σ:Sg} {f:Nat→Value} {a:Act} (hsz:a.tmps.size=N) (h:∀τ,VR σ (f τ) (a.tmps.getD τ undef)) {v v':Value} (hv:VR σ v v') (d:Option Tmp):∀τ,VR σ (if d=some τ∧τ<N then v else f τ) ((a.put d v').tmps.getD τ undef):=by
 intro τ
 cases d with
 | none=>simpa [Act.put]using h τ
 | some d =>
   simp only[Act.put,Option.some.injEq]
   by_cases e:d=τ
   ·subst e
    by_cases hN:d<N
    ·rw[if_pos ⟨rfl,hN⟩]
     have:d<a.tmps.size:=by rw[hsz];exact hN
     simp[this,hv]
    ·rw[if_neg (fun h=>hN h.2)]
     have:a.tmps.setIfInBounds d v'=a.tmps:=by
      apply Array.ext_getElem?
      intro q
      rw[Array.getElem?_setIfInBounds]
      by_cases e:d=q
      ·subst e;rw[if_pos rfl,if_neg (by rw[hsz];exact hN),Array.getElem?_eq_none (by rw[hsz];exact Nat.not_lt.1 hN)]
      ·rw[if_neg e]
     rw[this];exact h d
   ·rw[if_neg (fun h=>e h.1)]
    have:(a.tmps.setIfInBounds d v').getD τ undef=a.tmps.getD τ undef:=by
     simp[e]
    rw[this];exact h τ
theorem put_defers (a:Act) (d:Option Tmp) (v:Value):(a.put d v).defers=a.defers:=by cases d<;>rfl
theorem zm (a:Act) (d:Option Tmp) (v:Value):(a.put d v).tmps.size=a.tmps.size:=by cases d<;>simp[Act.put]
structure Inv (E:Env) (w0:World) (ops:Array Oper) (B:List Nat) (n N N0:Nat) (M0:Mem) (t0:T Value) (c:Nat→Cl) (GJ:Sg) (m0:Mem) (GL:World) (ds:List Deferred) (D:Nat→Bool) (σ:Sg) (a:Act) (w:World):Prop where
 size:a.tmps.size=N
 tr:∀τ,VR σ (W c ops N N0 t0 D n τ) (a.tmps.getD τ undef)
 mem:MR E w0 σ ⟨(chainOf c M0 D n).n,PM c B n N0 M0 D n⟩ w
 num:N0+n≤(chainOf c M0 D n).n
 fresh:∀i,i<n→¬(D i=true∧(c i).jY=true)→σ (N0+i)=none
 fg:FG GJ m0 GL σ ⟨(chainOf c M0 D n).n,PM c B n N0 M0 D n⟩ w
 defers:a.defers=ds
variable {GJ:Sg} {m0:Mem} {GL:World} {ds:List Deferred}
theorem Ez {D:Nat→Bool} {i j:Nat} (hc:(c i).eP=false):Mg c B n (kR D i) j↔Mg c B n D j:=by
 constructor
 ·rintro⟨e,h1,h2,h3,h4⟩
  rcases eX.1 h2 with h5|rfl
  ·exact⟨e,h1,h5,h3,h4⟩
  ·rw[hc]at h3;cases h3
 ·rintro⟨e,h1,h2,h3⟩;exact⟨e,h1,eX.2 (.inl h2),h3⟩
theorem wP {D:Nat→Bool} {i:Nat} (hc:(c i).eP=false) (k:Nat):chainOf c M0 (kR D i) k=chainOf c M0 D k :=
 uf k (fun e _ he=>lq (fun h=>by subst h;rw[hc]at he;cases he))
theorem Vg {D:Nat→Bool} {i:Nat} (hc:(c i).eP=false) (ha:(c i).jY=false):∀k,PM c B n N0 M0 (kR D i) k=PM c B n N0 M0 D k:=by
 intro k
 induction k with
 | zero=>simp only[PM];rw[wP hc]
 | succ k ih =>
   simp only[PM]
   rw[ih]
   split
   ·rename_i ob mk hck
    have hik:i≠k:=fun e=>by subst e;rw[hck]at ha;cases ha
    rw[lq hik]
    have:Mg c B n (kR D i) k↔Mg c B n D k:=Ez hc
    by_cases h:D k=true∧¬Mg c B n D k
    ·rw[if_pos h,if_pos ⟨h.1,fun h2=>h.2 (this.1 h2)⟩]
    ·rw[if_neg h,if_neg (fun h2=>h ⟨h2.1,fun h3=>h2.2 (this.2 h3)⟩)]
   ·rfl
theorem Inv.same (X:Ctx E call ops B n N N0 M0 t0 S c) {D:Nat→Bool} (hD:Down ops D) {i:Nat} {o:Oper} (r:Ready ops B D i o) {σ:Sg} {a:Act} {w:World} (I:Inv E w0 ops B n N N0 M0 t0 c GJ m0 GL ds D σ a w)
 (hc:(c i).eP=false) (ha:(c i).jY=false) {v':Value} (hv:VR σ ((c i).val N0 i) v'):Inv E w0 ops B n N N0 M0 t0 c GJ m0 GL ds (kR D i) σ (a.put o.dst v') w:=by
 have e1:=wP (M0:=M0) (D:=D) hc n
 have e2:=Vg (B:=B) (n:=n) (N0:=N0) (M0:=M0) (D:=D) hc ha n
 refine⟨by rw[zm];exact I.size,fun τ => ?_,by rw[e1,e2];exact I.mem,by rw[e1];exact I.num,fun j hj h=>I.fresh j hj (fun h2=>h ⟨eX.2 (.inl h2.1),h2.2⟩),by rw[e1,e2];exact I.fg,by rw[put_defers];exact I.defers⟩
 rw[Pm X.stt hD r]
 exact zl I.size I.tr hv o.dst τ
end
end Go.AS
namespace Go.AS
open Go.RowKit
variable [bH]
variable {E:Env} {P:Program} {w0:World}
section
variable {call:gM} {ops:Array Oper} {B:List Nat} {n N N0:Nat} {M0:Mem} {t0:T Value} {S:Nat→DS} {c:Nat→Cl} {GJ:Sg} {m0:Mem} {GL:World} {ds:List Deferred}
theorem uz {v:Option Value} {ob:fA} {mk:Mk} (h:ow v=[.new ob mk]):False:=by cases v<;>cases h
theorem Nw {ρ:Operand→Value} {o:Oper} {m:Mem} {ob:fA} {mk:Mk} (hf:mJ o.op=true) (h:jG E ρ o m=[.new ob mk]):ob.live=true:=by
 have h:kC E ρ o m=[.new ob mk]:=by
  unfold jG at h
  split at h
  ·exact h
  ·split at h
   ·cases h
   ·exact h
 unfold kC at h
 cases hop:o.op<;>rw[hop]at h hf<;>first
  | (cases hf;done)
  | (exact(uz h).elim)
  | skip
 all_goals simp only at h
 case move=>cases h
 case assign=>cases h
 case pick=>split at h<;>cases h
 case alloc=>split at h<;>cases h;rfl
 case box=>split at h<;>cases h;rfl
 case buildSlice t len parts =>
  cases hb:kF E t len (parts.toList.map fun p=>(p.1,ρ p.2))with
  | none=>rw[hb]at h;cases h
  | some out =>
    rw[hb]at h
    simp only[Ms,List.cons.injEq,and_true]at h
    subst h
    unfold kF at hb
    split at hb
    ·split at hb
     ·split at hb
      ·cases hb;rfl
      ·cases hb
     ·cases hb
    ·cases hb
 case nilCheck =>
  split at h
  ·cases h
  ·cases h
  ·split at h
   ·split at h<;>cases h
   ·cases h
  ·cases h
  ·cases h
  ·cases h
 case unOp =>
  split at h<;>first|(cases h;done)|exact(uz h).elim
 case makeInterface =>
  split at h
  ·split at h<;>cases h
  ·cases h
 case makeFunc=>cases h
 case makeMap t r=>cases r<;>cases h;rfl
 case makeSlice t l c =>
  cases hb:lM E t (ρ l) (ρ c)with
  | none=>rw[hb]at h;cases h
  | some out =>
    rw[hb]at h
    simp only[Ms,List.cons.injEq,and_true]at h
    subst h
    unfold lM at hb
    split at hb
    ·split at hb
     ·cases hb;rfl
     ·cases hb
    ·cases hb
 case extract =>
  split at h
  ·split at h<;>cases h
  ·cases h
 case call c =>
  simp only[mJ]at hf
  unfold qH at h
  split at hf
  ·rename_i hc
   rw[hc]at h
   simp only at h
   split at h<;>first|(cases h;done)|exact(uz h).elim
  ·rename_i hc
   rw[hc]at h
   simp only at h
   split at h<;>first|(cases h;done)|exact(uz h).elim
  ·cases hf
theorem wJ {S:DS} {o:Oper} {b:Nat} {ob:fA} {mk:Mk} (h:rJ E call ops n N0 M0 S o b=some (.alloc ob mk)):wanted ops o S.t=some true∧mJ o.op=true∧jG E (ku S.t) o M0=[.new ob mk]:=by
 unfold rJ at h
 split at h
 ·cases h
 ·cases h
 ·rename_i hw
  split at h
  ·rename_i hf
   split at h
   ·cases h
   ·rename_i he;cases h;exact⟨hw,hf,he⟩
   ·cases h
  ·split at h
   ·split at h<;>cases h
   ·split at h<;>cases h
   ·split at h
    ·split at h<;>cases h
    ·cases h
   ·cases h
theorem Jm {S:DS} {o:Oper} {b:Nat} {ob:fA} {mk:Mk} (h:rJ E call ops n N0 M0 S o b=some (.alloc ob mk)):ob.live=true:=Nw (wJ h).2.1 (wJ h).2.2
theorem Inv.alloc (X:Ctx E call ops B n N N0 M0 t0 S c) {D:Nat→Bool} (hD:Down ops D) {i:Nat} {o:Oper} (r:Ready ops B D i o) {σ:Sg} {a:Act} {w:World} (I:Inv E w0 ops B n N N0 M0 t0 c GJ m0 GL ds D σ a w)
 (hm0:m0.n=N0) {ob:fA} {mk:Mk} (hc:c i =.alloc ob mk) {v':Value} {obj:Obj} {x:Inf} (hx:x.b=w.heap.size) (hor:OR E σ x ob obj) (hmk:∀(σ':Sg) id,σ' id=some x→VR σ' (mk.val id) v') :
 ∃σ',Inv E w0 ops B n N N0 M0 t0 c GJ m0 GL ds (kR D i) σ' (a.put o.dst v') (w.alloc obj):=by
 have hi:i<n:=by rw[←X.stt.len];exact jq r.op
 have hce:(c i).eP=false:=by rw[hc];rfl
 have hid:σ (N0+i)=none:=I.fresh i hi (fun h=>by rw[r.out]at h;cases h.1)
 have N7:=I.num
 obtain⟨hm,_⟩:=I.mem.new (id:=N0+i) hid (n':=(chainOf c M0 D n).n) (Nat.le_refl _) (by omega) hx hor
 have zV:Ext σ (fun j=>if j=N0+i then some x else σ j):=fun j y hy=>by
  have:j≠N0+i:=fun e=>by rw[e,hid]at hy;cases hy
  simp[this,hy]
 have e1:=wP (M0:=M0) (D:=D) hce n
 have aak:¬Mg c B n (kR D i) i:=fun h=>by
  obtain⟨e,h1,h2,h3,h4⟩:=(Ez hce).1 h
  have:=X.stt.closed hD e i h2 h4
  rw[r.out]at this;cases this
 have hsub:∀id q,(PM c B n N0 M0 (kR D i) n).get id=some q→q.live=true→((PM c B n N0 M0 D n).set (N0+i) ob).get id=some q:=by
  intro id q hq _
  rcases Jq n hq with⟨j,mk',h1,rfl,h3,h4,h5⟩|⟨h1,h2⟩
  ·by_cases e:i=j
   ·subst e;rw[hc]at h3;cases h3;rw[T.get_set_same]
   ·rw[T.bC _ _ (by omega)]
    rw[lq e]at h4
    exact Ey h3 h4 (fun h=>h5 ((Ez hce).2 h)) n h1
  ·have hne:N0+i≠id:=fun e=>h2 i hi e.symm ⟨by rw[hc];rfl,eX.2 (.inr rfl),aak⟩
   rw[T.bC _ _ hne,Ew n (fun j hj he hh=>h2 j hj he ⟨hh.1,eX.2 (.inl hh.2.1),fun h=>hh.2.2 ((Ez hce).1 h)⟩),←e1]
   exact h1
 refine⟨fun j=>if j=N0+i then some x else σ j,?_⟩
 have hmem:MR E w0 (fun j=>if j=N0+i then some x else σ j) ⟨(chainOf c M0 (kR D i) n).n,PM c B n N0 M0 (kR D i) n⟩ (w.alloc obj):=hm.sub (by rw[e1]) hsub
 refine⟨by rw[zm];exact I.size,fun τ => ?_,hmem,by rw[e1];exact I.num,fun j hj h => ?_,?_,by rw[put_defers];exact I.defers⟩
 ·rw[Pm X.stt hD r]
  refine zl (f:=fun τ=>W c ops N N0 t0 D n τ) I.size (fun τ=>(I.tr τ).mono zV) (v:=(c i).val N0 i) ?_ o.dst τ
  rw[hc]
  exact hmk _ _ (if_pos rfl)
 ·have hji:j≠i:=fun e=>h ⟨by rw[e];exact eX.2 (.inr rfl),by rw[e,hc];rfl⟩
  have:N0+j≠N0+i:=by omega
  simp only[this,if_false]
  exact I.fresh j hj (fun h2=>h ⟨eX.2 (.inl h2.1),h2.2⟩)
 ·refine⟨I.fg.ext.trans zV,Nat.le_trans I.fg.size (by simp),fun b hb hl => ?_,fun b hb => ?_,by rw[e1];exact I.fg.n,fun j hj => ?_⟩
  ·rw[Below.heap_alloc w obj b (Nat.lt_of_lt_of_le hb I.fg.size)];exact I.fg.frame b hb hl
  ·obtain⟨id,q,y,h1,h2,h3,h4⟩:=hb
   have h5:=hsub id q h1 h2
   by_cases e:N0+i=id
   ·subst e
    simp only[if_true,Option.some.injEq]at h3
    subst h3
    exact .inr (by have:=I.fg.size;omega)
   ·rw[T.bC _ _ e]at h5
    have e':id≠N0+i:=fun h=>e h.symm
    simp only[e',if_false]at h3
    exact I.fg.grow b ⟨id,q,y,h5,h2,h3,h4⟩
  ·have:j≠N0+i:=by omega
   simp only[this,if_false]
   exact I.fg.old j hj
theorem Inv.kM (X:Ctx E call ops B n N N0 M0 t0 S c) {D:Nat→Bool} (hD:Down ops D) {i:Nat} {o:Oper} (r:Ready ops B D i o) {σ:Sg} {a:Act} {w:World} (I:Inv E w0 ops B n N N0 M0 t0 c GJ m0 GL ds D σ a w)
 (hm0:m0.n=N0) {v:Value} {m':Mem} (hc:c i =.kM v m') :
 MR E w0 σ ⟨(S i).chain.n,eZ N0 (B.getD i 0) (S i).eU (S i).chain.t⟩ w∧∀{σ':Sg} {v':Value} {w':World},FG σ ⟨(S i).chain.n,eZ N0 (B.getD i 0) (S i).eU (S i).chain.t⟩ w σ' m' w'→MR E w0 σ' m' w'→VR σ' v v' →
  Inv E w0 ops B n N N0 M0 t0 c GJ m0 GL ds (kR D i) σ' (a.put o.dst v') w':=by
 have hi:i<n:=by rw[←X.stt.len];exact jq r.op
 have hce:(c i).eP=true:=by rw[hc];rfl
 have hcl:=X.run.cls i o r.op
 rw[hc]at hcl
 obtain⟨abf,hfr,_⟩:=oO (vK hcl)
 have rc:=recs X.run i (by rw[X.stt.len];omega)
 have hin:∀e,e<n→(c e).eP=true→(D e=true↔e<i):=by
  intro e he hef
  constructor
  ·intro hd
   rcases Nat.lt_or_ge e i with h1|h1
   ·exact h1
   ·by_cases h2:e=i
    ·subst h2;rw[r.out]at hd;cases hd
    ·have:=X.stt.closed hD e i hd (X.kD he (by omega) hce hef)
     rw[r.out]at this;cases this
  ·intro h1
   exact r.before e (X.kD hi h1 hef hce)
 have hch:chainOf c M0 D n=(S i).chain:=by
  rw[rc.chain,Cu (i:=i) n (by omega) (fun e he hen hef=>by
   cases hd:D e with
   | false=>rfl
   | true=>have:=(hin e hen hef).1 hd;omega)]
  exact uf i (fun e he hef=>(hin e (by omega) hef).2 he)
 have hMg:∀j,Mg c B n D j↔∃e,e<i∧(c e).eP=true∧(B.getD e 0).testBit j=true:=by
  intro j
  constructor
  ·rintro⟨e,h1,h2,h3,h4⟩;exact⟨e,(hin e h1 h3).1 h2,h3,h4⟩
  ·rintro⟨e,h1,h2,h3⟩;exact⟨e,by omega,(hin e (by omega) h2).2 h1,h2,h3⟩
 have XL:∀j,Mg c B n (kR D i) j↔Mg c B n D j∨(B.getD i 0).testBit j=true:=by
  intro j
  constructor
  ·rintro⟨e,h1,h2,h3,h4⟩
   rcases eX.1 h2 with h5|rfl
   ·exact .inl ⟨e,h1,h5,h3,h4⟩
   ·exact .inr h4
  ·rintro(⟨e,h1,h2,h3⟩|h)
   ·exact⟨e,h1,eX.2 (.inl h2),h3⟩
   ·exact⟨i,hi,eX.2 (.inr rfl),hce,h⟩
 have hsub:∀id q,(eZ N0 (B.getD i 0) (S i).eU (S i).chain.t).get id=some q→q.live=true→(PM c B n N0 M0 D n).get id=some q:=by
  intro id q hq hl
  rcases sF hq with⟨j,h1,rfl,h3⟩|h1
  ·obtain⟨h4,⟨mk,h5⟩,h6⟩:=(rc.eU j q).1 h1
   refine Ey h5 (r.before j h3) (fun h => ?_) n (by omega)
   obtain⟨e,g1,g2,g3⟩:=(hMg j).1 h
   have hje:=X.back g3
   have hne:j≠e:=fun e2=>by subst e2;rw[h5]at g2;cases g2
   rw[h6 e g1 (by omega) g2]at g3;cases g3
  ·rw[Ew n,hch]
   ·exact h1
   ·rintro j hj rfl ⟨g1,g2,g3⟩
    rcases X.ug hD hj with h4|h4
    ·exact g3 h4
    ·rw[hch]at h4
     rw[oI h4 q h1]at hl;cases hl
 have hme:MR E w0 σ ⟨(S i).chain.n,eZ N0 (B.getD i 0) (S i).eU (S i).chain.t⟩ w:=I.mem.sub (by rw[hch]) hsub
 refine⟨hme,fun{σ' v' w'} hF hM hV => ?_⟩
 have hch':chainOf c M0 (kR D i) n=m':=by
  rw[Cu (i:=i+1) n (by omega) (fun e he hen hef=>by
   rw[lq (by omega)]
   cases hd:D e with
   | false=>rfl
   | true=>have:=(hin e hen hef).1 hd;omega)]
  simp only[chainOf,eX.2 (.inr rfl),hc]
 have hmn:(S i).chain.n≤m'.n:=hF.n
 have N7:=I.num
 rw[hch]at N7
 have pend:∀k ob mk,k<n→c k =.alloc ob mk→kR D i k=true→¬Mg c B n (kR D i) k→∃x oH,σ (N0+k)=some x∧Mine E w0 x.b∧w.heap[x.b]? = some oH∧OR E σ x ob oH∧(PM c B n N0 M0 D n).get (N0+k)=some ob∧ob.live=true∧¬dY σ ⟨(S i).chain.n,eZ N0 (B.getD i 0) (S i).eU (S i).chain.t⟩ x.b:=by
  intro k ob mk hk hck hdk hmk
  have hki:i≠k:=fun e=>by subst e;rw[hck]at hc;cases hc
  rw[lq hki]at hdk
  have Xn:¬Mg c B n D k:=fun h=>hmk ((XL k).2 (.inl h))
  have ZZ:(B.getD i 0).testBit k=false:=by
   cases hb:(B.getD i 0).testBit k with
   | false=>rfl
   | true=>exact absurd ((XL k).2 (.inr hb)) hmk
  have hget:(PM c B n N0 M0 D n).get (N0+k)=some ob:=Ey hck hdk Xn n hk
  have hlive:ob.live=true:=by
   cases hl:ob with
   | dead =>
     exfalso
     have Oh:=X.lt hk
     obtain⟨o2,ho2⟩:=Oh
     have h2:=X.run.cls k o2 ho2
     rw[hck,hl]at h2
     have:=Jm h2
     cases this
   | _=>rfl
  obtain⟨x,oH,h1,h2,h3,h4⟩:=I.mem.obj _ _ hget hlive
  refine⟨x,oH,h1,h2,h3,h4,hget,hlive,?_⟩
  rintro⟨id,q,y,g1,g2,g3,g4⟩
  have g5:=hsub id q g1 g2
  have g6:id=N0+k:=I.mem.inj id (N0+k) q ob y x g5 g2 hget hlive g3 h1 g4
  subst g6
  rcases sF g1 with⟨j,f1,f2,f3⟩|f1
  ·have:j=k:=by omega
   subst this
   rw[ZZ]at f3;cases f3
  ·rcases X.ug hD hk with h5|h5
   ·exact Xn h5
   ·rw[hch]at h5
    rw[oI h5 q f1]at g2;cases g2
 have hmem:∀k,k≤n→MR E w0 σ' ⟨m'.n,PM c B n N0 M0 (kR D i) k⟩ w':=by
  intro k
  induction k with
  | zero =>
    intro _
    simp only[PM,hch']
    exact hM
  | succ k ih =>
    intro hk
    have ih':=ih (by omega)
    simp only[PM]
    split
    ·rename_i ob mk hck
     split
     ·rename_i hd
      obtain⟨x,oH,h1,h2,h3,h4,h5,h6,h7⟩:=pend k ob mk (by omega) hck hd.1 hd.2
      have hlt:x.b<w.heap.size:=(Array.getElem?_eq_some_iff.1 h3).1
      refine ih'.JJ (x:=x) (hF.ext _ _ h1) h2 ?_ (by rw[hF.frame x.b hlt h7];exact h3) (h4.mono hF.ext)
      rintro⟨id,q,y,g1,g2,g3,g4⟩
      rcases Jq k g1 with⟨j,mk',f1,rfl,f3,f4,f5⟩|⟨f1,_⟩
      ·obtain⟨y0,_,e1,_,_,_,e5,e6,_⟩:=pend j q mk' (by omega) f3 f4 f5
       have:y0=y:=by have:=hF.ext _ _ e1;rw[g3]at this;exact(Option.some.inj this).symm
       subst this
       have:=I.mem.inj _ _ _ _ _ _ e5 e6 h5 h6 e1 h1 g4
       omega
      ·rw[hch']at f1
       rcases hF.grow x.b ⟨id,q,y,f1,g2,g3,g4⟩with f2|f2
       ·exact h7 f2
       ·omega
     ·exact ih'
    ·exact ih'
 refine⟨by rw[zm];exact I.size,fun τ => ?_,by rw[hch'];exact hmem n (Nat.le_refl _),by rw[hch'];omega,fun j hj h => ?_,?_,by rw[put_defers];exact I.defers⟩
 ·rw[Pm X.stt hD r]
  refine zl (f:=fun τ=>W c ops N N0 t0 D n τ) I.size (fun τ=>(I.tr τ).mono hF.ext) (v:=(c i).val N0 i) ?_ o.dst τ
  rw[hc];exact hV
 ·rw[hF.old (N0+j) (by show N0+j<(S i).chain.n;omega)]
  exact I.fresh j hj (fun h2=>h ⟨eX.2 (.inl h2.1),h2.2⟩)
 ·rw[hch']
  refine⟨I.fg.ext.trans hF.ext,Nat.le_trans I.fg.size hF.size,fun b hb hl => ?_,fun b hb => ?_,?_,fun j hj => ?_⟩
  ·rw[hF.frame b (Nat.lt_of_lt_of_le hb I.fg.size) (fun hl2=>by
    rcases I.fg.grow b (hl2.sub hsub)with h1|h1
    ·exact hl h1
    ·omega)]
   exact I.fg.frame b hb hl
  ·obtain⟨id,q,y,h1,h2,h3,h4⟩:=hb
   rcases Jq n h1 with⟨j,mk',f1,rfl,f3,f4,f5⟩|⟨f1,_⟩
   ·obtain⟨y0,_,e1,_,_,_,e5,e6,_⟩:=pend j q mk' f1 f3 f4 f5
    have:y0=y:=by have:=hF.ext _ _ e1;rw[h3]at this;exact(Option.some.inj this).symm
    subst this
    exact I.fg.grow b ⟨_,q,y0,e5,e6,e1,h4⟩
   ·rw[hch']at f1
    rcases hF.grow b ⟨id,q,y,f1,h2,h3,h4⟩with f2|f2
    ·exact I.fg.grow b (f2.sub hsub)
    ·exact .inr (Nat.le_trans I.fg.size f2)
  ·have:=I.fg.n
   simp only at this
   rw[hch]at this
   show m0.n≤m'.n
   omega
  ·rw[hF.old j (by show j<(S i).chain.n;omega)]
   exact I.fg.old j hj
end
end Go.AS
