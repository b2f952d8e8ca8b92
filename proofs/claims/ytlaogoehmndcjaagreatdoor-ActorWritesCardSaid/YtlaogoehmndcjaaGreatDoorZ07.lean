import Derived.Test.YtlaogoehmndcjaaGreatDoorZ06
set_option linter.unusedSectionVars false
set_option linter.unusedVariables false
set_option linter.unusedSimpArgs false
namespace Go.AS
open Go.RowKit
variable [bH]
variable {E:Env} {P:Program} {w0:World} {σ:Sg} {m:Mem} {w:World}
theorem pX {a b:IntKind} (h:sameKind a b=true):a=b:=by cases a<;>cases b<;>first|rfl|(cases h;done)
theorem qG (h:MR E w0 σ m w) {a:Addr} {v p':Value} (hl:Gg a m=some v) (hp:VR σ (.pointer (some a)) p') :
 ∃b o v' C e fz,p' =.pointer (some ⟨b,o,none⟩)∧w.heap[b]? = some (.cells C e fz)∧w.cell? ⟨b,o,none⟩=some v'∧w.frozen? ⟨b,o,none⟩=false∧VR σ v v':=by
 unfold Gg at hl
 split at hl
 ·rename_i cells n e hrow
  split at hl
  ·rename_i hle
   have hle':=Nat.le_of_ble_eq_true hle
   cases hp with
   | refl hs=>simp[simple]at hs
   | ptr hx =>
     rename_i i' o x
     obtain⟨C,fz,hB,eu,hf,hN,hn,_,hc⟩:=h.row hrow hx
     simp only at hle' hl
     obtain⟨u,u',hu1,hu2,hr⟩:=hc o (by omega)
     rw[hl]at hu1
     cases hu1
     exact⟨x.b,x.sh+o,u',C,e,fz,rfl,eu,by rw[kE eu];exact hu2,Aa eu hf (by omega),hr⟩
  ·cases hl
 ·cases hl
theorem Le {a:Addr} {p':Value} (h:VR σ (.pointer (some a)) p'):a=⟨a.block,a.off,none⟩:=by
 cases h with
 | refl hs=>simp[simple]at hs
 | ptr hx=>rfl
theorem NL (t:Extern.Atomic.T) (a:Value):Extern.Atomic.loadT t #[a]=(do Extern.Atomic.read t (←asAddr a)):=rfl
theorem KY (a v:Value):Extern.Atomic.storeT #[a,v]=(do store (←asAddr a) v .atomic;pure Extern.Atomic.none_):=rfl
theorem KV (op:IntKind→Int→Int→Sem Value) (k:IntKind) (r:Bool) (addr y:Value):Extern.Atomic.update op k r #[addr,y]=(do
 let a ←asAddr addr
 let old ←Extern.Atomic.read (.int k) a
 let new ←op k (←asInt old) (←asInt y)
 store a new .atomic
 pure (if r then new else old)):=rfl
theorem uK {w:World} {b o:Nat} {k:IntKind} {n:Int} (hc:w.cell? ⟨b,o,none⟩=some (.int k n)):(Extern.Atomic.read (.int k) ⟨b,o,none⟩).run P w =.ok (.int k n) w:=by
 simp[Extern.Atomic.read,load,Sem.run,hc,Bind.bind,Sem.bind,Pure.pure]
theorem wY {w:World} {b o:Nat} {C:Array Value} {e:TypeId} {fz:Nat×Nat} (h:w.heap[b]? = some (.cells C e fz)) (hz:w.frozen? ⟨b,o,none⟩=false):(Extern.Atomic.touchesFrozen ⟨b,o,none⟩).run P w =.ok false w:=by
 have hs:(w.shape? b).isSome=true:=by simp[World.shape?,h]
 have hv:(viewAt b).run P w =.ok none w:=by
  simp[viewAt,shape,Sem.run,Bind.bind,Sem.bind,hs]
 simp only[Extern.Atomic.touchesFrozen,Sem.run_bind,hv,Result.andThen_ok]
 simp[frozen,Sem.run,hz]
theorem casT_eq (t:Extern.Atomic.T) (addr old new:Value):Extern.Atomic.casT t #[addr,old,new]=(do
 let a ←asAddr addr
 if ←Extern.Atomic.touchesFrozen a then unsupported (.unsafePointer "a write to bytes that a string shares")
 let eq ←match t,←Extern.Atomic.read t a,old with
  | _,.int _ x,.int _ y=>pure (x==y)
  | .ptr,.pointer x,.pointer y=>samePointer x y
  | .int _,.pointer (some _),.int _ 0 | .int _,.int _ 0,.pointer (some _)=>pure false
  | .int _,.pointer (some _),_ | .int _,_,.pointer (some _)=>unsupported .addressObserved
  | _,_,_=>stuck "atomic.CompareAndSwap: old is no T"
 if eq then store a new .atomic
 pure (.bool eq)):=rfl
theorem nY (a:Addr):asAddr (.pointer (some a))=pure a:=rfl
theorem O5 (k:IntKind) (n:Int):asInt (.int k n)=pure n:=rfl
theorem vY (h:MR E w0 σ m w) {a:Addr} {v v' p':Value} {m':Mem} {b o:Nat} (hs:mW ⟨a.block,a.off,none⟩ [v] m=some m') (hp:VR σ (.pointer (some a)) p') (hpe:p' =.pointer (some ⟨b,o,none⟩)) (hv:VR σ v v') {u:Value} (hc:w.cell? ⟨b,o,none⟩=some u) :
 ∃w',(store ⟨b,o,none⟩ v' .atomic).run P w =.ok () w'∧MR E w0 σ m' w'∧FG σ m w σ m' w':=by
 rw[←Le hp]at hs
 obtain⟨a',w',h1,_,h2,h3,h4⟩:=kW (P:=P) h hs hp (cZ.cons hv (cZ.nil σ))
 obtain rfl:a'=⟨b,o,none⟩:=by rw[hpe]at h1;cases h1;rfl
 refine⟨w',?_,h3,h4⟩
 rw[←h2]
 simp only[storeCells,addr_add,Nat.add_zero]
 cases v'<;>simp[store,Sem.run,hc]<;>rfl
theorem IM (h:MR E w0 σ m w) {x:BH} {args:List Value} {args':Array Value} {out:Out} (ho:Ul x args m=some out) (hl:cZ σ args args'.toList) :
 gB E P w0 σ m w (do pure (.value (←x.impl args'))) out:=by
 have two:∀{a b:Value},args=[a,b]→∃a' b',args' =#[a',b']∧VR σ a a'∧VR σ b b':=by
  intro a b e
  subst e
  rcases args' with⟨l⟩
  match l,hl with
  | [a',b'],hl=>exact⟨a',b',rfl,hl.head,hl.tail.head⟩
  | [],hl=>exact absurd hl.1 (by simp)
  | [_],hl=>exact absurd hl.1 (by simp)
  | _::_::_::_,hl=>exact absurd hl.1 (by simp)
 unfold Ul at ho
 split at ho
 ·rename_i k a
  obtain⟨a',rfl,ha⟩:∃a',args' =#[a']∧VR σ (.pointer (some a)) a':=by
   rcases args' with⟨l⟩
   match l,hl with
   | [a'],hl=>exact⟨a',rfl,hl.head⟩
   | [],hl=>exact absurd hl.1 (by simp)
   | _::_::_,hl=>exact absurd hl.1 (by simp)
  split at ho
  ·rename_i j n hcell
   split at ho
   ·rename_i hk
    obtain rfl:=pX hk
    cases ho
    obtain⟨b,o,v',C,e,fz,rfl,eu,hc,hz,hv⟩:=qG h hcell ha
    obtain rfl:=hv.aB rfl
    refine bT (s0:=BH.impl (.load k) #[.pointer (some ⟨b,o,none⟩)]) rfl ?_ (.refl rfl)
    simp only[BH.impl,NL,nY,Sem.run_bind,Sem.run_pure,Result.andThen_ok,uK hc]
   ·cases ho
  ·cases ho
 ·rename_i a v
  obtain⟨a',v',rfl,ha,hv⟩:=two rfl
  split at ho
  ·rename_i m' hb hs
   cases ho
   have hw:∃b o u,a' =.pointer (some ⟨b,o,none⟩)∧w.cell? ⟨b,o,none⟩=some u:=by
    unfold mW at hs
    split at hs
    ·rename_i cells n e hrow
     split at hs
     ·rename_i hle _
      have hle':=Nat.le_of_ble_eq_true hle
      cases ha with
      | refl h=>simp[simple]at h
      | ptr hx =>
        rename_i i o x
        obtain⟨C,fz,hB,eu,hf,hN,hn,_,hc⟩:=h.row hrow hx
        simp only[List.length_cons,List.length_nil]at hle'
        obtain⟨u,u',_,hu2,_⟩:=hc o (by omega)
        exact⟨_,_,u',rfl,by rw[kE eu];exact hu2⟩
     ·cases hs
    ·cases hs
   obtain⟨b,o,u,rfl,hc⟩:=hw
   obtain⟨w',h1,h2,h3⟩:=vY (P:=P) h hs ha rfl hv hc
   refine iF (s0:=BH.impl .store #[.pointer (some ⟨b,o,none⟩),v']) rfl ?_ (VR.undef σ) h2 h3
   simp only[BH.impl,KY,nY,Sem.run_bind,Sem.run_pure,Result.andThen_ok,h1]
   rfl
  ·cases ho
 ·rename_i k a j y
  obtain⟨a',v',rfl,ha,hv⟩:=two rfl
  split at ho
  ·rename_i i n hcell
   split at ho
   ·rename_i m' hk hs
    obtain rfl:=pX hk
    cases ho
    obtain⟨b,o,u,C,e,fz,rfl,eu,hc,hz,hu⟩:=qG h hcell ha
    obtain rfl:=hu.aB rfl
    obtain rfl:=hv.aB rfl
    obtain⟨w',h1,h2,h3⟩:=vY (P:=P) h hs ha rfl (.refl (v :=.int k (k.wrap (n+y))) rfl) hc
    refine iF (s0:=BH.impl (.add k) #[.pointer (some ⟨b,o,none⟩),.int j y]) rfl ?_ (.refl rfl) h2 h3
    simp only[BH.impl,KV,nY,O5,Op.intArith,Sem.run_bind,Sem.run_pure,Result.andThen_ok,uK hc,h1,if_true]
   ·cases ho
  ·cases ho
 ·rename_i k a j y v
  obtain⟨a',y',v',rfl,ha,hy,hv⟩:∃a' y' v',args' =#[a',y',v']∧VR σ (.pointer (some a)) a'∧VR σ (.int j y) y'∧VR σ v v':=by
   rcases args' with⟨l⟩
   match l,hl with
   | [a',y',v'],hl=>exact⟨a',y',v',rfl,hl.head,hl.tail.head,hl.tail.tail.head⟩
   | [],hl=>exact absurd hl.1 (by simp)
   | [_],hl=>exact absurd hl.1 (by simp)
   | [_,_],hl=>exact absurd hl.1 (by simp)
   | _::_::_::_::_,hl=>exact absurd hl.1 (by simp)
  split at ho
  ·rename_i i n hcell _
   split at ho
   ·rename_i hk
    obtain rfl:=pX hk
    obtain⟨b,o,u,C,e,fz,rfl,eu,hc,hz,hu⟩:=qG h hcell ha
    obtain rfl:=hu.aB rfl
    obtain rfl:=hy.aB rfl
    split at ho
    ·rename_i hny
     split at ho
     ·rename_i m' hs
      cases ho
      obtain⟨w',h1,h2,h3⟩:=vY (P:=P) h hs ha rfl hv hc
      refine iF (s0:=BH.impl (.U3 k) #[.pointer (some ⟨b,o,none⟩),.int j y,v']) rfl ?_ (.refl (v :=.bool true) rfl) h2 h3
      simp only[BH.impl,casT_eq,nY,Sem.run_bind,Sem.run_pure,Result.andThen_ok,uK hc,wY eu hz,Bool.false_eq_true,if_false,hny,if_true,h1]
     ·cases ho
    ·rename_i hny
     cases ho
     refine bT (s0:=BH.impl (.U3 k) #[.pointer (some ⟨b,o,none⟩),.int j y,v']) rfl ?_ (.refl (v :=.bool false) rfl)
     simp only[BH.impl,casT_eq,nY,Sem.run_bind,Sem.run_pure,Result.andThen_ok,uK hc,wY eu hz,Bool.false_eq_true,if_false,hny]
   ·cases ho
  ·cases ho
 ·rename_i a b
  obtain⟨a',b',rfl,ha,hb⟩:=two rfl
  obtain rfl:=ha.aB rfl
  obtain rfl:=hb.aB rfl
  cases ho
  exact bT (s0:=BH.impl .QY #[.string a,.string b]) rfl (Lib.run_compareString a b w) (.refl rfl)
 ·rename_i q k
  cases ho
  exact bT (s0:=BH.impl (.WH k) args') (v':=und) rfl rfl (VR.undef σ)
 ·rename_i k a
  cases ho
  obtain⟨a',rfl,ha⟩:∃a',args' =#[a']∧VR σ (.pointer (some a)) a':=by
   rcases args' with⟨l⟩
   match l,hl with
   | [a'],hl=>exact⟨a',rfl,hl.head⟩
   | [],hl=>exact absurd hl.1 (by simp)
   | _::_::_,hl=>exact absurd hl.1 (by simp)
  cases ha with
  | refl h=>simp[simple]at h
  | ptr hx=>exact bT (s0:=BH.impl (.Fw k) _) (v':=und) rfl rfl (VR.undef σ)
 ·cases ho
end Go.AS
