import Derived.Laws.LoneSync
import Derived.Test.YtlaogoehmndcjaaGreatDoorZ05
import Derived.Laws.BytesArg
set_option linter.unusedSectionVars false
set_option linter.unusedVariables false
set_option linter.unusedSimpArgs false
namespace Go.AS
open Go.RowKit
variable [bH]
variable {E:Env} {P:Program} {w0:World} {σ:Sg} {m:Mem} {w:World}
theorem EG (hE:jO E P) (h:MR E w0 σ m w) {t:TypeId} {a x a' x':Value} {m':Mem} (hs:G5 E t a x m=some m') (ha:VR σ a a') (hx:VR σ x x') :
 ∃w',(Instr.storeAt t a' x').run P w =.ok () w'∧MR E w0 σ m' w'∧FG σ m w σ m' w':=by
 unfold G5 at hs
 split at hs
 ·rename_i ad ti hti hnb
  obtain⟨hu,i,z,hi,hsz,_⟩:=hE.types t ti hti
  split at hs
  ·rename_i hb
   have hb':=Nat.eq_of_beq_eq_true hb
   have hnb':x≠bad:=by rintro rfl;simp[vk,bad]at hnb
   have hcs:=hx.cells hnb'
   cases ha with
   | refl h0=>simp[AS.simple]at h0
   | ptr hy =>
     rename_i j o y
     obtain⟨a',w',ha',_,hrun,hm',hf'⟩:=kW (P:=P) h hs (.ptr hy) hcs
     cases ha'
     refine⟨w',?_,hm',hf'⟩
     have hlen:x'.cells.size=i.size:=by rw[hsz,←hb',hcs.1];simp
     simp[Instr.storeAt,Instr.sureAddr,storeVar,fV hi,hlen,hrun]
  ·cases hs
 ·cases hs
theorem EX (a:Array Obj) (x:Obj) (f:Obj→Obj):(a.push x).modify a.size f=a.push (f x):=by
 apply Array.ext
 ·simp
 ·intro i h1 h2
  simp only[Array.getElem_modify,Array.getElem_push]
  by_cases h:a.size=i
  ·subst h
   simp
  ·have hi:i<a.size:=by simp at h1;omega
   simp[h,hi]
theorem DT (w:World) (C:Array Value) (e:TypeId) (k:Nat):(w.alloc (.cells C e)).freeze ⟨w.heap.size,k,none⟩ 1=w.alloc (.cells C e (k,k+1)):=by
 unfold World.freeze
 rw[if_neg (by decide)]
 show({ w.alloc (.cells C e)with heap:=(w.heap.push (.cells C e)).modify w.heap.size _ }:World)=_
 rw[EX]
 rfl
theorem xC (w:World) (a:Addr) (k:Nat) (h:k≠a.block):(w.freeze a 1).heap[k]? = w.heap[k]? := by
 simp only[World.freeze]
 rw[if_neg (by decide)]
 simp only[Array.getElem?_modify]
 rw[if_neg (fun e=>h e.symm)]
theorem zW {w:World} {b:Nat} {C:Array Value} {e:TypeId} {fz:Nat×Nat} (h:w.heap[b]? = some (.cells C e fz)) (k:Nat) :
 (w.freeze ⟨b,k,none⟩ 1).heap[b]? = some (.cells C e (if fz.1==fz.2 then(k,k+1)else(min fz.1 k,max fz.2 (k+1)))):=by
 unfold World.freeze
 rw[if_neg (by decide)]
 simp[Array.getElem?_modify,h]
theorem LD (w:World) (a:Addr):(w.freeze a 1).os=w.os∧(w.freeze a 1).tape=w.tape∧(w.freeze a 1).output=w.output∧(w.freeze a 1).heap.size=w.heap.size:=by
 unfold World.freeze
 rw[if_neg (by decide)]
 exact⟨rfl,rfl,rfl,by simp⟩
theorem Im {l:List Value}:∀{bs:List UInt8},l.mapM (fun v=>match v with | .int .u8 (.ofNat b)=>some (UInt8.ofNat b)|_=>none)=some bs→∀{l':List Value},cZ σ l l' →
 ∃ns:List Int,l'=ns.map (Value.int .u8)∧ns.map (fun n=>UInt8.ofNat n.toNat)=bs:=by
 induction l with
 | nil =>
   intro bs h l' hl
   simp at h;subst h
   have:l'=[]:=List.eq_nil_of_length_eq_zero hl.1.symm
   subst this
   exact⟨[],rfl,rfl⟩
 | cons v l ih =>
   intro bs h l' hl
   cases l' with
   | nil=>exact absurd hl.1 (by simp)
   | cons v' l' =>
     simp only[List.mapM_cons,Option.bind_eq_bind,Option.bind_eq_some_iff,Option.pure_def,Option.some.injEq]at h
     obtain⟨b,hb,r,hr,rfl⟩:=h
     split at hb
     ·rename_i n
      cases hb
      obtain⟨ns,rfl,hns⟩:=ih hr hl.tail
      obtain rfl:=hl.head.aB rfl
      exact⟨Int.ofNat n::ns,rfl,by simp[hns]⟩
     ·cases hb
theorem su (hE:jO E P) (h:MR E w0 σ m w) {src dst:TypeId} {x x':Value} {out:Out} (ha:qD E src dst x m=some out) (hx:VR σ x x'):gB E P w0 σ m w (do pure (.value (←convert src dst x'))) out:=by
 unfold qD at ha
 split at ha
 ·rename_i ts td hts htd
  obtain⟨Iy,_⟩:=hE.types src ts hts
  obtain⟨hud,_⟩:=hE.types dst td htd
  split at ha
  ·rename_i k j n hd
   cases ha
   obtain rfl:=hx.aB rfl
   refine bT rfl (v' :=.int k (k.wrap n)) ?_ (.refl rfl)
   rw[hd]at hud
   unfold convert
   simp only[Sem.run_bind,run_underlying Iy,run_underlying hud,Result.andThen_ok]
   cases ts.desc<;>rfl
  ·rename_i s hd
   cases ha
   obtain rfl:=hx.aB rfl
   refine bT rfl (v' :=.string s) ?_ (.refl rfl)
   rw[hd]at hud
   unfold convert
   simp only[Sem.run_bind,run_underlying Iy,run_underlying hud,Result.andThen_ok]
   cases ts.desc<;>rfl
  ·rename_i e s hd
   split at ha
   ·rename_i te hte
    obtain⟨hue,i,z,hi,hsz,_⟩:=hE.types e te hte
    split at ha
    ·rename_i hde hs1 hle
     have hle':=Nat.le_of_ble_eq_true hle
     cases ha
     obtain rfl:=hx.aB rfl
     rw[hd]at hud
     rw[hde]at hue
     have hss:s.size=s.data.toList.length:=by cases s;rfl
     have hcap:=grownCap_ge w s.size 0 e
     have XA:(convert src dst (.string s)).run P w=(Conv.stringToBytes e s).run P w:=by
      unfold convert
      simp only[Sem.run_bind,run_underlying Iy,run_underlying hud,Result.andThen_ok]
      cases ts.desc<;>simp[run_underlying hue]
     have hrun:(Conv.stringToBytes e s).run P w =.ok (.slice (some ⟨w.heap.size,0,none⟩) s.data.toList.length (grownCap w s.size 0 e))
      (w.drew.alloc (.cells ((s.data.toList.map fun b=>Value.int .u8 b.toNat).toArray++(List.replicate (grownCap w s.size 0 e-s.size) (Value.int .u8 0)).toArray) e (grownCap w s.size 0 e,grownCap w s.size 0 e+1))):=by
      have harr:(s.data.map fun b=>Value.int .u8 b.toNat)++Array.replicate (grownCap w s.size 0 e-s.size) (Value.int .u8 0)=(s.data.toList.map fun b=>Value.int .u8 b.toNat).toArray++(List.replicate (grownCap w s.size 0 e-s.size) (Value.int .u8 0)).toArray:=by
       apply Array.ext'
       simp
      have hCs:((s.data.toList.map fun b=>Value.int .u8 b.toNat).toArray++(List.replicate (grownCap w s.size 0 e-s.size) (Value.int .u8 0)).toArray).size=grownCap w s.size 0 e:=by
       simp only[List.append_toArray,List.size_toArray,List.length_append,List.length_map,List.length_replicate]
       omega
      generalize hC:(s.data.toList.map fun b=>Value.int .u8 b.toNat).toArray++(List.replicate (grownCap w s.size 0 e-s.size) (Value.int .u8 0)).toArray=C at harr hCs
      have hsh:(w.drew.alloc (.cells C e)).shape? w.heap.size=some (e,C.size):=by
       have:(w.drew.alloc (.cells C e)).heap[w.heap.size]? = some (.cells C e):=by
        show(w.heap.push (.cells C e))[w.heap.size]? = _
        simp
       unfold World.shape?
       rw[this]
      have hfr:=DT w.drew C e C.size
      have hch:(Question.appendCap s.size 0 e).cut (w.tape w.drawn (.appendCap s.size 0 e))=grownCap w s.size 0 e:=rfl
      simp only[Conv.stringToBytes,Sem.run_bind,run_choose,Question.forced,Bool.false_eq_true,if_false,Result.andThen_ok,hch,harr,Go.newRow,run_newObj,Sem.run_pure,markStringish,run_shape,World.alloc_eq,World.drew_eq,World.size_drew]
      rw[hsh]
      simp only[run_freeze,Result.andThen_ok]
      rw[show(⟨w.heap.size,C.size,none⟩:Addr)=⟨w.drew.heap.size,C.size,none⟩from rfl,hfr,hCs,hss]
     have hv:cZ σ (s.data.toList.map fun b=>Value.int .u8 b.toNat) (s.data.toList.map fun b=>Value.int .u8 b.toNat):=cZ.simple (fun v hv=>by
      obtain⟨b,_,rfl⟩:=List.mem_map.1 hv;rfl)
     have hor:=OR.grown (E:=E) hte hv w.drew.heap.size _ (rest:=List.replicate (grownCap w s.size 0 e-s.size) (Value.int .u8 0)) rfl (grownCap w s.size 0 e,grownCap w s.size 0 e+1) (.inr (by simp only[List.length_map,List.length_replicate];omega))
     obtain⟨hm',hf'⟩:=h.drew.new (id:=m.n) (h.fresh m.n (Nat.le_refl _)) (n':=m.n+1) (by omega) (by omega) (x:=⟨w.drew.heap.size,0,_,te.size,.nilFunc⟩) rfl hor
     have hf':=hf' (Nat.le_refl _)
     refine iF rfl (XA.trans hrun) (.slice (x:=⟨w.drew.heap.size,0,_,te.size,.nilFunc⟩) (if_pos rfl) (fun hc=>absurd hc (Nat.lt_irrefl _)) (fun _=>⟨by omega,?_⟩)) hm' ⟨hf'.ext,hf'.size,hf'.frame,hf'.grow,hf'.n,hf'.old⟩
     simp only[List.length_map,List.length_replicate,hs1]
     omega
    ·cases ha
   ·cases ha
  ·rename_i e a n c hd
   split at ha
   ·rename_i te cells k e' hte hbe hrow
    obtain rfl:=Nat.eq_of_beq_eq_true hbe
    obtain⟨hue,i,z,hi,hsz,_⟩:=hE.types e te hte
    split at ha
    ·rename_i hde
     cases ha
     rw[hde]at hue
     rw[hd]at hud
     rcases hx.fQ with⟨h1,_⟩|⟨j,o,y,c',h1,rfl,hy,hc1,hc2⟩
     ·cases h1
     ·cases h1
      obtain⟨C,fz,hB,eu,hf,hN,hn,hti,hc⟩:=h.row hrow hy
      have hrun:(convert src src (.slice (some ⟨y.b,y.sh+o,none⟩) n c')).run P w =.ok (.slice (some ⟨y.b,y.sh+o,none⟩) n c') (w.freeze ⟨y.b,C.size,none⟩ 1):=by
       simp[convert,run_underlying hud,run_underlying hue,markStringish,World.shape?,eu]
      obtain⟨f1,f2,f3,f4⟩:=LD w ⟨y.b,C.size,none⟩
      have ht:=h.turn (o :=.row cells k e') (o' :=.row cells k e') hrow rfl hy rfl (w':=w.freeze ⟨y.b,C.size,none⟩ 1) f4 (fun q hq=>xC w _ q hq) f1 f2 f3 (zW eu C.size)
       ⟨rfl,by
         rcases hf with h2|h2
         ·rw[h2];simp only[BEq.rfl,if_true];exact .inr (Nat.le_refl _)
         ·split
          ·exact .inr (Nat.le_refl _)
          ·exact .inr (by simp only;omega),hN,hn,hti,hc⟩
      have hm2:MR E w0 σ m (w.freeze ⟨y.b,C.size,none⟩ 1):=by
       obtain⟨t1,t2⟩:=ht
       have key:∀{q p},m.t.get q=some p→(m.t.set j (.row cells k e')).get q=some p:=by
        intro q p hq
        by_cases e:j=q
        ·subst e;rw[T.get_set_same];rw[hrow]at hq;exact hq
        ·rw[T.bC _ _ e];exact hq
       exact⟨t1.below,h.t0,fun q p hq hp=>t1.obj q p (key hq) hp,h.inj,h.fresh⟩
      refine iF rfl hrun (.slice hy hc1 hc2) hm2 ⟨Ext.refl σ,by rw[f4];exact Nat.le_refl _,fun b hb hl=>xC w _ b (fun e=>hl (e▸dY.of hrow rfl hy)),fun b hb => .inl hb,Nat.le_refl _,fun _ _=>rfl⟩
    ·cases ha
   ·cases ha
  ·rename_i e a b hs hd
   split at ha
   ·rename_i te hte
    obtain⟨hue,_⟩:=hE.types e te hte
    split at ha
    ·rename_i hde
     cases ha
     rw[hde]at hue;rw[hs]at Iy;rw[hd]at hud
     obtain rfl:=hx.aB rfl
     exact bT rfl (run_convert_bytes_nil w src e Iy hue a b dst hud) (.refl rfl)
    ·cases ha
   ·cases ha
  ·rename_i e a n c hs hd
   split at ha
   ·rename_i te cells k e' hte hrow
    obtain⟨hue,_⟩:=hE.types e te hte
    split at ha
    ·rename_i hde hle
     have hle':=Nat.le_of_ble_eq_true hle
     split at ha
     ·rename_i l hl
      split at ha
      ·rename_i bs hbs
       cases ha
       rw[hde]at hue;rw[hs]at Iy;rw[hd]at hud
       rcases hx.fQ with⟨h1,_⟩|⟨j,o,y,c',h1,rfl,hy,hc1,hc2⟩
       ·cases h1
       ·cases h1
        obtain⟨l',hrun,hv,hlen⟩:=wm (P:=P) h hrow hy hle' hl
        obtain⟨ns,rfl,hns⟩:=Im hbs hv
        have h1:=run_bytesToString (P:=P) w ⟨y.b,y.sh+o,none⟩ n c' ns hrun
        rw[foldl_push_bytes]at h1
        refine bT rfl (v' :=.string ⟨bs.toArray⟩) ?_ (.refl rfl)
        rw[run_convert_bytes_string w src dst e _ _ _ Iy hue hud,h1,hns]
        simp[ByteArray.empty,ByteArray.emptyWithCapacity]
        rfl
      ·cases ha
     ·cases ha
    ·cases ha
   ·cases ha
  ·rename_i e a hs hd
   split at ha
   ·rename_i te cells n e' hte hrow
    split at ha
    ·rename_i q hq hle
     have hle':=Nat.le_of_ble_eq_true hle
     cases ha
     obtain⟨_,i,z,hi,hsz,_⟩:=hE.types e te hte
     rw[hs]at Iy;rw[hd]at hud
     cases hx with
     | refl hs'=>simp[simple]at hs'
     | ptr hy =>
       rename_i j o y
       obtain⟨C,fz,hB,eu,hf,hN,hn,_,hc⟩:=h.row hrow hy
       simp only at hle'
       obtain⟨u,u',hu1,hu2,hr⟩:=hc o (by omega)
       refine bT rfl (run_convert_to_unsafe (t:=e) Iy hud ?_ ((kE eu).trans hu2)) (.ptr hy)
       rw[hi]
       simp only[Option.map_some,hsz,hq]
       rfl
    ·cases ha
   ·cases ha
  ·cases ha
 ·cases ha
end Go.AS
namespace Go.AS
open Go.RowKit
variable [bH]
variable {E:Env} {P:Program} {w0:World} {σ:Sg} {m:Mem} {w:World}
theorem Jg (hE:jO E P) {t:TypeId} (h:Ee E t=true) (b:Bool) (n:Nat) (v:Value) (w:World):(Instr.checkKey b (n+1) t v).run P w =.ok () w:=by
 unfold Ee at h
 split at h
 ·rename_i ti hti
  obtain⟨hu,_⟩:=hE.types t ti hti
  split at h
  ·rename_i k hd;simp only[Instr.checkKey,Sem.run_bind,run_underlying hu,Result.andThen_ok,hd];rfl
  ·rename_i hd;simp only[Instr.checkKey,Sem.run_bind,run_underlying hu,Result.andThen_ok,hd];rfl
  ·rename_i hd;simp only[Instr.checkKey,Sem.run_bind,run_underlying hu,Result.andThen_ok,hd];rfl
  ·cases h
 ·cases h
theorem wD (hE:jO E P) {t:TypeId} {ti:TI} (hti:E.types.get t=some ti) {k k':Value} (h:Fx E ti.desc k=true) (hk:VR σ k k') (b:Bool) (n:Nat) (w:World):(Instr.checkKey b (n+2) t k').run P w =.ok () w:=by
 obtain⟨hu,_⟩:=hE.types t ti hti
 unfold Fx at h
 split at h
 ·rename_i hd;simp only[Instr.checkKey,Sem.run_bind,run_underlying hu,Result.andThen_ok,hd];rfl
 ·rename_i hd;simp only[Instr.checkKey,Sem.run_bind,run_underlying hu,Result.andThen_ok,hd];rfl
 ·rename_i fs cs hd
  obtain⟨cs',rfl,hcs⟩:=hk.kZ
  have hb0:∀{t:TypeId},Ee E t=true→∀(v:Value) (w:World),(Instr.checkKey b (n+1) t v).run P w =.ok () w:=fun h v w=>Jg hE h b n v w
  rw[Instr.checkKey]
  generalize Instr.checkKey b (n+1)=g at hb0
  simp only[Sem.run_bind,run_underlying hu,Result.andThen_ok,hd]
  rw[←Array.forIn_toList]
  generalize fs.toList=l at h
  clear hd hk
  induction l with
  | nil=>simp
  | cons f l ih =>
    simp only[qW]at h
    simp only[List.forIn_cons,Sem.run_bind,Sem.run_ite]
    split at h
    ·rename_i hn
     rw[if_neg (by simpa using hn)]
     simpa using ih h
    ·rename_i hn
     rw[if_pos (by simpa using hn)]
     split at h
     ·rename_i v hb hp
      obtain⟨v',hv1,hv2⟩:=j6 hE hp hcs w
      rw[hv1]
      simp only[Result.andThen_ok,hb0 hb]
      simpa using ih h
     ·cases h
 ·cases h
theorem rR {d:TypeDesc} {a b a' b':Value} {r:Bool} (h:uG d a b=some r) (ha:VR σ a a') (hb:VR σ b b'):Instr.sameNow d a' b'=some r:=by
 unfold uG at h
 split at h
 ·split at h
  ·rename_i hk
   cases h
   obtain rfl:=jm hk
   obtain rfl:=ha.aB rfl;obtain rfl:=hb.aB rfl
   simp[Instr.sameNow]
  ·cases h
 ·cases h
  obtain rfl:=ha.aB rfl;obtain rfl:=hb.aB rfl
  simp[Instr.sameNow,beq_toListBytes,oD]
 ·cases h
def nA (σ:Sg) (es:List MapEntry) (es':List MapEntry):Prop:=es.length=es'.length∧∀(i:Nat) (a b:MapEntry),es[i]? = some a→es'[i]? = some b→a.born=b.born∧VR σ a.key b.key∧VR σ a.val b.val
theorem nA.head {a b:MapEntry} {l l':List MapEntry} (h:nA σ (a::l) (b::l')):a.born=b.born∧VR σ a.key b.key∧VR σ a.val b.val:=h.2 0 a b rfl rfl
theorem nA.tail {a b:MapEntry} {l l':List MapEntry} (h:nA σ (a::l) (b::l')):nA σ l l':=⟨by simpa using h.1,fun i x y hx hy=>h.2 (i+1) x y (by simpa using hx) (by simpa using hy)⟩
theorem nA.cons_inv {a:MapEntry} {l l':List MapEntry} (h:nA σ (a::l) l'):∃b r,l'=b::r:=by
 cases l' with
 | nil=>exact absurd h.1 (by simp)
 | cons b r=>exact⟨b,r,rfl⟩
theorem nA.jW {l':List MapEntry} (h:nA σ [] l'):l'=[]:=List.eq_nil_of_length_eq_zero h.1.symm
theorem nA.cons {a b:MapEntry} {l l':List MapEntry} (h:a.born=b.born∧VR σ a.key b.key∧VR σ a.val b.val) (hl:nA σ l l'):nA σ (a::l) (b::l') :=
 ⟨by simp[hl.1],fun i x y hx hy=>by
   cases i with
   | zero=>cases hx;cases hy;exact h
   | succ i=>exact hl.2 i x y (by simpa using hx) (by simpa using hy)⟩
theorem MR.tH (h:MR E w0 σ m w) {r:Nat} {es:List MapEntry} {clock:Nat} (hr:m.t.get r=some (.map es clock)) {x:Inf} (hx:σ r=some x) :
 ∃es':Array MapEntry,w.heap[x.b]? = some (.map es' clock)∧nA σ es es'.toList:=by
 obtain⟨y,ob,hy,hB,eu,hor⟩:=h.obj r _ hr rfl
 obtain rfl:y=x:=by rw[hx]at hy;exact(Option.some.inj hy).symm
 cases ob with
 | map es' c' =>
   obtain⟨rfl,h2,h3⟩:=hor
   exact⟨es',eu,by simpa using h2,fun i a b ha hb=>h3 i a b ha (by simpa using hb)⟩
 | _=>exact hor.elim
def FR (σ:Sg):Option (Nat×Value)→Option (Nat×Value)→Prop
 | none,none=>True
 | some (i,v),some (j,v')=>i=j∧VR σ v v'
 | _,_=>False
theorem Bq {t:TypeId} {d:TypeDesc} (hd:∀fs,d ≠ .struct fs) {k k':Value} (hk:VR σ k k'):∀{es es':List MapEntry} {i:Nat} {r:Option (Nat×Value)},qy E t d k es i=some r→nA σ es es' →
 ∃r',Instr.findNow d k' es' i=some r'∧FR σ r r':=by
 intro es
 induction es with
 | nil =>
   intro es' i r h he
   obtain rfl:=he.jW
   simp[qy]at h;subst h
   exact⟨none,rfl,trivial⟩
 | cons e es ih =>
   intro es' i r h he
   obtain⟨e',es',rfl⟩:=he.cons_inv
   obtain⟨_,hkk,hvv⟩:=he.head
   have hkq:Ke E t d k e.key=uG d k e.key:=by
    unfold Ke
    split
    ·rename_i fs;exact absurd rfl (hd fs)
    ·rfl
   simp only[qy,hkq]at h
   simp only[Instr.findNow]
   split at h
   ·rename_i hs;cases h
    rw[rR hs hk hkk]
    exact⟨_,rfl,rfl,hvv⟩
   ·rename_i hs
    rw[rR hs hk hkk]
    exact ih h he.tail
   ·cases h
theorem Br (hE:jO E P) {t:TypeId} {fs:Array Field} {k k':Value} (hk:VR σ k k'):∀{es es':List MapEntry} {i:Nat} {r:Option (Nat×Value)},qy E t (.struct fs) k es i=some r→nA σ es es'→∀w:World,
 ∃r',(Instr.findAsking t k' es' i).run P w =.ok r' w∧FR σ r r':=by
 intro es
 induction es with
 | nil =>
   intro es' i r h he w
   obtain rfl:=he.jW
   simp[qy]at h;subst h
   exact⟨none,rfl,trivial⟩
 | cons e es ih =>
   intro es' i r h he w
   obtain⟨e',es',rfl⟩:=he.cons_inv
   obtain⟨_,hkk,hvv⟩:=he.head
   simp only[qy,Ke]at h
   simp only[Instr.findAsking,Sem.run_bind,Op.equal]
   split at h
   ·rename_i hs;cases h
    rw[jr hE _ _ _ _ _ _ _ hs hk hkk Op.maxDepth (by decide) w]
    exact⟨some (i,e'.val),by simp,rfl,hvv⟩
   ·rename_i hs
    rw[jr hE _ _ _ _ _ _ _ hs hk hkk Op.maxDepth (by decide) w]
    obtain⟨r',h1,h2⟩:=ih h he.tail w
    exact⟨r',by simpa using h1,h2⟩
   ·cases h
theorem gp (hE:jO E P) {t:TypeId} {ti:TI} (hti:E.types.get t=some ti) {k k':Value} (hk:VR σ k k') {es es':List MapEntry} {r:Option (Nat×Value)} (h:qy E t ti.desc k es 0=some r) (he:nA σ es es') (w:World) :
 ∃r',(Instr.findKey t k' es').run P w =.ok r' w∧FR σ r r':=by
 obtain⟨hu,_⟩:=hE.types t ti hti
 by_cases hd:∃fs,ti.desc =.struct fs
 ·obtain⟨fs,hd⟩:=hd
  rw[hd]at h hu
  obtain⟨r',h1,h2⟩:=Br hE hk h he w
  unfold Instr.findKey
  simp only[Sem.run_bind,run_underlying hu,Result.andThen_ok]
  cases es' with
  | nil =>
    simp only[Instr.findNow,Sem.run_pure]
    simp only[Instr.findAsking,Sem.run_pure]at h1
    cases h1
    exact⟨none,rfl,h2⟩
  | cons e es' =>
    have:Instr.findNow (.struct fs) k' (e::es') 0=none:=by
     have h0:Instr.sameNow (.struct fs) k' e.key=none:=by
      cases k'<;>cases e.key<;>rfl
     simp[Instr.findNow,h0]
    rw[this]
    exact⟨r',h1,h2⟩
 ·obtain⟨r',h1,h2⟩:=Bq (fun fs e=>hd ⟨fs,e⟩) hk h he
  refine⟨r',?_,h2⟩
  unfold Instr.findKey
  simp[run_underlying hu,h1]
theorem oL (hE:jO E P) {t k:TypeId} {tk te:TI} (h:mapType E t=some (k,tk,te)):∃e,P.underlying t=some (.map k e)∧E.types.get k=some tk∧E.types.get e=some te:=by
 unfold mapType at h
 split at h
 ·rename_i ti hti
  obtain⟨hu,_⟩:=hE.types t ti hti
  split at h
  ·rename_i k' e hd
   split at h
   ·rename_i tk' te' h1 h2
    cases h
    exact⟨e,by rw[hu,hd],h1,h2⟩
   ·cases h
  ·cases h
 ·cases h
theorem uo (hE:jO E P) {e:TypeId} {te:TI} (h:E.types.get e=some te) (w:World):∃z,(zeroValue e).run P w =.ok z w∧VR σ (zeroOf te) z:=by
 obtain⟨hu,i,z,hi,hsz,hby,hz,hzc,hzl,hzs,hz1⟩:=hE.types e te h
 refine⟨z,rP hi hz w,?_⟩
 cases hag:yB te.desc with
 | false =>
   have h0:=hz1.1 hag
   have:zeroOf te=z:=by
    unfold zeroOf
    rw[h0,hag]
   rw[this]
   exact .refl (hzs z (by rw[h0];simp))
 | true =>
   have h0:=hz1.2 hag
   have:zeroOf te =.agg te.zero.toArray:=by
    unfold zeroOf
    rw[hag]
   rw[h0,this]
   exact .wT (by simpa using cZ.simple hzs)
theorem run_getObj_map {w:World} {r:Nat} {es:Array MapEntry} {c:Nat} (h:w.heap[r]? = some (.map es c)):(getObj r).run P w =.ok (.map es c) w:=by
 simp[getObj,Sem.run,h]
theorem Dw (hE:jO E P) (h:MR E w0 σ m w) {t:TypeId} {x x' k k' v:Value} {ok:Bool} (ha:Dx E t x k ok m=some v) (hx:VR σ x x') (hk:VR σ k k'):∃v',(Instr.lookup t x' k' ok).run P w =.ok v' w∧VR σ v v':=by
 unfold Dx at ha
 split at ha
 ·rename_i kt tk te hmt
  obtain⟨e,hu,htk,hte⟩:=oL hE hmt
  split at ha
  ·cases ha
  ·rename_i hko
   obtain⟨z,hz1,hz2⟩:=uo (σ:=σ) hE hte w
   have hck:∀b,(Instr.checkKey b 10000 kt k').run P w =.ok () w:=fun b=>wD hE htk hko hk b 9998 w
   have Zv:∀{a a':Value} {b:Bool},VR σ a a'→VR σ (.tuple #[a,.bool b]) (.tuple #[a',.bool b]):=fun ha => .ig (cZ.cons ha (cZ.cons (.refl rfl) (cZ.nil σ)))
   split at ha
   ·cases ha
    obtain rfl:=hx.aB rfl
    refine⟨cond ok (.tuple #[z,.bool false]) z,?_,by cases ok;exact hz2;exact Zv hz2⟩
    have hf:(Instr.findKey kt k' []).run P w =.ok none w:=by
     obtain⟨r',h1,h2⟩:=gp (es:=[]) (es':=[]) (r:=none) hE htk hk rfl ⟨rfl,fun i a b ha=>by simp at ha⟩ w
     cases r' with
     | none=>exact h1
     | some _=>exact h2.elim
    simp only[Instr.lookup,Sem.run_bind,run_underlying hu,Result.andThen_ok,Sem.run_pure,hck,hf,hz1]
    cases ok<;>rfl
   ·rename_i r
    split at ha
    ·rename_i es clock hrow
     cases hx with
     | refl hs=>simp[AS.simple]at hs
     | map hy =>
       obtain⟨es',eu,her⟩:=h.tH hrow hy
       split at ha
       ·rename_i i v0 hf
        cases ha
        obtain⟨r',h1,h2⟩:=gp hE htk hk hf her w
        cases r' with
        | none=>exact h2.elim
        | some q =>
          obtain⟨j,v1⟩:=q
          obtain⟨_,hv⟩:=h2
          refine⟨cond ok (.tuple #[v1,.bool true]) v1,?_,by cases ok;exact hv;exact Zv hv⟩
          simp only[Instr.lookup,Sem.run_bind,run_underlying hu,Result.andThen_ok,run_getObj_map eu,Sem.run_pure,hck,h1]
          cases ok<;>rfl
       ·rename_i hf
        cases ha
        obtain⟨r',h1,h2⟩:=gp hE htk hk hf her w
        cases r' with
        | some _=>exact h2.elim
        | none =>
          refine⟨cond ok (.tuple #[z,.bool false]) z,?_,by cases ok;exact hz2;exact Zv hz2⟩
          simp only[Instr.lookup,Sem.run_bind,run_underlying hu,Result.andThen_ok,run_getObj_map eu,Sem.run_pure,hck,h1,hz1]
          cases ok<;>rfl
       ·cases ha
    ·cases ha
   ·cases ha
 ·cases ha
end Go.AS
namespace Go.AS
open Go.RowKit
variable [bH]
variable {E:Env} {P:Program} {w0:World} {σ:Sg} {m:Mem} {w:World}
theorem CS {k v k' v':Value} (hk:VR σ k k') (hv:VR σ v v'):∀{es es':List MapEntry} (i:Nat),nA σ es es'→nA σ (zg es i k v) (es'.modify i fun e=>{ e with key:=k',val:=v' }):=by
 intro es
 induction es with
 | nil=>intro es' i h;obtain rfl:=h.jW;cases i<;>exact⟨rfl,fun i a b ha=>by simp[zg]at ha⟩
 | cons e es ih =>
   intro es' i h
   obtain⟨e',es',rfl⟩:=h.cons_inv
   cases i with
   | zero=>exact nA.cons ⟨h.head.1,hk,hv⟩ h.tail
   | succ i=>exact nA.cons h.head (ih i h.tail)
theorem Bv:∀{es es':List MapEntry} (i:Nat),nA σ es es'→nA σ (vJ es i) (es'.eraseIdx i):=by
 intro es
 induction es with
 | nil=>intro es' i h;obtain rfl:=h.jW;exact⟨rfl,fun i a b ha=>by simp[vJ]at ha⟩
 | cons e es ih =>
   intro es' i h
   obtain⟨e',es',rfl⟩:=h.cons_inv
   cases i with
   | zero=>exact h.tail
   | succ i=>exact nA.cons h.head (ih i h.tail)
theorem nA.append {a a' b b':List MapEntry} (h:nA σ a a') (k:nA σ b b'):nA σ (a++b) (a'++b'):=by
 induction a generalizing a' with
 | nil=>obtain rfl:=h.jW;exact k
 | cons x a ih=>obtain⟨y,a',rfl⟩:=h.cons_inv;exact nA.cons h.head (ih h.tail)
theorem Ce {a b a' b':Value} (h:Yh a b=true) (ha:VR σ a a') (hb:VR σ b b'):a'=b'∧∀n,Instr.sameBits (n+1) a' a'=true:=by
 unfold Yh at h
 split at h
 ·obtain rfl:=ha.aB rfl;obtain rfl:=hb.aB rfl
  simp only[Bool.and_eq_true,beq_iff_eq]at h
  obtain⟨h1,rfl⟩:=h
  obtain rfl:=jm h1
  exact⟨rfl,fun n=>by simp[Instr.sameBits]⟩
 ·obtain rfl:=ha.aB rfl;obtain rfl:=hb.aB rfl
  rename_i x y
  have:x=y:=by
   have h1:x.data.toList=y.data.toList:=by simpa using h
   apply ByteArray.ext
   apply Array.ext'
   exact h1
  subst this
  exact⟨rfl,fun n=>by simp only[Instr.sameBits];rw[beq_toListBytes];simp⟩
 ·obtain rfl:=ha.aB rfl;obtain rfl:=hb.aB rfl
  rename_i p q
  have:p=q:=by simpa using h
  subst this
  exact⟨rfl,fun n=>by simp[Instr.sameBits]⟩
 ·cases h
theorem Bw:∀{l r l' r':List Value},ru l r=true→cZ σ l l'→cZ σ r r'→l'=r'∧∀n,(l'.zip l').all (fun(x,y)=>Instr.sameBits (n+1) x y)=true:=by
 intro l
 induction l with
 | nil =>
   intro r l' r' h hl hr
   cases r with
   | cons _ _=>simp[ru]at h
   | nil =>
     obtain rfl:l'=[]:=List.eq_nil_of_length_eq_zero hl.1.symm
     obtain rfl:r'=[]:=List.eq_nil_of_length_eq_zero hr.1.symm
     exact⟨rfl,fun n=>rfl⟩
 | cons a l ih =>
   intro r l' r' h hl hr
   cases r with
   | nil=>simp[ru]at h
   | cons b r =>
     simp only[ru]at h
     cases l' with
     | nil=>exact absurd hl.1 (by simp)
     | cons a' l' =>
       cases r' with
       | nil=>exact absurd hr.1 (by simp)
       | cons b' r' =>
         cases h1:Yh a b with
         | false=>rw[h1]at h;cases h
         | true =>
           rw[h1]at h
           obtain⟨rfl,h2⟩:=Ce h1 hl.head hr.head
           obtain⟨rfl,h3⟩:=ih h hl.tail hr.tail
           exact⟨rfl,fun n=>by simp only[List.zip_cons_cons,List.all_cons,h2 n,Bool.true_and];exact h3 n⟩
theorem FX {a b a' b':Value} (h:OB a b=true) (ha:VR σ a a') (hb:VR σ b b'):a'=b'∧∀n,Instr.sameBits (n+2) a' a'=true:=by
 unfold OB at h
 split at h
 ·obtain⟨x',rfl,hx⟩:=ha.kZ
  obtain⟨y',rfl,hy⟩:=hb.kZ
  obtain⟨h1,h2⟩:=Bw h hx hy
  have:x'=y':=Array.ext' h1
  subst this
  exact⟨rfl,fun n=>by
   have:=h2 n
   simp only[Instr.sameBits,BEq.rfl,Bool.true_and]
   exact this⟩
 ·obtain⟨h1,h2⟩:=Ce h ha hb
  exact⟨h1,fun n=>h2 (n+1)⟩
theorem DD {a:Value} (h:∀n,Instr.sameBits (n+2) a a=true) (w:World):(Instr.keyThatStays a a).run P w =.ok a w:=by
 unfold Instr.keyThatStays
 have:Instr.sameBits 10000 a a=true:=h 9998
 rw[if_pos this];rfl
theorem run_setObj_map {w:World} {r:Nat} {es es':Array MapEntry} {c c':Nat} (h:w.heap[r]? = some (.map es c)):(setObj r (.map es' c')).run P w =.ok () { w with heap:=w.heap.setIfInBounds r (.map es' c') }:=by
 simp[setObj,Sem.run,h]
theorem MR.CJ (h:MR E w0 σ m w) {r:Nat} {es es2:List MapEntry} {c c2:Nat} (hr:m.t.get r=some (.map es c)) {x:Inf} (hx:σ r=some x) {es':Array MapEntry} (eu:∃es0 c0,w.heap[x.b]? = some (.map es0 c0)) (he:nA σ es2 es'.toList) :
 MR E w0 σ ⟨m.n,m.t.set r (.map es2 c2)⟩ { w with heap:=w.heap.setIfInBounds x.b (.map es' c2) }∧FG σ m w σ ⟨m.n,m.t.set r (.map es2 c2)⟩ { w with heap:=w.heap.setIfInBounds x.b (.map es' c2) }:=by
 obtain⟨es0,c0,eu⟩:=eu
 have hlt:x.b<w.heap.size:=(Array.getElem?_eq_some_iff.1 eu).1
 refine h.turn hr rfl hx rfl (by simp) (fun k hk=>by simp[Ne.symm hk]) rfl rfl rfl (ob :=.map es' c2) (by simp[hlt]) ⟨rfl,by simpa using he.1,fun i a b ha hb=>he.2 i a b ha (by simpa using hb)⟩
theorem pI (hE:jO E P) (h:MR E w0 σ m w) {t:TypeId} {x x' k k' v v':Value} {m':Mem} (ha:tF E t x k v m=some m') (hx:VR σ x x') (hk:VR σ k k') (hv:VR σ v v') :
 ∃w',(Instr.mapUpdate t x' k' v').run P w =.ok () w'∧MR E w0 σ m' w'∧FG σ m w σ m' w':=by
 unfold tF at ha
 split at ha
 ·rename_i kt tk te r hmt
  obtain⟨e,hu,htk,hte⟩:=oL hE hmt
  split at ha
  ·rename_i es clock hko hrow
   have hck:(Instr.checkKey false 10000 kt k').run P w =.ok () w:=wD hE htk hko hk false 9998 w
   cases hx with
   | refl hs=>simp[AS.simple]at hs
   | map hy =>
     rename_i y
     obtain⟨es',eu,her⟩:=h.tH hrow hy
     split at ha
     ·rename_i i v0 hf
      obtain⟨r',h1,h2⟩:=gp hE htk hk hf her w
      cases r' with
      | none=>exact h2.elim
      | some q =>
        obtain⟨j,v1⟩:=q
        obtain⟨rfl,hv1⟩:=h2
        split at ha
        ·rename_i e0 he0
         split at ha
         ·rename_i hkey
          cases ha
          have hlt:i<es'.size:=by
           have h5:=(List.getElem?_eq_some_iff.1 he0).1
           have h6:=her.1
           simp only[Array.length_toList]at h6
           omega
          have hb:es'.toList[i]? = some es'[i]:=by simp[hlt]
          obtain⟨_,hkk,_⟩:=her.2 i e0 es'[i] he0 hb
          obtain⟨hke,hsb⟩:=FX hkey hkk hk
          obtain⟨hm',hf'⟩:=h.CJ (c2:=clock) (es2:=zg es i k v) (es':=es'.modify i fun e=>{ e with key:=k',val:=v' }) hrow hy ⟨es',clock,eu⟩ (by rw[Array.toList_modify];exact CS hk hv i her)
          refine⟨_,?_,hm',hf'⟩
          have hold:((es'[i]?).map (·.key)).getD k'=k':=by simp[hlt,hke]
          have hst:=DD (P:=P) (hke▸hsb) w
          simp only[Instr.mapUpdate,Sem.run_bind,run_underlying hu,Result.andThen_ok,run_getObj_map eu,hck,h1,hold,hst,run_setObj_map eu]
         ·cases ha
        ·cases ha
     ·rename_i hf
      cases ha
      obtain⟨r',h1,h2⟩:=gp hE htk hk hf her w
      cases r' with
      | some _=>exact h2.elim
      | none =>
        obtain⟨hm',hf'⟩:=h.CJ (c2:=clock+1) (es2:=es++[⟨k,v,clock⟩]) (es':=es'.push ⟨k',v',clock⟩) hrow hy ⟨es',clock,eu⟩ (by
         rw[Array.toList_push]
         exact her.append (nA.cons ⟨rfl,hk,hv⟩ ⟨rfl,fun i a b ha=>by simp at ha⟩))
        refine⟨_,?_,hm',hf'⟩
        simp only[Instr.mapUpdate,Sem.run_bind,run_underlying hu,Result.andThen_ok,run_getObj_map eu,hck,h1,run_setObj_map eu]
     ·cases ha
  ·cases ha
 ·cases ha
theorem DY (hE:jO E P) (h:MR E w0 σ m w) {t ty:TypeId} {ts:Array TypeId} (hts:ts[0]? = some t) {x x' k k':Value} {m':Mem} (ha:DZ E t x k m=some m') (hx:VR σ x x') (hk:VR σ k k') :
 ∃w',(Builtin.delete_ ts ty #[x',k']).run P w =.ok (.tuple #[]) w'∧MR E w0 σ m' w'∧FG σ m w σ m' w':=by
 unfold DZ at ha
 split at ha
 ·rename_i kt tk te hmt
  obtain⟨e,hu,htk,hte⟩:=oL hE hmt
  split at ha
  ·cases ha
  ·rename_i hko
   have hck:∀b,(Instr.checkKey b 10000 kt k').run P w =.ok () w:=fun b=>wD hE htk hko hk b 9998 w
   split at ha
   ·cases ha
    obtain rfl:=hx.aB rfl
    refine⟨w,?_,h,FG.refl σ m w⟩
    simp[Builtin.delete_,hts,run_underlying hu,hck]
   ·rename_i r
    split at ha
    ·rename_i es clock hrow
     cases hx with
     | refl hs=>simp[AS.simple]at hs
     | map hy =>
       rename_i y
       obtain⟨es',eu,her⟩:=h.tH hrow hy
       split at ha
       ·rename_i i v0 hf
        cases ha
        obtain⟨r',h1,h2⟩:=gp hE htk hk hf her w
        cases r' with
        | none=>exact h2.elim
        | some q =>
          obtain⟨j,v1⟩:=q
          obtain⟨rfl,hv1⟩:=h2
          obtain⟨hm',hf'⟩:=h.CJ (c2:=clock) (es2:=vJ es i) (es':=es'.eraseIdxIfInBounds i) hrow hy ⟨es',clock,eu⟩ (by
           rw[Array.toList_eraseIdxIfInBounds];exact Bv i her)
          refine⟨_,?_,hm',hf'⟩
          simp[Builtin.delete_,hts,run_underlying hu,hck,run_getObj_map eu,h1,run_setObj_map eu]
       ·rename_i hf
        cases ha
        obtain⟨r',h1,h2⟩:=gp hE htk hk hf her w
        cases r' with
        | some _=>exact h2.elim
        | none =>
          have hlt:y.b<w.heap.size:=(Array.getElem?_eq_some_iff.1 eu).1
          have hsame:({ w with heap:=w.heap.setIfInBounds y.b (.map es' clock) }:World)=w:=by
           have:w.heap.setIfInBounds y.b (.map es' clock)=w.heap:=by
            apply Array.ext_getElem?
            intro q
            rw[Array.getElem?_setIfInBounds]
            by_cases e:y.b=q
            ·subst e;rw[if_pos rfl,if_pos hlt,eu]
            ·rw[if_neg e]
           rw[this]
          refine⟨w,?_,h,FG.refl σ m w⟩
          simp[Builtin.delete_,hts,run_underlying hu,hck,run_getObj_map eu,h1,run_setObj_map eu,hsame]
       ·cases ha
    ·cases ha
   ·cases ha
 ·cases ha
theorem Lu (hE:jO E P) (h:MR E w0 σ m w) {t ty:TypeId} {x x' v:Value} (ha:TE E t x m=some v) (hx:VR σ x x'):∃v',(Builtin.len_ #[t] ty #[x']).run P w =.ok v' w∧VR σ v v':=by
 unfold TE at ha
 split at ha
 ·rename_i ti hti
  obtain⟨hu,_⟩:=hE.types t ti hti
  split at ha
  ·rename_i s hd
   cases ha
   obtain rfl:=hx.aB rfl
   have hss:s.size=s.data.toList.length:=by cases s;rfl
   exact⟨goInt s.size,by simp[Builtin.len_,run_underlying hu,hd],by rw[←hss];exact .refl rfl⟩
  ·rename_i a n c hd
   cases ha
   rcases hx.fQ with⟨_,rfl⟩|⟨_,_,_,_,_,rfl,_⟩<;>exact⟨goInt n,by simp[Builtin.len_,run_underlying hu,hd],.refl rfl⟩
  ·rename_i hd
   cases ha
   cases hx with
   | refl hs=>simp[AS.simple]at hs
   | sI a n c=>exact⟨goInt n,by simp[Builtin.len_,run_underlying hu,hd],.nC .i64 n⟩
  ·rename_i hd
   cases ha
   cases hx with
   | refl hs=>simp[AS.simple]at hs
   | pR a c=>exact⟨goInt 0,by simp[Builtin.len_,run_underlying hu,hd],.refl rfl⟩
  ·rename_i hd
   cases ha
   cases hx with
   | refl hs=>simp[AS.simple]at hs
   | iY s=>exact⟨goInt s.size,by simp[Builtin.len_,run_underlying hu,hd],.nC .i64 _⟩
  ·rename_i n e hd
   cases ha
   exact⟨goInt n,by cases x'<;>simp[Builtin.len_,run_underlying hu,hd],.refl rfl⟩
  ·rename_i hd
   cases ha
   obtain rfl:=hx.aB rfl
   exact⟨goInt 0,by simp[Builtin.len_,run_underlying hu,hd],.refl rfl⟩
  ·rename_i r hd
   split at ha
   ·rename_i es clock hrow
    cases ha
    cases hx with
    | refl hs=>simp[AS.simple]at hs
    | map hy =>
      obtain⟨es',eu,her⟩:=h.tH hrow hy
      have hl:es.length=es'.size:=by simpa using her.1
      exact⟨goInt es'.size,by simp[Builtin.len_,run_underlying hu,hd,run_getObj_map eu],by rw[←hl];exact .refl rfl⟩
   ·cases ha
  ·cases ha
 ·cases ha
theorem uY {mx:Bool} {ts:Array TypeId} {ty:TypeId} {x y x' y' v:Value} (h:zK mx x y=some v) (hx:VR σ x x') (hy:VR σ y y') (w:World) :
 (match mx with|true=>Builtin.max_ ts ty #[x',y']|false=>Builtin.min_ ts ty #[x',y']).run P w =.ok v w∧simple v=true:=by
 unfold zK at h
 split at h
 ·split at h
  ·rename_i hk
   cases h
   obtain rfl:=hx.aB rfl;obtain rfl:=hy.aB rfl
   cases mx
   ·exact⟨run_min_int2 w ts ty _ _ _ _,rfl⟩
   ·exact⟨run_max_int2 w ts ty _ _ _ _,rfl⟩
  ·cases h
 ·cases h
end Go.AS
